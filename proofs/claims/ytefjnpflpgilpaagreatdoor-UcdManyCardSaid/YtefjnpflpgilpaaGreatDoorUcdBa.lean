/- Plain: a number's figures read back. Conditions: a number up to 1114111. -/
import Derived.Test.YtefjnpflpgilpaaGreatDoorUcdS
import Derived.Test.YtefjnpflpgilpaaGreatDoorUcdF
import Derived.Test.YtefjnpflpgilpaaGreatDoorUcdP
namespace Go.Proofs.YtefjnpflpgilpaaGreatDoor
open Go.RowKit

theorem upper_low {n : Nat} (h : n < 16) : upper n = [udig n] := by unfold upper Lib.toUpperA; rw [hexS_low h]; simp [udig_dig n h]
theorem upper_high {n : Nat} (h : ¬ n < 16) : upper n = upper (n / 16) ++ [udig (n % 16)] := by
  unfold upper Lib.toUpperA
  rw [hexS_high h, List.map_append]
  simp [udig_dig (n % 16) (by omega)]
theorem udig_hexB (d : Nat) (h : d < 16) : hexB (udig d) = true := by
  revert d
  decide
theorem udig_hexd (d : Nat) (h : d < 16) : hexd (udig d).toNat = d := by
  revert d
  decide
theorem upper_hexB (n : Nat) : ∀ b ∈ upper n, hexB b = true := by
  induction n using Nat.strongRecOn with
  | _ n ih =>
    intro b hb
    by_cases h : n < 16
    · rw [upper_low h] at hb
      rw [List.mem_singleton.1 hb]
      exact udig_hexB n h
    · rw [upper_high h] at hb
      rcases List.mem_append.1 hb with hb | hb
      · exact ih (n / 16) (by omega) b hb
      · rw [List.mem_singleton.1 hb]
        exact udig_hexB _ (by omega)
theorem hexN_append (xs ys : List UInt8) : ∀ acc, hexN acc (xs ++ ys) = hexN (hexN acc xs) ys := by
  induction xs with
  | nil => intro acc; rfl
  | cons x xs ih => intro acc; exact ih _
theorem hexN_upper (n : Nat) : hexN 0 (upper n) = n := by
  induction n using Nat.strongRecOn with
  | _ n ih =>
    by_cases h : n < 16
    · rw [upper_low h]
      show 0 * 16 + hexd (udig n).toNat = n
      rw [udig_hexd n h]
      omega
    · rw [upper_high h, hexN_append, ih (n / 16) (by omega)]
      show n / 16 * 16 + hexd (udig (n % 16)).toNat = n
      rw [udig_hexd _ (by omega)]
      omega
theorem hexN_zeros (k : Nat) : hexN 0 (List.replicate k 48) = 0 := by
  induction k with
  | zero => rfl
  | succ k ih => rw [List.replicate_succ]; exact ih
theorem figL_hexB (n : Nat) : ∀ b ∈ figL n, hexB b = true := by
  intro b hb
  unfold figL at hb
  rcases List.mem_append.1 hb with hb | hb
  · rw [(List.mem_replicate.1 hb).2]; decide
  · exact upper_hexB n b hb
theorem figL_len (n : Nat) (h : n ≤ 1114111) : 4 ≤ (figL n).length ∧ (figL n).length ≤ 6 := by
  have := hexS_length 5 n (by omega)
  simp only [figL, List.length_append, List.length_replicate, upper_length]
  omega
theorem hexOf_figL (n : Nat) (h : n ≤ 1114111) : hexOf (figL n) = some n := by
  obtain ⟨h4, h6⟩ := figL_len n h
  have hn : hexN 0 (figL n) = n := by
    unfold figL
    rw [hexN_append, hexN_zeros, hexN_upper]
  unfold hexOf
  rw [if_pos ⟨h4, h6, List.all_eq_true.2 (figL_hexB n), by rw [hn]; exact h⟩, hn]
/-- a text cut at a byte that the first part lacks -/
theorem splitL_skip (c : UInt8) (p q : List UInt8) (h : c ∉ p) : splitL c (p ++ c :: q) = p :: splitL c q := by
  induction p with
  | nil => simp [splitL]
  | cons x p ih =>
    have hx : (x == c) = false := by
      cases e : x == c with
      | false => rfl
      | true =>
        have e2 : x = c := by simpa using e
        exact (h (by rw [e2]; exact List.mem_cons_self ..)).elim
    rw [List.cons_append, splitL, ih (fun hm => h (List.mem_cons_of_mem _ hm))]
    simp [hx]
theorem splitL_none (c : UInt8) (p : List UInt8) (h : c ∉ p) : splitL c p = [p] := by
  induction p with
  | nil => rfl
  | cons x p ih =>
    have hx : (x == c) = false := by
      cases e : x == c with
      | false => rfl
      | true =>
        have e2 : x = c := by simpa using e
        exact (h (by rw [e2]; exact List.mem_cons_self ..)).elim
    rw [splitL, ih (fun hm => h (List.mem_cons_of_mem _ hm))]
    simp [hx]
end Go.Proofs.YtefjnpflpgilpaaGreatDoor
