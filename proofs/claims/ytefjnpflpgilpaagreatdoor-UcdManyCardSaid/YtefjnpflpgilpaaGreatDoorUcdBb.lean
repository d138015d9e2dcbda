/- Plain: trimming, cutting at two dots. Conditions: none. -/
import Derived.Test.YtefjnpflpgilpaaGreatDoorUcdBa
import Derived.Test.YtefjnpflpgilpaaGreatDoorUcdL
import Derived.Test.YtefjnpflpgilpaaGreatDoorUcdQ
namespace Go.Proofs.YtefjnpflpgilpaaGreatDoor
open Go.RowKit

theorem dropWhile_skip (f : UInt8 → Bool) (xs ys : List UInt8) (h : ∀ b ∈ xs, f b = true) : (xs ++ ys).dropWhile f = ys.dropWhile f := by
  induction xs with
  | nil => rfl
  | cons x xs ih =>
    rw [List.cons_append, List.dropWhile_cons, if_pos (h x (List.mem_cons_self ..))]
    exact ih (fun b hb => h b (List.mem_cons_of_mem _ hb))
theorem dropWhile_keep (f : UInt8 → Bool) (xs ys : List UInt8) (h : ∀ b ∈ xs, f b = false) (hne : xs ≠ []) : (xs ++ ys).dropWhile f = xs ++ ys := by
  cases xs with
  | nil => exact absurd rfl hne
  | cons x xs => rw [List.cons_append, List.dropWhile_cons, if_neg (by rw [h x (List.mem_cons_self ..)]; simp)]
theorem trimB_pad (pre p post : List UInt8) (hp : ∀ b ∈ p, [32, 9].contains b = false) (h1 : ∀ b ∈ pre, [32, 9].contains b = true) (h2 : ∀ b ∈ post, [32, 9].contains b = true) (hne : p ≠ []) : trimB (pre ++ (p ++ post)) = p := by
  unfold trimB Lib.trimS Lib.trimRightS Lib.trimLeftS
  have e : (pre ++ (p ++ post)).reverse = post.reverse ++ (p.reverse ++ pre.reverse) := by simp
  rw [e, dropWhile_skip _ _ _ (fun b hb => h2 b (by simpa using hb)), dropWhile_keep _ _ _ (fun b hb => hp b (by simpa using hb)) (by simpa using hne)]
  have e2 : (p.reverse ++ pre.reverse).reverse = pre ++ p := by simp
  rw [e2, dropWhile_skip _ _ _ h1]
  have := dropWhile_keep ([32, 9].contains ·) p [] hp hne
  rw [List.append_nil] at this
  exact this
theorem index_dots (p q : List UInt8) (h : 46 ∉ p) : Lib.index (p ++ 46 :: 46 :: q) [46, 46] = p.length := by
  induction p with
  | nil => simp [Lib.index]
  | cons x p ih =>
    have hx : x ≠ 46 := fun e => h (by rw [e]; exact List.mem_cons_self ..)
    have hx2 : ¬ (46 : UInt8) = x := fun e => hx e.symm
    rw [List.cons_append, Lib.index, ih (fun hm => h (List.mem_cons_of_mem _ hm))]
    have hn : ¬ ((p.length : Int) == -1) = true := by
      intro e
      have := beq_iff_eq.1 e
      omega
    rw [if_neg (by simp [hx2]), if_neg hn]
    simp
theorem index_nodots (p : List UInt8) (h : 46 ∉ p) : Lib.index p [46, 46] = -1 := by
  induction p with
  | nil => rfl
  | cons x p ih =>
    have hx2 : ¬ (46 : UInt8) = x := fun e => h (by rw [← e]; exact List.mem_cons_self ..)
    rw [Lib.index, ih (fun hm => h (List.mem_cons_of_mem _ hm))]
    rw [if_neg (by simp [hx2])]
    rfl
theorem cut_dots (p q : List UInt8) (h : 46 ∉ p) : Lib.cut (p ++ 46 :: 46 :: q) [46, 46] = (p, q, true) := by
  unfold Lib.cut
  rw [index_dots p q h, if_pos (by omega)]
  simp
theorem cut_nodots (p : List UInt8) (h : 46 ∉ p) : Lib.cut p [46, 46] = (p, [], false) := by
  unfold Lib.cut
  rw [index_nodots p h, if_neg (by omega)]
/-- a right entry's numbers, as its line bears them -/
def RE.first (E : RE) : List UInt8 := figL E.a.toNat ++ (if E.a < E.b then 46 :: 46 :: figL E.b.toNat else [])
theorem figL_plain (n : Nat) (b : UInt8) (h : b ∈ figL n) : (48 ≤ b.toNat ∧ b.toNat ≤ 57) ∨ (65 ≤ b.toNat ∧ b.toNat ≤ 70) := hexB_cases (figL_hexB n b h)
theorem figL_no (n : Nat) (c : UInt8) (hc : c.toNat < 48) : c ∉ figL n := fun h => by have := figL_plain n c h; omega
theorem spanOf_first {E : RE} (h : E.ok = true) : spanOf E.first = some (E.a.toNat, E.b.toNat) := by
  obtain ⟨p1, p2, p3, _, _⟩ := RE.ok_parts h
  unfold spanOf RE.first
  by_cases hab : E.a < E.b
  · rw [if_pos hab, cut_dots _ _ (figL_no _ 46 (by decide))]
    simp only [hexOf_figL E.a.toNat (by omega), hexOf_figL E.b.toNat (by omega), if_true]
  · have e : E.a = E.b := by omega
    rw [if_neg hab, List.append_nil, cut_nodots _ (figL_no _ 46 (by decide))]
    simp only [e]
    rw [hexOf_figL E.b.toNat (by omega)]
    rfl
end Go.Proofs.YtefjnpflpgilpaaGreatDoor
