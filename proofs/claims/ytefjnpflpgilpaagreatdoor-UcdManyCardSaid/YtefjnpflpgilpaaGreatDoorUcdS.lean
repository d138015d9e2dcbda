/- The walk of the reference's figures. Conditions: a number from 0 to 4294967295. -/
import Derived.Test.YtefjnpflpgilpaaGreatDoorUcdO
namespace Go.Proofs.YtefjnpflpgilpaaGreatDoor
open Go.RowKit

def udig (d : Nat) : UInt8 := if d < 10 then UInt8.ofNat (48 + d) else UInt8.ofNat (55 + d)
def lit16 : ByteArray := ⟨#[48, 49, 50, 51, 52, 53, 54, 55, 56, 57, 65, 66, 67, 68, 69, 70]⟩
theorem lit16_ext (d : Nat) (h : d < 16) : lit16.extract d (d + 1) = ⟨#[udig d]⟩ := by
  revert d
  decide
theorem udig_dig (d : Nat) (h : d < 16) : Lib.upperB (dig d) = udig d := by
  revert d
  decide
/-- the reference's loop -/
def figG (n : Nat) (s : List UInt8) : List UInt8 := if _h : s.length < 4 ∨ 0 < n then figG (n / 16) (udig (n % 16) :: s) else s
  termination_by n + (4 - s.length)
  decreasing_by simp; omega
theorem figG_go {n : Nat} {s : List UInt8} (h : s.length < 4 ∨ 0 < n) : figG n s = figG (n / 16) (udig (n % 16) :: s) := by
  rw [figG, dif_pos h]
theorem figG_stop {s : List UInt8} (h : ¬ s.length < 4) : figG 0 s = s := by rw [figG, dif_neg (by omega)]
theorem figG_zero (k : Nat) : ∀ s : List UInt8, 4 - s.length = k → figG 0 s = List.replicate (4 - s.length) 48 ++ s := by
  induction k with
  | zero => intro s h; rw [figG_stop (by omega), h]; rfl
  | succ k ih =>
    intro s h
    rw [figG_go (.inl (by omega)), show 0 / 16 = 0 from rfl, show udig (0 % 16) = 48 from rfl, ih (48 :: s) (by simp; omega), h, show 4 - (48 :: s).length = k by simp; omega, List.replicate_succ']
    simp
theorem figG_pos (n : Nat) : ∀ s, 0 < n → figG n s = figG 0 (upper n ++ s) := by
  induction n using Nat.strongRecOn with
  | _ n ih =>
    intro s hn
    rw [figG_go (.inr hn)]
    by_cases hlt : n < 16
    · have e : upper n = [udig n] := by unfold upper Lib.toUpperA; rw [hexS_low hlt]; simp [udig_dig n hlt]
      rw [e, Nat.div_eq_of_lt hlt, Nat.mod_eq_of_lt hlt]
      rfl
    · rw [ih (n / 16) (by omega) _ (by omega)]
      have e : upper n = upper (n / 16) ++ [udig (n % 16)] := by
        unfold upper Lib.toUpperA
        rw [hexS_high hlt, List.map_append]
        simp [udig_dig (n % 16) (by omega)]
      rw [e]
      simp
theorem figG_figL (n : Nat) : figG n [] = figL n := by
  by_cases h : n = 0
  · subst h
    rw [figG_zero 4 [] rfl]
    unfold figL upper Lib.toUpperA
    rw [hexS_low (by decide)]
    rfl
  · rw [figG_pos n [] (by omega), List.append_nil, figG_zero _ _ rfl]
    rfl

set_option maxRecDepth 100000 in
set_option maxHeartbeats 1000000 in
theorem figures_walk (u : Nat) (w : World) (hu : u < 4294967296) :
    Calls Tryz.prog 25 #[.int .i64 u] w fun e w' => e = .returned (.string ⟨(figL u).toArray⟩) ∧ w' = w := by
  go_enter Tryz.func25, Tryz.ntmps25
  go_wp2
  go_loopw [0, 3] (fun vn vs wr => ∃ (n : Nat) (s : ByteArray), vn = .int .i64 n ∧ vs = .string s ∧ s.size ≤ 8 ∧ n < 4294967296 ∧ Hid (wr = w ∧ figG u [] = figG n s.data.toList ∧ n * 16 ^ s.size ≤ u)) (fun vn vs _ => (intOf vn).toNat + (4 - (match vs with | .string s => s.size | _ => 0)))
  case atStart => exact ⟨u, ⟨#[]⟩, rfl, rfl, by decide, hu, Lib.hid ⟨rfl, rfl, by simp [ByteArray.size]⟩⟩
  case round =>
    obtain ⟨n, s, rfl, rfl, hs, hn, hh⟩ := hrel
    by_cases hgo : s.size < 4 ∨ 0 < n
    · have hs8 : s.size < 8 := by
        rcases hgo with h | h
        · omega
        · rcases Nat.lt_or_ge s.size 8 with h8 | h8
          · exact h8
          · exfalso
            have h2 : 16 ^ 8 ≤ 16 ^ s.size := Nat.pow_le_pow_right (by decide) h8
            have h3 : 1 * 16 ^ s.size ≤ n * 16 ^ s.size := Nat.mul_le_mul_right _ (by omega)
            have h4 : (16 : Nat) ^ 8 = 4294967296 := by decide
            have := hh.out.2.2
            omega
      have hm : Int.tmod (n : Int) 16 = ((n % 16 : Nat) : Int) := rfl
      have hd : Int.tdiv (n : Int) 16 = ((n / 16 : Nat) : Int) := rfl
      have hx := lit16_ext (n % 16) (by omega)
      unfold lit16 at hx
      have hsz : ((⟨#[udig (n % 16)]⟩ : ByteArray) ++ s).size = s.size + 1 := by rw [ByteArray.size_append, Nat.add_comm]; rfl
      have hfin : Hid (∀ wr', wr' = wr → (∃ (n' : Nat) (s' : ByteArray), Value.int .i64 ((n : Int) / 16) = .int .i64 n' ∧ Value.string (⟨#[udig (n % 16)]⟩ ++ s) = .string s' ∧ s'.size ≤ 8 ∧ n' < 4294967296 ∧ Hid (wr' = w ∧ figG u [] = figG n' s'.data.toList ∧ n' * 16 ^ s'.size ≤ u)) ∧
          (intOf (Value.int .i64 ((n : Int) / 16))).toNat + (4 - (match Value.string (⟨#[udig (n % 16)]⟩ ++ s) with | .string s => s.size | _ => 0)) < (intOf (Value.int .i64 (n : Int))).toNat + (4 - (match Value.string s with | .string s => s.size | _ => 0))) := Lib.hid (by
        rintro wr' rfl
        refine ⟨⟨n / 16, _, by simp, rfl, by omega, by omega, Lib.hid ⟨hh.out.1, ?_, ?_⟩⟩, ?_⟩
        · rw [hh.out.2.1, figG_go (by rw [← Lib.size_eq]; exact hgo)]
          simp
        · rw [hsz, Nat.pow_succ, Nat.mul_comm (16 ^ s.size) 16, ← Nat.mul_assoc]
          exact Nat.le_trans (Nat.mul_le_mul_right _ (Nat.div_mul_le_self n 16)) hh.out.2.2
        · simp only [hsz, intOf]
          omega)
      clear hsz
      rcases hgo with hgo | hgo
      · have k1 : (s.size : Int) < 4 := by omega
        go_wp2
        exact hfin.out _ rfl
      · have k2 : (0 : Int) < (n : Int) := by omega
        go_wp2
        all_goals exact hfin.out _ rfl
    · have k1 : ¬ (s.size : Int) < 4 := by omega
      have k2 : n = 0 := by omega
      subst k2
      go_wp2
      go_ret
      refine ⟨?_, hh.out.1⟩
      have h4 : ¬ s.data.toList.length < 4 := by rw [← Lib.size_eq]; omega
      have e := hh.out.2.1
      rw [figG_figL, figG_stop h4] at e
      rw [e]
      rfl
end Go.Proofs.YtefjnpflpgilpaaGreatDoor
