/- The walks of the reference's Word and Right. Conditions: texts below 2^63 bytes. -/
import Derived.Test.YtefjnpflpgilpaaGreatDoorUcdB
import Derived.Test.YtefjnpflpgilpaaGreatDoorUcdC
namespace Go.Proofs.YtefjnpflpgilpaaGreatDoor
open Go.RowKit

theorem wb_iff (c : UInt8) : wb c = true ↔ (97 ≤ c.toNat ∧ c.toNat ≤ 122) ∨ (65 ≤ c.toNat ∧ c.toNat ≤ 90) ∨ (48 ≤ c.toNat ∧ c.toNat ≤ 57) ∨ c.toNat = 95 := by
  simp only [wb, Bool.or_eq_true, Bool.and_eq_true, decide_eq_true_eq, beq_iff_eq, UInt8.le_iff_toNat_le, ← UInt8.toNat_inj]
  simp only [or_assoc]
  rfl

set_option maxRecDepth 100000 in
set_option maxHeartbeats 1000000 in
theorem refWord_walk (s : ByteArray) (w : World) (hz : s.size ≤ 9223372036854775807) :
    Calls Tryz.prog 17 #[.string s] w fun e w' => e = .returned (.bool (wordOk s.data.toList)) ∧ w' = w := by
  go_enter Tryz.func17, Tryz.ntmps17
  go_wp2
  go_loopw [3] (fun vi wr => ∃ k : Nat, vi = .int .i64 k ∧ k ≤ s.size ∧ Hid (wr = w ∧ ∀ j (hj : j < s.size), j < k → wb (s[j]'hj) = true)) (fun vi _ => s.size - (intOf vi).toNat)
  case atStart => exact ⟨0, rfl, by omega, Lib.hid ⟨rfl, fun j _ h => absurd h (Nat.not_lt_zero j)⟩⟩
  case round =>
    obtain ⟨k, rfl, hk, hh⟩ := hrel
    by_cases hp : k < s.size
    · have hwb := Lib.hid (wb_iff (s[k]'hp))
      go_wp2
      all_goals first
        | (go_ret
           refine ⟨?_, hh.out.1⟩
           rw [wordOk, word_not s k hp (by
             cases h : wb (s[k]'hp) with
             | false => rfl
             | true =>
               exfalso
               have h1 := hwb.out.1 h
               (try simp only [bne_iff_ne, ne_eq, decide_eq_false_iff_not, Bool.not_eq_eq_eq_not, Bool.not_true] at *)
               omega)]
           rfl)
        | (refine ⟨⟨k + 1, by simp, by omega, Lib.hid ⟨hh.out.1, fun j hj hlt => ?_⟩⟩, by simp [intOf]; omega⟩
           by_cases e : j = k
           · subst e
             refine hwb.out.2 ?_
             (try simp only [bne_eq_false_iff_eq, decide_eq_true_eq, Bool.not_eq_eq_eq_not, Bool.not_false] at *)
             omega
           · exact hh.out.2 j hj (by omega))
    · have hkk : k = s.size := by omega
      subst hkk
      have hall := Lib.hid (word_all s fun j hj => hh.out.2 j hj hj)
      go_wp2
      · go_ret
        refine ⟨?_, hh.out.1⟩
        have e : s.data.toList.length = s.size := by simp
        have e1 : s.data.toList.isEmpty = false := by
          cases h : s.data.toList with
          | nil => rw [h] at e; simp at e; omega
          | cons _ _ => rfl
        have e2 : (decide ((s.size : Int) ≤ 16)) = decide (s.data.toList.length ≤ 16) := by
          rw [e, decide_eq_decide]
          omega
        rw [wordOk, hall.out, e1, ← e2]
        rfl
      · go_ret
        refine ⟨?_, hh.out.1⟩
        have e : s.data.toList.length = s.size := by simp
        have e1 : s.data.toList.isEmpty = true := by
          rw [List.isEmpty_iff, ← List.length_eq_zero_iff, e]; omega
        rw [wordOk, hall.out, e1]
        rfl

set_option maxRecDepth 100000 in
set_option maxHeartbeats 1000000 in
theorem refRight_walk (a b : Int) (v x : ByteArray) (w : World) (hv : v.size ≤ 9223372036854775807) (hx : x.size ≤ 9223372036854775807) :
    Calls Tryz.prog 10 #[.agg #[.int .i64 a, .int .i64 b, .string v, .string x]] w fun e w' => e = .returned (.bool (rightOk a b v.data.toList x.data.toList)) ∧ Below w.heap.size w w' := by
  have key : ∀ p q r : Bool, ∀ c : Bool, (p = true → q = true → r = true → c = true) → (p = false ∨ q = false ∨ r = false → c = false) → c = (p && (q && r)) := by decide
  cases hem : x.toList.isEmpty with
  | true =>
    have hx0 : x.data.toList.isEmpty = true := by rw [← ByteArray.toList_eq]; exact hem
    cases hwv : wordOk v.data.toList with
    | true =>
      have HR := Lib.hid (show rightOk a b v.data.toList x.data.toList = (decide (0 ≤ a) && (decide (a ≤ b) && decide (b ≤ 1114111))) by simp [rightOk, hwv, hx0])
      go_enter Tryz.func10, Tryz.ntmps10
      go_wp2_with (go_at_call 17; refine (refWord_walk v _ hv).mono ?_; rintro e w1 ⟨rfl, rfl⟩; rw [hwv])
      all_goals
        go_ret
        refine ⟨?_, (Below.refl _ _).alloc (Nat.le_refl _) _⟩
        rw [HR.out]
        refine congrArg (fun c => Ending.returned (Value.bool c)) (key _ _ _ _ ?_ ?_) <;> simp <;> omega
    | false =>
      have HR := Lib.hid (show rightOk a b v.data.toList x.data.toList = false by simp [rightOk, hwv])
      go_enter Tryz.func10, Tryz.ntmps10
      go_wp2_with (go_at_call 17; refine (refWord_walk v _ hv).mono ?_; rintro e w1 ⟨rfl, rfl⟩; rw [hwv])
      all_goals
        go_ret
        exact ⟨by rw [HR.out]; rfl, (Below.refl _ _).alloc (Nat.le_refl _) _⟩
  | false =>
    have hx0 : x.data.toList.isEmpty = false := by rw [← ByteArray.toList_eq]; exact hem
    cases hwv : wordOk v.data.toList with
    | true =>
      cases hwx : wordOk x.data.toList with
      | true =>
        have HR := Lib.hid (show rightOk a b v.data.toList x.data.toList = (decide (0 ≤ a) && (decide (a ≤ b) && decide (b ≤ 1114111))) by simp [rightOk, hwv, hwx])
        go_enter Tryz.func10, Tryz.ntmps10
        go_wp2_with (go_at_call 17; refine (refWord_walk _ _ (by first | exact hv | exact hx)).mono ?_; rintro e w1 ⟨rfl, rfl⟩; first | rw [hwv] | rw [hwx])
        all_goals
          go_ret
          refine ⟨?_, (Below.refl _ _).alloc (Nat.le_refl _) _⟩
          rw [HR.out]
          refine congrArg (fun c => Ending.returned (Value.bool c)) (key _ _ _ _ ?_ ?_) <;> simp <;> omega
      | false =>
        have HR := Lib.hid (show rightOk a b v.data.toList x.data.toList = false by simp [rightOk, hwx, hx0])
        go_enter Tryz.func10, Tryz.ntmps10
        go_wp2_with (go_at_call 17; refine (refWord_walk _ _ (by first | exact hv | exact hx)).mono ?_; rintro e w1 ⟨rfl, rfl⟩; first | rw [hwv] | rw [hwx])
        all_goals
          go_ret
          exact ⟨by rw [HR.out]; rfl, (Below.refl _ _).alloc (Nat.le_refl _) _⟩
    | false =>
      have HR := Lib.hid (show rightOk a b v.data.toList x.data.toList = false by simp [rightOk, hwv])
      cases hwx : wordOk x.data.toList with
      | true =>
        go_enter Tryz.func10, Tryz.ntmps10
        go_wp2_with (go_at_call 17; refine (refWord_walk _ _ (by first | exact hv | exact hx)).mono ?_; rintro e w1 ⟨rfl, rfl⟩; first | rw [hwv] | rw [hwx])
        all_goals
          go_ret
          exact ⟨by rw [HR.out]; rfl, (Below.refl _ _).alloc (Nat.le_refl _) _⟩
      | false =>
        go_enter Tryz.func10, Tryz.ntmps10
        go_wp2_with (go_at_call 17; refine (refWord_walk _ _ (by first | exact hv | exact hx)).mono ?_; rintro e w1 ⟨rfl, rfl⟩; first | rw [hwv] | rw [hwx])
        all_goals
          go_ret
          exact ⟨by rw [HR.out]; rfl, (Below.refl _ _).alloc (Nat.le_refl _) _⟩
end Go.Proofs.YtefjnpflpgilpaaGreatDoor
