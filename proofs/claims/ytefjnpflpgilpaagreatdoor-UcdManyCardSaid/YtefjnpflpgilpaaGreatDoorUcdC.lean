/- The walks of ucd.Right and ucd.must. Conditions: texts take no more bytes than the form lets in. -/
import Derived.Test.YtefjnpflpgilpaaGreatDoorUcdB
import Derived.WalkLawsBesides
namespace Go.Proofs.YtefjnpflpgilpaaGreatDoor
open Go.RowKit

/-- is an entry right? -/
def rightOk (a b : Int) (v x : List UInt8) : Bool := decide (0 ≤ a) && (decide (a ≤ b) && (decide (b ≤ 1114111) && (wordOk v && (x.isEmpty || wordOk x))))

set_option maxRecDepth 100000 in
set_option maxHeartbeats 1000000 in
theorem right_walk (a b : Int) (v x : ByteArray) (w : World) (hv : v.size ≤ 9223372036854775807) (hx : x.size ≤ 9223372036854775807) :
    Calls Tryz.prog 9 #[.agg #[.int .i64 a, .int .i64 b, .string v, .string x]] w fun e w' => e = .returned (.bool (rightOk a b v.data.toList x.data.toList)) ∧ Below w.heap.size w w' := by
  by_cases h1 : 0 ≤ a
  · by_cases h2 : a ≤ b
    · by_cases h3 : b ≤ 1114111
      · cases hw : wordOk v.data.toList with
        | false =>
          have HW := Lib.hid hw
          have HR : Hid (rightOk a b v.data.toList x.data.toList = false) := by
            refine Lib.hid ?_
            simp [rightOk, hw]
          clear hw
          go_enter Tryz.func9, Tryz.ntmps9
          go_wp2_with (go_at_call 16; refine (word_walk _ _ (by assumption)).mono ?_; rintro e w1 ⟨rfl, hb⟩; rw [HW.out]; obtain ⟨hc, hf⟩ := bcell hb)
          go_ret
          exact ⟨by rw [HR.out]; rfl, ((Below.refl _ _).alloc (Nat.le_refl _) _).trans (hb.mono (by simp))⟩
        | true =>
          have HW := Lib.hid hw
          cases h4 : x.toList.isEmpty with
          | true =>
            have HR : Hid (rightOk a b v.data.toList x.data.toList = true) := by
              refine Lib.hid ?_
              rw [ByteArray.toList_eq] at h4
              simp [rightOk, hw, h1, h2, h3, h4]
            clear hw
            go_enter Tryz.func9, Tryz.ntmps9
            go_wp2_with (go_at_call 16; refine (word_walk _ _ (by assumption)).mono ?_; rintro e w1 ⟨rfl, hb⟩; rw [HW.out]; obtain ⟨hc, hf⟩ := bcell hb)
            go_ret
            exact ⟨by rw [HR.out]; rfl, ((Below.refl _ _).alloc (Nat.le_refl _) _).trans (hb.mono (by simp))⟩
          | false =>
            have HR : Hid (rightOk a b v.data.toList x.data.toList = wordOk x.data.toList) := by
              refine Lib.hid ?_
              have h5 := h4
              rw [ByteArray.toList_eq] at h5
              simp [rightOk, hw, h1, h2, h3, h5]
            clear hw
            go_enter Tryz.func9, Tryz.ntmps9
            go_wp2_with fail
            refine (word_walk _ _ (by assumption)).mono ?_
            rintro e w1 ⟨rfl, hb⟩
            rw [HW.out]
            obtain ⟨hc, hf⟩ := bcell hb
            go_wp2_with fail
            refine (word_walk _ _ (by assumption)).mono ?_
            rintro e w2 ⟨rfl, hb2⟩
            go_wp2
            go_ret
            exact ⟨by rw [HR.out]; rfl, (((Below.refl _ _).alloc (Nat.le_refl _) _).trans (hb.mono (by simp))).trans (hb2.mono (by have := hb.size; simp at this; omega))⟩
      · have hn : ¬ b ≤ 1114111 := h3
        have HR : Hid (rightOk a b v.data.toList x.data.toList = false) := by
          refine Lib.hid ?_
          simp only [rightOk]
          simp [hn]
        go_enter Tryz.func9, Tryz.ntmps9
        go_wp2
        go_ret
        exact ⟨by rw [HR.out]; rfl, (Below.refl _ _).alloc (Nat.le_refl _) _⟩
    · have hn : ¬ a ≤ b := h2
      have HR : Hid (rightOk a b v.data.toList x.data.toList = false) := by
        refine Lib.hid ?_
        simp only [rightOk]
        simp [hn]
      go_enter Tryz.func9, Tryz.ntmps9
      go_wp2
      go_ret
      exact ⟨by rw [HR.out]; rfl, (Below.refl _ _).alloc (Nat.le_refl _) _⟩
  · have hn : ¬ 0 ≤ a := h1
    have HR : Hid (rightOk a b v.data.toList x.data.toList = false) := by
      refine Lib.hid ?_
      simp only [rightOk]
      simp [hn]
    go_enter Tryz.func9, Tryz.ntmps9
    go_wp2
    go_ret
    exact ⟨by rw [HR.out]; rfl, (Below.refl _ _).alloc (Nat.le_refl _) _⟩

theorem must_yes (w : World) : Calls Tryz.prog 24 #[.bool true] w fun e w' => e = .returned (.tuple #[]) ∧ w = w' := by
  go_enter Tryz.func24, Tryz.ntmps24
  go_wp2
  go_end0
  exact ⟨rfl, rfl⟩

/-- what 'must' panics with -/
def bad : List PanicEntry := [{ v := .iface 29 (.int .i64 21), recovered := false }]
theorem must_no (w : World) : Calls Tryz.prog 24 #[.bool false] w fun e w' => e = .panicked bad ∧ w = w' := by
  go_enter Tryz.func24, Tryz.ntmps24
  go_wp2
  exact ⟨rfl, rfl, rfl⟩
end Go.Proofs.YtefjnpflpgilpaaGreatDoor
