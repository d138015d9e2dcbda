/- The walk of ucd.span: the numbers of a first field, or a panic. Conditions: texts below 4294967281 bytes; the library's variable MaxLen holds an int. -/
import Derived.Test.YtefjnpflpgilpaaGreatDoorUcdE
namespace Go.Proofs.YtefjnpflpgilpaaGreatDoor
open Go.RowKit

/-- the library's variable internal/bytealg.MaxLen holds an int -/
def HasMax (w : World) : Prop := ∃ m, w.cell? ⟨0, 0, none⟩ = some (.int .i64 m)
theorem HasMax.below {w w' : World} (h : HasMax w) (hb : Below w.heap.size w w') : HasMax w' := by
  obtain ⟨m, hm⟩ := h
  exact ⟨m, (hb.cell (World.block_lt_of_cell? w _ hm)).trans hm⟩
theorem HasMax.alloc {w : World} (h : HasMax w) (o : Obj) : HasMax (w.alloc o) := h.below ((Below.refl _ _).alloc (Nat.le_refl _) _)
theorem HasMax.drewN {w : World} (h : HasMax w) (n : Nat) : HasMax (w.drewN n) := h

theorem bytes_of (l : List UInt8) : ∃ x : ByteArray, x.data.toList = l ∧ (⟨l.toArray⟩ : ByteArray) = x := ⟨⟨l.toArray⟩, by simp, rfl⟩

theorem cut_walk (s sep x y : ByteArray) (b : Bool) (w : World) (hM : HasMax w) (hs : s.size < 4294967281) (h : Lib.cut s.data.toList sep.data.toList = (x.data.toList, y.data.toList, b)) :
    Calls Tryz.prog 21 #[.string s, .string sep] w fun e w' => e = .returned (.tuple #[.string x, .string y, .bool b]) ∧ ∃ n, w' = w.drewN n := by
  obtain ⟨m, hm⟩ := hM
  refine (Tryz.strings_Cut s sep m w hs hm).mono ?_
  rintro e w' ⟨rfl, hw⟩
  rw [h]
  exact ⟨rfl, hw⟩

theorem hex_some (s : ByteArray) (n : Nat) (w : World) (hs : s.size ≤ 9223372036854775807) (h : hexOf s.data.toList = some n) :
    Calls Tryz.prog 59 #[.string s] w fun e w' => e = .returned (.tuple #[.int .i64 n, .bool true]) ∧ Below w.heap.size w w' := by
  have := hex_walk s w hs
  rw [h] at this
  exact this
theorem hex_none (s : ByteArray) (w : World) (hs : s.size ≤ 9223372036854775807) (h : hexOf s.data.toList = none) :
    Calls Tryz.prog 59 #[.string s] w fun e w' => e = .returned (.tuple #[.int .i64 0, .bool false]) ∧ Below w.heap.size w w' := by
  have := hex_walk s w hs
  rw [h] at this
  exact this

/-- a first field's numbers -/
def spanOf (l : List UInt8) : Option (Nat × Nat) :=
  match hexOf (Lib.cut l [46, 46]).1 with
  | none => none
  | some a => if (Lib.cut l [46, 46]).2.2 = true then
      match hexOf (Lib.cut l [46, 46]).2.1 with
      | none => none
      | some b => some (a, b)
    else some (a, a)
def spanE : Option (Nat × Nat) → Ending
  | some (a, b) => .returned (.tuple #[.int .i64 a, .int .i64 b])
  | none => .panicked bad

set_option maxHeartbeats 1000000 in
set_option maxRecDepth 100000 in
theorem span_walk (s : ByteArray) (w : World) (hM : HasMax w) (hs : s.size < 4294967281) :
    Calls Tryz.prog 40 #[.string s] w fun e w' => e = spanE (spanOf s.data.toList) ∧ Below w.heap.size w w' := by
  have hl1 : (Lib.cut s.data.toList [46, 46]).1.length ≤ s.size := by
    rw [Lib.size_eq]; unfold Lib.cut; split
    · exact List.length_take_le' _ _
    · exact Nat.le_refl _
  have hl2 : (Lib.cut s.data.toList [46, 46]).2.1.length ≤ s.size := by
    rw [Lib.size_eq]; unfold Lib.cut; split
    · simp
    · simp
  obtain ⟨x, hx, _⟩ := bytes_of (Lib.cut s.data.toList [46, 46]).1
  obtain ⟨y, hy, _⟩ := bytes_of (Lib.cut s.data.toList [46, 46]).2.1
  have hcut : Lib.cut s.data.toList (⟨#[46, 46]⟩ : ByteArray).data.toList = (x.data.toList, y.data.toList, (Lib.cut s.data.toList [46, 46]).2.2) := by rw [hx, hy]
  have hxs : x.size ≤ 9223372036854775807 := by rw [← hx, ← Lib.size_eq] at hl1; omega
  have hys : y.size ≤ 9223372036854775807 := by rw [← hy, ← Lib.size_eq] at hl2; omega
  have hsp : spanOf s.data.toList = (match hexOf x.data.toList with
    | none => none
    | some a => if (Lib.cut s.data.toList [46, 46]).2.2 = true then (match hexOf y.data.toList with | none => none | some b => some (a, b)) else some (a, a)) := by
    rw [hx, hy]; rfl
  clear hx hy hl1 hl2
  generalize (Lib.cut s.data.toList [46, 46]).2.2 = two at *
  have HC := Lib.hid hcut
  have HM := Lib.hid hM
  clear hcut hM
  cases h1 : hexOf x.data.toList with
  | none =>
    have HR : Hid (spanOf s.data.toList = none) := Lib.hid (by rw [hsp, h1])
    have H1 := Lib.hid h1
    clear hsp h1
    go_enter Tryz.func40, Tryz.ntmps40
    go_wp2_with (first
      | (go_at_call 21; refine (cut_walk s _ x y two _ HM.out hs HC.out).mono ?_; rintro e w1 ⟨rfl, n, rfl⟩)
      | (go_at_call 59; refine (hex_none x _ hxs H1.out).mono ?_; rintro e w1 ⟨rfl, hb⟩)
      | (go_at_call 24; refine (must_no _).mono ?_; rintro e w1 ⟨rfl, rfl⟩))
    exact ⟨rfl, by rw [HR.out]; rfl, (below_drewN' w n).trans hb⟩
  | some a =>
    have H1 := Lib.hid h1
    cases htwo : two with
    | false =>
      have HR : Hid (spanOf s.data.toList = some (a, a)) := Lib.hid (by rw [hsp, h1, htwo]; rfl)
      subst htwo
      clear hsp h1
      go_enter Tryz.func40, Tryz.ntmps40
      go_wp2_with (first
        | (go_at_call 21; refine (cut_walk s _ x y false _ HM.out hs HC.out).mono ?_; rintro e w1 ⟨rfl, n, rfl⟩)
        | (go_at_call 59; refine (hex_some x a _ hxs H1.out).mono ?_; rintro e w1 ⟨rfl, hb⟩)
        | (go_at_call 24; refine (must_yes _).mono ?_; rintro e w1 ⟨rfl, rfl⟩))
      go_ret2
      exact ⟨by rw [HR.out]; rfl, (below_drewN' w n).trans hb⟩
    | true =>
      cases h2 : hexOf y.data.toList with
      | none =>
        have HR : Hid (spanOf s.data.toList = none) := Lib.hid (by rw [hsp, h1, h2, htwo]; rfl)
        have H2 := Lib.hid h2
        subst htwo
        clear hsp h1 h2
        go_enter Tryz.func40, Tryz.ntmps40
        go_wp2_with fail
        refine (cut_walk s _ x y true _ HM.out hs HC.out).mono ?_
        rintro e w1 ⟨rfl, n, rfl⟩
        go_wp2_with fail
        refine (hex_some x a _ hxs H1.out).mono ?_
        rintro e w1 ⟨rfl, hb⟩
        go_wp2_with fail
        refine (must_yes _).mono ?_
        rintro e w2 ⟨rfl, rfl⟩
        go_wp2_with fail
        refine (hex_none y _ hys H2.out).mono ?_
        rintro e w2 ⟨rfl, hb2⟩
        go_wp2_with fail
        refine (must_no _).mono ?_
        rintro e w3 ⟨rfl, rfl⟩
        go_wp2
        exact ⟨rfl, by rw [HR.out]; rfl, ((below_drewN' w n).trans hb).trans (hb2.mono hb.size)⟩
      | some b =>
        have HR : Hid (spanOf s.data.toList = some (a, b)) := Lib.hid (by rw [hsp, h1, h2, htwo]; rfl)
        have H2 := Lib.hid h2
        subst htwo
        clear hsp h1 h2
        go_enter Tryz.func40, Tryz.ntmps40
        go_wp2_with fail
        refine (cut_walk s _ x y true _ HM.out hs HC.out).mono ?_
        rintro e w1 ⟨rfl, n, rfl⟩
        go_wp2_with fail
        refine (hex_some x a _ hxs H1.out).mono ?_
        rintro e w1 ⟨rfl, hb⟩
        go_wp2_with fail
        refine (must_yes _).mono ?_
        rintro e w2 ⟨rfl, rfl⟩
        go_wp2_with fail
        refine (hex_some y b _ hys H2.out).mono ?_
        rintro e w2 ⟨rfl, hb2⟩
        go_wp2_with fail
        refine (must_yes _).mono ?_
        rintro e w3 ⟨rfl, rfl⟩
        go_wp2
        go_ret2
        exact ⟨by rw [HR.out]; rfl, ((below_drewN' w n).trans hb).trans (hb2.mono hb.size)⟩
end Go.Proofs.YtefjnpflpgilpaaGreatDoor
