/- The walk of ucd.Hex, and strings.Trim as it is met. Conditions: texts below 4294967281 bytes. -/
import Derived.Test.YtefjnpflpgilpaaGreatDoorUcdD
import Derived.Shelf.Strings.SlTrimAscii
namespace Go.Proofs.YtefjnpflpgilpaaGreatDoor
open Go.RowKit

theorem dropWhile_nil {α : Type} (p : α → Bool) (l : List α) : l.dropWhile p = [] ↔ ∀ x ∈ l, p x = true := by
  induction l with
  | nil => simp
  | cons a l ih =>
    cases h : p a with
    | true => simp [List.dropWhile, h, ih]
    | false => simp [List.dropWhile, h]

theorem trimS_nil (l cs : List UInt8) : Lib.trimS l cs = [] ↔ ∀ c ∈ l, cs.contains c = true := by
  constructor
  · intro h c hc
    by_cases hr : Lib.trimRightS l cs = []
    · unfold Lib.trimRightS at hr
      rw [List.reverse_eq_nil_iff, dropWhile_nil] at hr
      exact hr c (by simpa using hc)
    · exfalso
      unfold Lib.trimS Lib.trimLeftS at h
      rw [dropWhile_nil] at h
      have hd := List.head_dropWhile_not (l := l.reverse) (fun x => cs.contains x) (by
        intro e
        exact hr (by unfold Lib.trimRightS; rw [e]; rfl))
      have hm : (l.reverse.dropWhile (fun x => cs.contains x)).head (by
        intro e
        exact hr (by unfold Lib.trimRightS; rw [e]; rfl)) ∈ Lib.trimRightS l cs := by
        unfold Lib.trimRightS
        rw [List.mem_reverse]
        exact List.head_mem _
      rw [h _ hm] at hd
      exact Bool.noConfusion hd
  · intro h
    have hr : Lib.trimRightS l cs = [] := by
      unfold Lib.trimRightS
      rw [List.reverse_eq_nil_iff, dropWhile_nil]
      intro x hx
      exact h x (by simpa using hx)
    unfold Lib.trimS
    rw [hr]
    rfl

theorem trim_walk (s cs : ByteArray) (w : World) (hs : s.size ≤ 9223372036854775807) (hc : cs.size < 4294967281) (ha : ∀ (j : Nat) (b : UInt8), cs.data.toList[j]? = some b → b.toNat < 128) :
    Calls Tryz.prog 22 #[.string s, .string cs] w fun e w' => e = .returned (.string ⟨(Lib.trimS s.data.toList cs.data.toList).toArray⟩) ∧ Below w.heap.size w w' :=
  Any.strings_Trim_laid Tryz.lays160 (by kernel_rfl) s cs w hs hc ha

def figs : ByteArray := ⟨#[48, 49, 50, 51, 52, 53, 54, 55, 56, 57, 65, 66, 67, 68, 69, 70]⟩
theorem figs_hex : ∀ c : UInt8, figs.data.toList.contains c = hexB c := by
  have h : ∀ n : Fin 256, figs.data.toList.contains (UInt8.ofNat n.1) = hexB (UInt8.ofNat n.1) := by decide +kernel
  intro c
  have := h ⟨c.toNat, UInt8.toNat_lt c⟩
  simpa using this
theorem ascii_of_all (cs : List UInt8) (h : cs.all (fun b => b.toNat < 128) = true) : ∀ (j : Nat) (b : UInt8), cs[j]? = some b → b.toNat < 128 := by
  intro j b hb
  have := List.all_eq_true.1 h b (List.mem_of_getElem? hb)
  simpa using this

theorem trim_figs (s : ByteArray) (b : Bool) (w : World) (hs : s.size ≤ 9223372036854775807) (hb : s.data.toList.all hexB = b) :
    Calls Tryz.prog 22 #[.string s, .string figs] w fun e w' => (∃ r : ByteArray, e = .returned (.string r) ∧ r.toList.isEmpty = b) ∧ Below w.heap.size w w' := by
  refine (trim_walk s figs w hs (by decide) (ascii_of_all _ (by decide))).mono ?_
  rintro e w' ⟨rfl, hw⟩
  refine ⟨⟨_, rfl, ?_⟩, hw⟩
  rw [ByteArray.toList_mk]
  have h := trimS_nil s.data.toList figs.data.toList
  simp only [figs_hex] at h
  rw [← List.all_eq_true] at h
  cases b with
  | true => rw [h.2 hb]; rfl
  | false =>
    cases e : Lib.trimS s.data.toList figs.data.toList with
    | nil => rw [h.1 e] at hb; exact Bool.noConfusion hb
    | cons c l => rfl

theorem bytesWorld_below (w : World) (e : TypeId) (s : ByteArray) : Below w.heap.size w (Lib.bytesWorld w e s) :=
  ⟨rfl, rfl, rfl, by rw [Lib.bytesWorld_size]; omega, fun i hi => Lib.bytesWorld_at_old w e s i hi⟩

/-- the number of 4 to 6 figures -/
def hexOf (l : List UInt8) : Option Nat := if 4 ≤ l.length ∧ l.length ≤ 6 ∧ l.all hexB = true ∧ hexN 0 l ≤ 1114111 then some (hexN 0 l) else none
def hexV : Option Nat → Value
  | some n => .tuple #[.int .i64 n, .bool true]
  | none => .tuple #[.int .i64 0, .bool false]

set_option maxHeartbeats 1000000 in
set_option maxRecDepth 100000 in
theorem hex_walk (s : ByteArray) (w : World) (hs : s.size ≤ 9223372036854775807) :
    Calls Tryz.prog 59 #[.string s] w fun e w' => e = .returned (hexV (hexOf s.data.toList)) ∧ Below w.heap.size w w' := by
  have hlen : s.data.toList.length = s.size := (Lib.size_eq s).symm
  by_cases h1 : 4 ≤ s.size
  · by_cases h2 : s.size ≤ 6
    · cases hb : s.data.toList.all hexB with
      | false =>
        have HR : Hid (hexOf s.data.toList = none) := Lib.hid (by unfold hexOf; rw [if_neg]; rintro ⟨_, _, h, _⟩; rw [hb] at h; exact Bool.noConfusion h)
        have HB := Lib.hid hb
        clear hlen hb
        go_enter Tryz.func59, Tryz.ntmps59
        go_wp2_with (go_at_call 22; refine (trim_figs s false _ hs HB.out).mono ?_; rintro e w1 ⟨⟨r, rfl, hr⟩, hw⟩)
        go_ret2
        exact ⟨by rw [HR.out]; rfl, hw⟩
      | true =>
        have hx : ∀ c ∈ s.data.toList, hexB c = true := List.all_eq_true.1 hb
        have HP := fun W => parseInt_hex s (by omega) h2 hx W
        have HB := Lib.hid hb
        by_cases h3 : hexN 0 s.data.toList ≤ 1114111
        · have HR : Hid (hexOf s.data.toList = some (hexN 0 s.data.toList)) := Lib.hid (by unfold hexOf; rw [if_pos ⟨by omega, by omega, hb, h3⟩])
          have HP' := Lib.hid HP
          have a0 : (0 : Int) ≤ ((hexN 0 s.data.toList : Nat) : Int) := by omega
          have a1 : ((hexN 0 s.data.toList : Nat) : Int) ≤ 1114111 := by omega
          clear hlen hb hx HP h3
          generalize hexN 0 s.data.toList = n at *
          go_enter Tryz.func59, Tryz.ntmps59
          go_wp2_with (first
            | (go_at_call 22; refine (trim_figs s true _ hs HB.out).mono ?_; rintro e w1 ⟨⟨r, rfl, hr⟩, hw⟩)
            | (go_at_call 83; refine (HP'.out _).mono ?_; rintro e w2 ⟨rfl, rfl⟩))
          go_ret2
          exact ⟨by rw [HR.out]; rfl, hw.trans ((bytesWorld_below _ _ _).mono hw.size)⟩
        · have HR : Hid (hexOf s.data.toList = none) := Lib.hid (by unfold hexOf; rw [if_neg]; rintro ⟨_, _, _, h⟩; exact h3 h)
          have HP' := Lib.hid HP
          have a1 : 1114111 < ((hexN 0 s.data.toList : Nat) : Int) := by omega
          clear hlen hb hx HP h3
          generalize hexN 0 s.data.toList = n at *
          go_enter Tryz.func59, Tryz.ntmps59
          go_wp2_with (first
            | (go_at_call 22; refine (trim_figs s true _ hs HB.out).mono ?_; rintro e w1 ⟨⟨r, rfl, hr⟩, hw⟩)
            | (go_at_call 83; refine (HP'.out _).mono ?_; rintro e w2 ⟨rfl, rfl⟩))
          go_ret2
          exact ⟨by rw [HR.out]; rfl, hw.trans ((bytesWorld_below _ _ _).mono hw.size)⟩
    · have HR : Hid (hexOf s.data.toList = none) := Lib.hid (by unfold hexOf; rw [if_neg]; rintro ⟨_, h, _⟩; omega)
      clear hlen
      go_enter Tryz.func59, Tryz.ntmps59
      go_wp2
      go_ret2
      exact ⟨by rw [HR.out]; rfl, Below.refl _ _⟩
  · have HR : Hid (hexOf s.data.toList = none) := Lib.hid (by unfold hexOf; rw [if_neg]; rintro ⟨h, _⟩; omega)
    clear hlen
    go_enter Tryz.func59, Tryz.ntmps59
    go_wp2
    go_ret2
    exact ⟨by rw [HR.out]; rfl, Below.refl _ _⟩
end Go.Proofs.YtefjnpflpgilpaaGreatDoor
