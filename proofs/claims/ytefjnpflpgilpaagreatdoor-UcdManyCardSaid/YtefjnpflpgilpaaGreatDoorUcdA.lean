/- Walks of strings.IndexRune, strings.ContainsRune (at a text of ASCII bytes and a rune beyond ASCII) and of ucd.word. Conditions: none beside those in each statement. -/
import Derived.Test.YtefjnpflpgilpaaGreatDoorProg
import Derived.Test.YtefjnpflpgilpaaGreatDoorUcdShelf
import Derived.Test.YtefjnpflpgilpaaGreatDoorUcdK
import Derived.WalkKit
import Derived.Laws.RangeAny
import Derived.Laws.RangeString
import Derived.Lib.Hide
import Derived.Lib.QuoteLoop
import Derived.BigQuiet
import Derived.Deep.QuietTactic
import Derived.WalkSpells
import Derived.LoopNIn
import Derived.IntWalk
import Derived.Lib.IndexLaws
namespace Go.Proofs.YtefjnpflpgilpaaGreatDoor
open Go.RowKit

set_option maxRecDepth 100000 in
set_option maxHeartbeats 400000 in
theorem indexRune_err (s : ByteArray) (w : World) (hs : Ascii s) :
    Calls Tryz.prog 41 #[.string s, .int .i32 65533] w fun e w' => e = .returned (.int .i64 (-1)) ∧ Below w.heap.size w w' := by
  have HS := Lib.hid hs
  clear hs
  go_enter Tryz.func41, Tryz.ntmps41
  go_wp2
  go_loopw [5] (fun _ w' => ∃ pos : Nat, w' = w.iter s pos) (fun _ w' => s.size - w'.iterPos w.heap.size)
  case atStart => exact ⟨0, rfl⟩
  case round =>
    obtain ⟨pos, rfl⟩ := hrel
    by_cases hp : pos < s.size
    · have hnx : ∀ ty, (Instr.next (.pointer (some ⟨w.heap.size, 0, none⟩)) true ty).run Tryz.prog (w.iter s pos) = _ := fun ty => run_next_any w s pos ty hp
      have hd := decode_ascii s pos hp (HS.out pos hp)
      have hb := HS.out pos hp
      rw [hd] at hnx
      have hc : (((s[pos]'hp).toNat : Int) == 65533) = false := by rw [beq_eq_false_iff_ne]; omega
      clear hd
      go_wp2
      go_roundw
      case rel => exact ⟨pos + 1, rfl⟩
      case measure => simp; omega
    · have hnx : ∀ ty, (Instr.next (.pointer (some ⟨w.heap.size, 0, none⟩)) true ty).run Tryz.prog (w.iter s pos) = _ := fun ty => run_next_end w s pos ty hp
      go_wp2
      go_ret
      exact ⟨rfl, below_iter' w s pos⟩

set_option maxRecDepth 100000 in
set_option maxHeartbeats 400000 in
theorem indexRune_bad (s : ByteArray) (r : Int) (w : World) (h0 : 128 ≤ r) (h1 : (r == 65533) = false) (hv : Lib.validRune r = false) :
    Calls Tryz.prog 41 #[.string s, .int .i32 r] w fun e w' => e = .returned (.int .i64 (-1)) ∧ w' = w := by
  go_enter Tryz.func41, Tryz.ntmps41
  go_wp2_with (go_at_call 61; refine (Tryz.utf8_ValidRune _ _).mono ?_; rintro e w' ⟨rfl, rfl⟩)
  go_ret
  exact ⟨rfl, rfl⟩

theorem idx_none (s : ByteArray) (c : UInt8) (w : World) (h : Lib.indexByte s.data.toList c = -1) :
    Calls Tryz.prog 60 #[.string s, .int .u8 c.toNat] w fun e w' => e = .returned (.int .i64 (-1)) ∧ w' = w := by
  refine (Tryz.strings_IndexByte s c.toNat w).mono ?_
  rintro e w' ⟨rfl, rfl⟩
  refine ⟨?_, rfl⟩
  have : ((c.toNat : Int).toNat).toUInt8 = c := by simp
  rw [this, h]

theorem encode_high (r : Int) (h0 : 128 ≤ r) : 2 ≤ (Utf8.encode r).size ∧ (Utf8.encode r).size ≤ 4 ∧ ∀ h : (Utf8.encode r).size - 1 < (Utf8.encode r).size, 128 ≤ (((Utf8.encode r)[(Utf8.encode r).size - 1]'h).toNat) := by
  have hc : ∀ c : Nat, 128 ≤ (UInt8.ofNat (128 + c % 64)).toNat := by
    intro c
    rw [UInt8.toNat_ofNat']
    omega
  unfold Utf8.encode
  simp only []
  generalize hcc : (if Utf8.valid r = true then r.toNat else Utf8.runeError) = c
  have hc0 : 128 ≤ c := by
    subst hcc
    split
    · omega
    · decide
  split
  · omega
  · split
    · exact ⟨(show 2 ≤ 2 by decide), (show 2 ≤ 4 by decide), fun _ => hc _⟩
    · split
      · exact ⟨(show 2 ≤ 3 by decide), (show 3 ≤ 4 by decide), fun _ => hc _⟩
      · exact ⟨(show 2 ≤ 4 by decide), (show 4 ≤ 4 by decide), fun _ => hc _⟩

set_option maxRecDepth 100000 in
set_option maxHeartbeats 400000 in
theorem indexRune_good (s : ByteArray) (r : Int) (w : World) (h0 : 128 ≤ r) (h1 : (r == 65533) = false) (hv : Lib.validRune r = true) (hs : Ascii s) (hz : 4 ≤ s.size) (hz1 : s.size ≤ 1000) :
    Calls Tryz.prog 41 #[.string s, .int .i32 r] w fun e w' => e = .returned (.int .i64 (-1)) ∧ ∃ n, w' = w.drewN n := by
  have HS := Lib.hid hs
  have HE := Lib.hid (encode_high r h0)
  have b1 := (encode_high r h0).1
  have b2 := (encode_high r h0).2.1
  clear hs
  go_enter Tryz.func41, Tryz.ntmps41
  go_wp2_with (go_at_call 61; refine (Tryz.utf8_ValidRune _ _).mono ?_; rintro e w' ⟨rfl, h⟩; obtain rfl := h.symm)
  go_step3
  go_wp2
  generalize Utf8.encode r = rs at *
  obtain ⟨m, hm⟩ : ∃ m : Nat, rs.size = m + 1 := ⟨rs.size - 1, by omega⟩
  have k1 : m < s.size := by omega
  have k1' : m < rs.size := by omega
  have k2 := HS.out m k1
  have k3 : 128 ≤ (rs[m]'k1').toNat := by
    have := HE.out.2.2 (by omega)
    have e : rs.size - 1 = m := by omega
    simpa only [e] using this
  have e1 : (rs.size : Int) - 1 = (m : Int) := by omega
  have e2 : s[m]? = some (s[m]'k1) := by simp [k1]
  have e3 : rs[m]? = some (rs[m]'k1') := by simp [k1']
  have ne : (((s[m]'k1).toNat : Int) != (rs[m]'k1').toNat) = true := by rw [bne_iff_ne]; omega
  rw [e1]
  have ED := Lib.hid hm
  clear hm e1 HE
  refine wp_loop_rounds 1 ?_
  rw [rounds_succ]
  go_wp2
  go_step3
  go_wp2
  go_quiet (fail)
  go_wp2
  have HI : Hid (Lib.indexByte (s.extract (m + 1) s.size).data.toList (rs[m]'k1') = -1) := by
    refine Lib.hid (indexByte_absent _ _ fun k hk => ?_)
    have hj : k < (s.extract (m + 1) s.size).size := by
      have := List.getElem?_eq_some_iff.1 hk
      obtain ⟨h, _⟩ := this
      simpa using h
    rw [data_getElem _ k hj] at hk
    injection hk with hk
    have hz2 : (s.extract (m + 1) s.size).size = s.size - (m + 1) := by simp
    have hj2 : m + 1 + k < s.size := by omega
    have e : (s.extract (m + 1) s.size)[k]'hj = s[m + 1 + k]'hj2 := ByteArray.getElem_extract ..
    rw [e] at hk
    have := HS.out (m + 1 + k) hj2
    rw [hk] at this
    omega
  have d1 : IntKind.i64.wrap ((m : Int) + 1) = (m : Int) + 1 := IntWalk.i64_in _ (by omega)
  have d2 : (0 : Int) ≤ (m : Int) + 1 := by omega
  have d3 : ((m : Int) + 1).toNat = m + 1 := by omega
  have d4 : (m : Int) + 1 ≤ (s.size : Int) := by omega
  go_quiet ((go_at_call 60; exact quiet_add_same (idx_none _ _ _ HI.out)))
  go_wp2
  repeat (first | rw [Exit.noGoto_ret] | simp only [Exit.inBlock, Exit.then])
  go_ret
  exact ⟨rfl, _, rfl⟩

theorem indexRune_high (s : ByteArray) (r : Int) (w : World) (h0 : 128 ≤ r) (hs : Ascii s) (hz : 4 ≤ s.size) (hz1 : s.size ≤ 1000) :
    Calls Tryz.prog 41 #[.string s, .int .i32 r] w fun e w' => e = .returned (.int .i64 (-1)) ∧ Below w.heap.size w w' := by
  by_cases h1 : r = 65533
  · subst h1
    exact indexRune_err s w hs
  · have h1' : (r == 65533) = false := by rw [beq_eq_false_iff_ne]; exact h1
    cases hv : Lib.validRune r with
    | false => exact (indexRune_bad s r w h0 h1' hv).mono fun e w' ⟨he, hw⟩ => ⟨he, hw ▸ Below.refl _ _⟩
    | true => exact (indexRune_good s r w h0 h1' hv hs hz hz1).mono fun e w' ⟨he, n, hw⟩ => ⟨he, hw ▸ below_drewN' w n⟩

set_option maxHeartbeats 400000 in
theorem containsRune_high (s : ByteArray) (r : Int) (w : World) (h0 : 128 ≤ r) (hs : Ascii s) (hz : 4 ≤ s.size) (hz1 : s.size ≤ 1000) :
    Calls Tryz.prog 26 #[.string s, .int .i32 r] w fun e w' => e = .returned (.bool false) ∧ Below w.heap.size w w' := by
  go_enter Tryz.func26, Tryz.ntmps26
  go_wp2_with (go_at_call 41; refine (indexRune_high s r _ h0 hs hz hz1).mono ?_; rintro e w' ⟨rfl, hb⟩)
  go_ret
  exact ⟨rfl, hb⟩

/-- the letters, figures and the line that a value is of -/
def letters : ByteArray := ⟨#[97, 98, 99, 100, 101, 102, 103, 104, 105, 106, 107, 108, 109, 110, 111, 112, 113, 114, 115, 116, 117, 118, 119, 120, 121, 122, 65, 66, 67, 68, 69, 70, 71, 72, 73, 74, 75, 76, 77, 78, 79, 80, 81, 82, 83, 84, 85, 86, 87, 88, 89, 90, 48, 49, 50, 51, 52, 53, 54, 55, 56, 57, 95]⟩
/-- is a byte one of them? -/
def wb (c : UInt8) : Bool := (97 ≤ c && c ≤ 122) || (65 ≤ c && c ≤ 90) || (48 ≤ c && c ≤ 57) || c == 95
theorem letters_wb : ∀ c : UInt8, decide (0 ≤ Lib.indexByte letters.data.toList c) = wb c := by
  have h : ∀ n : Fin 256, decide (0 ≤ Lib.indexByte letters.data.toList (UInt8.ofNat n.1)) = wb (UInt8.ofNat n.1) := by decide +kernel
  intro c
  have := h ⟨c.toNat, UInt8.toNat_lt c⟩
  simpa using this
theorem letters_ascii : Ascii letters := by unfold Ascii; decide +kernel
theorem wb_ascii (c : UInt8) (h : wb c = true) : c.toNat < 128 := by
  have k : ∀ n : Fin 256, wb (UInt8.ofNat n.1) = true → (UInt8.ofNat n.1).toNat < 128 := by decide +kernel
  have := k ⟨c.toNat, UInt8.toNat_lt c⟩
  simp only [UInt8.ofNat_toNat] at this
  exact this h

theorem contains_low (c : UInt8) (b : Bool) (w : World) (hc : c.toNat < 128) (hb : wb c = b) :
    Calls Tryz.prog 26 #[.string letters, .int .i32 (c.toNat : Int)] w fun e w' => e = .returned (.bool b) ∧ w = w' := by
  refine (Tryz.strings_ContainsRune_ascii letters c.toNat w (by omega) (by omega)).mono ?_
  rintro e w' ⟨rfl, rfl⟩
  refine ⟨?_, rfl⟩
  have : ((c.toNat : Int).toNat).toUInt8 = c := by simp
  rw [this, letters_wb, hb]

/-- is a text a value's? -/
def wordOk (l : List UInt8) : Bool := l.all wb && (!l.isEmpty && decide (l.length ≤ 16))
end Go.Proofs.YtefjnpflpgilpaaGreatDoor
