/- The walk of ucd.word: it tells whether a text is a value. Conditions: the text takes no more bytes than the form lets in. -/
import Derived.Test.YtefjnpflpgilpaaGreatDoorUcdA
namespace Go.Proofs.YtefjnpflpgilpaaGreatDoor
open Go.RowKit

theorem word_all (s : ByteArray) (h : ∀ j (hj : j < s.size), wb (s[j]'hj) = true) : s.data.toList.all wb = true := by
  rw [List.all_eq_true]
  intro c hc
  obtain ⟨j, hj, rfl⟩ := List.getElem_of_mem hc
  exact h j (by simpa using hj)
theorem word_not (s : ByteArray) (j : Nat) (hj : j < s.size) (h : wb (s[j]'hj) = false) : s.data.toList.all wb = false := by
  rw [List.all_eq_false]
  exact ⟨s[j]'hj, List.mem_of_getElem? (data_getElem s j hj), by rw [h]; simp⟩

set_option maxRecDepth 100000 in
set_option maxHeartbeats 600000 in
theorem word_walk (s : ByteArray) (w : World) (hz : s.size ≤ 9223372036854775807) :
    Calls Tryz.prog 16 #[.string s] w fun e w' => e = .returned (.bool (wordOk s.data.toList)) ∧ Below w.heap.size w w' := by
  go_enter Tryz.func16, Tryz.ntmps16
  go_wp2
  go_loopw [4] (fun _ w' => ∃ pos : Nat, w' = w.iter s pos ∧ Hid (∀ j (hj : j < s.size), j < pos → wb (s[j]'hj) = true)) (fun _ w' => s.size - w'.iterPos w.heap.size)
  case atStart => exact ⟨0, rfl, Lib.hid (fun j _ h => absurd h (Nat.not_lt_zero j))⟩
  case round =>
    obtain ⟨pos, rfl, HP⟩ := hrel
    by_cases hp : pos < s.size
    · have hnx : ∀ ty, (Instr.next (.pointer (some ⟨w.heap.size, 0, none⟩)) true ty).run Tryz.prog (w.iter s pos) = _ := fun ty => run_next_any w s pos ty hp
      by_cases ha : (s[pos]'hp).toNat < 128
      · rw [decode_ascii s pos hp ha] at hnx
        cases hb : wb (s[pos]'hp) with
        | true =>
          have HB := Lib.hid hb
          clear hb
          go_wp2_with (go_at_call 26; refine (contains_low (s[pos]'hp) true _ ha HB.out).mono ?_; rintro e w' ⟨rfl, rfl⟩)
          go_roundw
          case rel =>
            refine ⟨pos + 1, rfl, Lib.hid fun j hj hlt => ?_⟩
            by_cases e : j = pos
            · subst e; exact HB.out
            · exact HP.out j hj (by omega)
          case measure => simp; omega
        | false =>
          have HB := Lib.hid hb
          clear hb
          go_wp2_with (go_at_call 26; refine (contains_low (s[pos]'hp) false _ ha HB.out).mono ?_; rintro e w' ⟨rfl, rfl⟩)
          go_ret
          exact ⟨by rw [wordOk, word_not s pos hp HB.out]; rfl, below_iter' w s _⟩
      · have hd := decode_high s pos hp (by omega)
        have hw : wb (s[pos]'hp) = false := by
          cases h : wb (s[pos]'hp) with
          | false => rfl
          | true => exact absurd (wb_ascii _ h) ha
        have HB := Lib.hid hw
        clear hw
        generalize Utf8.decode s pos = d at *
        have k1 : (128 : Int) ≤ (d.1 : Int) := by omega
        go_wp2_with (go_at_call 26; refine (containsRune_high letters d.1 _ k1 letters_ascii (by decide) (by decide)).mono ?_; rintro e w' ⟨rfl, hb⟩)
        go_ret
        exact ⟨by rw [wordOk, word_not s pos hp HB.out]; rfl, (below_iter' w s _).trans (hb.mono (below_iter' w s _).size)⟩
    · have hnx : ∀ ty, (Instr.next (.pointer (some ⟨w.heap.size, 0, none⟩)) true ty).run Tryz.prog (w.iter s pos) = _ := fun ty => run_next_end w s pos ty hp
      have ht := Lib.hid (word_all s fun j hj => HP.out j hj (by omega))
      go_wp2
      all_goals go_ret
      · rename_i he
        rw [ByteArray.toList_eq] at he
        exact ⟨by rw [wordOk, ht.out, he]; rfl, below_iter' w s _⟩
      · refine ⟨?_, below_iter' w s _⟩
        rw [wordOk, ht.out, ByteArray.toList_eq]
        have : (decide ((s.size : Int) ≤ 16)) = decide (s.data.toList.length ≤ 16) := by
          have e : s.data.toList.length = s.size := by simp
          rw [e, decide_eq_decide]
          omega
        rw [this]
        rfl
end Go.Proofs.YtefjnpflpgilpaaGreatDoor
