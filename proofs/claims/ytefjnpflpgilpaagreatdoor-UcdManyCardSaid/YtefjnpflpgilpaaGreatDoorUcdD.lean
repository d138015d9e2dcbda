/- The walk of strconv.ParseInt at base 16 and 64 bits, at 1 to 6 hexadecimal figures (0 to 9, A to F). -/
import Derived.Test.YtefjnpflpgilpaaGreatDoorUcdC
import Derived.Lib.Strings
import Derived.Lib.Walk
import Derived.Lib.ConvBytes
import Derived.Laws.Strings3
import Derived.Laws.Closers25
import Derived.Laws.Closers25b
import Derived.BigCall
import Derived.BigGuard
namespace Go.Proofs.YtefjnpflpgilpaaGreatDoor
open Go.RowKit

/-- a hexadecimal figure -/
def hexB (c : UInt8) : Bool := (48 ≤ c && c ≤ 57) || (65 ≤ c && c ≤ 70)
def hexd (c : Nat) : Nat := if c ≤ 57 then c - 48 else c - 55
/-- figures' number, behind another one -/
def hexN (acc : Nat) : List UInt8 → Nat
  | [] => acc
  | c :: l => hexN (acc * 16 + hexd c.toNat) l
theorem hexB_cases {c : UInt8} (h : hexB c = true) : (48 ≤ c.toNat ∧ c.toNat ≤ 57) ∨ (65 ≤ c.toNat ∧ c.toNat ≤ 70) := by
  simp only [hexB, Bool.or_eq_true, Bool.and_eq_true, decide_eq_true_eq, UInt8.le_iff_toNat_le] at h
  exact h

set_option maxHeartbeats 400000 in
theorem lower_hex (c : Nat) (h0 : 65 ≤ c) (h1 : c ≤ 70) (w : World) :
    Calls Tryz.prog 109 #[.int .u8 (c : Int)] w fun e w' => e = .returned (.int .u8 ((c : Int) + 32)) ∧ w = w' := by
  have hv : Go.bits .or .u8 (c : Int) 32 = (c : Int) + 32 := by
    have : c = 65 ∨ c = 66 ∨ c = 67 ∨ c = 68 ∨ c = 69 ∨ c = 70 := by omega
    rcases this with rfl | rfl | rfl | rfl | rfl | rfl <;> decide
  go_enter Tryz.func109, Tryz.ntmps109
  go_wp2
  go_ret
  exact ⟨rfl, rfl⟩

theorem hexN_lt (l : List UInt8) : ∀ (acc k : Nat), acc < 16 ^ k → (∀ c ∈ l, hexB c = true) → hexN acc l < 16 ^ (k + l.length) := by
  induction l with
  | nil => intro acc k h _; simpa [hexN] using h
  | cons c l ih =>
    intro acc k h hl
    have hc := hexB_cases (hl c (by simp))
    have hd : hexd c.toNat ≤ 15 := by unfold hexd; split <;> omega
    have := ih (acc * 16 + hexd c.toNat) (k + 1) (by rw [Nat.pow_succ]; omega) (fun x hx => hl x (by simp [hx]))
    simp only [hexN, List.length_cons]
    rw [show k + (l.length + 1) = k + 1 + l.length from by omega]
    exact this

set_option maxHeartbeats 4000000 in
set_option maxRecDepth 100000 in
theorem parseUint_hex (t : ByteArray) (hne : 1 ≤ t.size) (hmax : t.size ≤ 6) (hx : ∀ c ∈ t.data.toList, hexB c = true) (w : World) :
    Calls Tryz.prog 104 #[.string t, .int .i64 16, .int .i64 64] w fun e w' => e = .returned (.tuple #[.int .u64 (hexN 0 t.data.toList), .nilIface]) ∧ w' = Lib.bytesWorld w 5 t := by
  have hemp : t.toList.isEmpty = false := by
    rw [← decide_eq_emptyBytes]
    exact decide_eq_false (fun h => by rw [h] at hne; exact absurd hne (by decide))
  have hcv := Lib.run_convert_string_bytes (P := Tryz.prog) w 9 28 5 t (u := .string) Tryz.underlying9 Tryz.underlying28 Tryz.underlying5
  have hB : ∀ j, j < t.size → (Lib.bytesWorld w 5 t).cell? ⟨w.heap.size, j, none⟩ = some (.int .u8 (t.data.toList.getD j 0).toNat) := fun j hj => Lib.bytesWorld_cell w 5 t j hj
  obtain ⟨W1, hW1⟩ : ∃ W1, W1 = Lib.bytesWorld w 5 t := ⟨_, rfl⟩
  rw [← hW1] at hcv hB ⊢
  clear hW1
  obtain ⟨bs, hL⟩ : ∃ bs, bs = t.data.toList := ⟨_, rfl⟩
  have hLn : bs.length = t.size := by rw [hL, Lib.size_eq]
  rw [← hL] at hB hx ⊢
  clear hL
  have HX := Lib.hid hx
  clear hx
  have hmv : IntKind.u64.wrap (IntKind.u64.wrap 18446744073709551616 - 1) = 18446744073709551615 := by
    rw [IntKind.wrap_u64, IntKind.wrap_u64]
    decide
  have HL := Lib.hid hLn
  go_enter Tryz.func104, Tryz.ntmps104
  go_wp2
  go_loop [12, 13, 101] (fun vu vn vi => ∃ (k acc : Nat) (a : Int), vu = .bool false ∧ vn = .int .u64 a ∧ vi = .int .i64 k ∧ k ≤ t.size ∧ Hid (a = (acc : Int) ∧ acc < 16 ^ k ∧ hexN 0 bs = hexN acc (bs.drop k))) (fun _ _ vi => t.size - (intOf vi).toNat)
  case atStart => exact ⟨0, 0, 0, rfl, rfl, rfl, by omega, Lib.hid ⟨rfl, by decide, rfl⟩⟩
  case round =>
    obtain ⟨k, acc, a, rfl, rfl, rfl, hk, hh⟩ := hrel
    obtain ⟨ha, hacc, hdec⟩ := hh.out
    clear hh
    have hacc6 : acc < 16777216 := Nat.lt_of_lt_of_le hacc (Nat.le_trans (Nat.pow_le_pow_right (by decide) (show k ≤ 6 by omega)) (by decide))
    have a0 : 0 ≤ a := by omega
    have a1 : a < 16777216 := by omega
    by_cases hkn : k < t.size
    · have hc := hB k hkn
      have hlen : k < bs.length := by rw [HL.out]; exact hkn
      have hdrop : bs.drop k = bs[k]'hlen :: bs.drop (k + 1) := List.drop_eq_getElem_cons hlen
      have hget : bs.getD k 0 = bs[k]'hlen := by simp [List.getD, List.getElem?_eq_getElem hlen]
      have hxk := hexB_cases (HX.out (bs[k]'hlen) (List.getElem_mem hlen))
      rw [hdrop] at hdec
      rw [hget] at hc
      generalize bs[k]'hlen = c at hc hdec hxk
      have hpow : 16 ^ (k + 1) = 16 ^ k * 16 := Nat.pow_succ ..
      clear hB hdrop hget
      rcases hxk with ⟨hd0, hd1⟩ | ⟨hd0, hd1⟩
      · have hd : hexd c.toNat = c.toNat - 48 := by unfold hexd; rw [if_pos hd1]
        have HN : Hid (a * 16 + ((c.toNat : Int) - 48) = ((acc * 16 + hexd c.toNat : Nat) : Int) ∧ acc * 16 + hexd c.toNat < 16 ^ (k + 1) ∧ hexN 0 bs = hexN (acc * 16 + hexd c.toNat) (bs.drop (k + 1))) :=
          Lib.hid ⟨by rw [hd]; omega, by rw [hd, hpow]; omega, hdec⟩
        clear hdec ha hacc hpow hd hacc6
        go_wp2
        refine ⟨⟨k + 1, _, a * 16 + ((c.toNat : Int) - 48), rfl, (by first | rfl | (congr 1; omega)), (by first | rfl | (congr 1; omega)), by omega, HN⟩, by simp [intOf]; omega⟩
      · have hd : hexd c.toNat = c.toNat - 55 := by unfold hexd; rw [if_neg (by omega)]
        have HN : Hid (a * 16 + ((c.toNat : Int) + 32 - 97 + 10) = ((acc * 16 + hexd c.toNat : Nat) : Int) ∧ acc * 16 + hexd c.toNat < 16 ^ (k + 1) ∧ hexN 0 bs = hexN (acc * 16 + hexd c.toNat) (bs.drop (k + 1))) :=
          Lib.hid ⟨by rw [hd]; omega, by rw [hd, hpow]; omega, hdec⟩
        clear hdec ha hacc hpow hd hacc6
        go_wp2_with (go_at_call 109; refine (lower_hex c.toNat hd0 hd1 _).mono ?_; rintro e w' ⟨rfl, rfl⟩)
        refine ⟨⟨k + 1, _, a * 16 + ((c.toNat : Int) + 32 - 97 + 10), rfl, (by first | rfl | (congr 1; omega)), (by first | rfl | (congr 1; omega)), by omega, HN⟩, by simp [intOf]; omega⟩
    · have hkk : k = t.size := by omega
      subst hkk
      have hF : hexN acc (bs.drop t.size) = acc := by rw [List.drop_eq_nil_of_le (by rw [HL.out]; exact Nat.le_refl _)]; rfl
      rw [hF] at hdec
      have HD := Lib.hid hdec
      have HA := Lib.hid ha
      clear hF hdec ha hacc
      go_wp2
      go_ret2
      refine ⟨?_, rfl⟩
      rw [HD.out]
      have HA' := HA.out
      subst HA'
      rfl

set_option maxHeartbeats 1000000 in
set_option maxRecDepth 100000 in
theorem parseInt_hex' (t : ByteArray) (hne : 1 ≤ t.size) (hmax : t.size ≤ 6) (hx : ∀ c ∈ t.data.toList, hexB c = true) (w : World) :
    Calls Tryz.prog 97 #[.string t, .int .i64 16, .int .i64 64] w fun e w' => e = .returned (.tuple #[.int .i64 (hexN 0 t.data.toList), .nilIface]) ∧ w' = Lib.bytesWorld w 5 t := by
  have hlen : t.data.toList.length = t.size := (Lib.size_eq t).symm
  have hlt := hexN_lt t.data.toList 0 0 (by decide) hx
  have h6 : hexN 0 t.data.toList < 16777216 := Nat.lt_of_lt_of_le hlt (Nat.le_trans (Nat.pow_le_pow_right (by decide) (show 0 + t.data.toList.length ≤ 6 by omega)) (by decide))
  have a0 : (0 : Int) ≤ ((hexN 0 t.data.toList : Nat) : Int) := by omega
  have a1 : ((hexN 0 t.data.toList : Nat) : Int) < 16777216 := by omega
  have hemp : t.toList.isEmpty = false := by
    rw [← decide_eq_emptyBytes]
    exact decide_eq_false (fun h => by rw [h] at hne; exact absurd hne (by decide))
  have HP := Lib.hid (parseUint_hex t hne hmax hx w)
  have hfirst : hexB (t[0]'(by omega)) = true := hx _ (List.mem_of_getElem? (data_getElem t 0 (by omega)))
  have hf := hexB_cases hfirst
  have e0 : (0 : Nat) < t.size := by omega
  have n1 : (((t[0]'e0).toNat : Int) == 43) = false := by rw [beq_eq_false_iff_ne]; omega
  have n2 : (((t[0]'e0).toNat : Int) == 45) = false := by rw [beq_eq_false_iff_ne]; omega
  clear hx hlt h6 hfirst hlen hf
  generalize ((hexN 0 t.data.toList : Nat) : Int) = a at *
  go_enter Tryz.func97, Tryz.ntmps97
  go_wp2_with (go_at_call 104; refine HP.out.mono ?_; rintro e w' ⟨rfl, rfl⟩)
  go_ret2
  exact ⟨rfl, rfl⟩

set_option maxHeartbeats 1000000 in
set_option maxRecDepth 100000 in
theorem parseInt_hex (t : ByteArray) (hne : 1 ≤ t.size) (hmax : t.size ≤ 6) (hx : ∀ c ∈ t.data.toList, hexB c = true) (w : World) :
    Calls Tryz.prog 83 #[.string t, .int .i64 16, .int .i64 64] w fun e w' => e = .returned (.tuple #[.int .i64 (hexN 0 t.data.toList), .nilIface]) ∧ w' = Lib.bytesWorld w 5 t := by
  have HP := Lib.hid (parseInt_hex' t hne hmax hx w)
  clear hx
  generalize ((hexN 0 t.data.toList : Nat) : Int) = a at *
  go_enter Tryz.func83, Tryz.ntmps83
  go_wp2_with (go_at_call 97; refine HP.out.mono ?_; rintro e w' ⟨rfl, rfl⟩)
  go_ret2
  exact ⟨rfl, rfl⟩
end Go.Proofs.YtefjnpflpgilpaaGreatDoor
