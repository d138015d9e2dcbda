/- The walk of strconv.FormatInt at base 16. Conditions: the number is at least 0; one cell of the library's table deBruijn64tab. -/
import Derived.Test.YtefjnpflpgilpaaGreatDoorUcdF
import Derived.Laws.Bits64b
import Derived.Laws.IdiomStrings
namespace Go.Proofs.YtefjnpflpgilpaaGreatDoor
open Go.RowKit

def HasTab (w : World) : Prop := w.cell? ⟨6, 15, none⟩ = some (.int .u8 4)
theorem HasTab.below {w w' : World} (h : HasTab w) (hb : Below w.heap.size w w') : HasTab w' :=
  (hb.cell (World.block_lt_of_cell? w _ h)).trans h

theorem tz64_walk (w : World) (hT : HasTab w) : Calls Tryz.prog 103 #[.int .u64 16] w fun e w' => e = .returned (.int .i64 4) ∧ w' = w := by
  unfold HasTab at hT
  have key : IntKind.u64.wrap (bits BinOp.and IntKind.u64 16 (IntKind.u64.wrap (-16)) * 285870213051353865) / 288230376151711744 = 15 := by decide
  go_enter Tryz.func103, Tryz.ntmps103
  go_wp2_with (simp only [key])
  go_ret
  exact ⟨rfl, rfl⟩
theorem tz_walk (w : World) (hT : HasTab w) : Calls Tryz.prog 92 #[.int .u64 16] w fun e w' => e = .returned (.int .i64 4) ∧ w' = w := by
  go_enter Tryz.func92, Tryz.ntmps92
  go_wp2_with (go_at_call 103; refine (tz64_walk _ hT).mono ?_; rintro e w1 ⟨rfl, hw⟩; obtain rfl := hw.symm)
  go_ret
  exact ⟨rfl, rfl⟩
theorem pow2_walk (w : World) : Calls Tryz.prog 91 #[.int .i64 16] w fun e w' => e = .returned (.bool true) ∧ w' = w := by
  have key : bits BinOp.and IntKind.i64 16 15 = 0 := by decide
  go_enter Tryz.func91, Tryz.ntmps91
  go_wp2
  go_ret
  exact ⟨rfl, rfl⟩
/-- a digit below 16, as strconv writes it -/
def dig (d : Nat) : UInt8 := if d < 10 then UInt8.ofNat (48 + d) else UInt8.ofNat (87 + d)
/-- a number's digits at base 16 -/
def hexS (u : Nat) : List UInt8 := if _h : u < 16 then [dig u] else hexS (u / 16) ++ [dig (u % 16)]
  termination_by u
  decreasing_by omega
theorem hexS_low {u : Nat} (h : u < 16) : hexS u = [dig u] := by rw [hexS, dif_pos h]
theorem hexS_high {u : Nat} (h : ¬ u < 16) : hexS u = hexS (u / 16) ++ [dig (u % 16)] := by rw [hexS, dif_neg h]
def lit36 : ByteArray := ⟨#[48, 49, 50, 51, 52, 53, 54, 55, 56, 57, 97, 98, 99, 100, 101, 102, 103, 104, 105, 106, 107, 108, 109, 110, 111, 112, 113, 114, 115, 116, 117, 118, 119, 120, 121, 122]⟩
theorem lit36_at (d : Nat) (h : d < 16) : lit36.data.toList[d]? = some (dig d) := by
  revert d
  decide

theorem lit36_get (d : Nat) (h : d < 16) (h' : d < lit36.size) : lit36[d]'h' = dig d := Option.some.inj ((data_getElem lit36 d h').symm.trans (lit36_at d h))
/-- what formatBits' array holds while its loop runs -/
structure FB (w0 : World) (ds : List UInt8) (w : World) : Prop where
  bel : Below w0.heap.size w0 w
  there : ∀ o, o < 65 → (∃ v, w.cell? ⟨w0.heap.size, o, none⟩ = some v) ∧ w.frozen? ⟨w0.heap.size, o, none⟩ = false
  cells : ∀ j (h : j < ds.length), w.cell? ⟨w0.heap.size, 65 - ds.length + j, none⟩ = some (.int .u8 (ds[j].toNat : Int))

theorem FB.put {w0 w : World} {ds : List UInt8} (h : FB w0 ds w) (d : UInt8) (i : Nat) (hi : i + 1 + ds.length = 65) : FB w0 (d :: ds) (w.setCell ⟨w0.heap.size, i, none⟩ (.int .u8 (d.toNat : Int))) := by
  refine ⟨h.bel.setCell (Nat.le_refl _) _, fun o ho => ?_, fun j hj => ?_⟩
  · obtain ⟨⟨v, hv⟩, hf⟩ := h.there o ho
    refine ⟨?_, (World.frozen?_setCell _ _ _ _).trans hf⟩
    by_cases e : o = i
    · subst e
      exact ⟨_, World.cell?_setCell_same w _ _ hv⟩
    · exact ⟨v, (World.cell?_setCell_other w _ _ _ (by intro e2; injection e2 with _ e2 _; exact e e2.symm)).trans hv⟩
  · have e65 : 65 - (d :: ds).length = i := by simp; omega
    rw [e65]
    cases j with
    | zero =>
      obtain ⟨⟨v, hv⟩, _⟩ := h.there i (by omega)
      exact World.cell?_setCell_same w _ _ hv
    | succ j =>
      have hj' : j < ds.length := by simpa using hj
      have := h.cells j hj'
      have e : 65 - ds.length + j = i + (j + 1) := by omega
      rw [e] at this
      refine (World.cell?_setCell_other w _ _ _ (by intro e2; injection e2 with _ e2 _; omega)).trans ?_
      rw [this]
      rfl

set_option maxRecDepth 100000 in
set_option maxHeartbeats 1000000 in
theorem bits_walk (u : Nat) (w : World) (hT : HasTab w) (hu : u < 4294967296) :
    Calls Tryz.prog 73 #[.slice none 0 0, .int .u64 u, .int .i64 16, .bool false, .bool false] w fun e w' => e = .returned (.tuple #[.slice none 0 0, .string ⟨(hexS u).toArray⟩]) ∧ Below w.heap.size w w' := by
  have HT := Lib.hid hT
  clear hT
  go_enter Tryz.func73, Tryz.ntmps73
  go_wp2_with (first
    | (go_at_call 91; refine (pow2_walk _).mono ?_; rintro e w1 ⟨rfl, rfl⟩)
    | (go_at_call 92; refine (tz_walk _ (HT.out.below ((Below.refl _ _).alloc (Nat.le_refl _) _))).mono ?_; rintro e w1 ⟨rfl, rfl⟩))
  go_loopw [1, 13] (fun vu vi wr => ∃ (u' i : Nat) (ds : List UInt8), vu = .int .u64 u' ∧ vi = .int .i64 ((i : Int) + 1) ∧ i + 1 + ds.length = 65 ∧ u' < 4294967296 ∧ Hid (hexS u = hexS u' ++ ds ∧ u' * 16 ^ ds.length ≤ u ∧ FB w ds wr)) (fun vu _ _ => (intOf vu).toNat)
  case atStart =>
    refine ⟨u, 64, [], rfl, rfl, by simp, hu, Lib.hid ⟨by simp, by simp, (Below.refl _ _).alloc (Nat.le_refl _) _, fun o ho => ?_, fun j hj => by simp at hj⟩⟩
    refine ⟨⟨.int .u8 0, ?_⟩, by simp [go_sem]⟩
    rw [World.cell?_alloc_new]
    have : Tryz.zeroCells119 = Array.replicate 65 (.int .u8 0) := by kernel_rfl
    rw [this]
    simp [ho]
  case round =>
    obtain ⟨u', i, ds, rfl, rfl, hds, hu', hh⟩ := hrel
    obtain ⟨⟨v, hcv⟩, hfv⟩ := hh.out.2.2.there i (by omega)
    have hi65 : (i : Int) < 65 := by omega
    have hi0 : ¬ ((i : Int) < 0) := by omega
    have hsl : ∀ W, (Instr.sliceAt 119 (.pointer (some ⟨w.heap.size, 0, none⟩)) (some (.int .i64 (i : Int))) none none).run Tryz.prog W = .ok (.slice (some ⟨w.heap.size, i, none⟩) (65 - i) (65 - i)) W := fun W => by
      have hal : Tryz.prog.arrayLen 119 = 65 := by kernel_rfl
      rw [run_sliceAt_array_l W 119 ⟨w.heap.size, 0, none⟩ (by kernel_rfl) .i64 (i : Int) (by omega) (by rw [hal]; omega)]
      go_simp
      omega
    by_cases hlt : u' < 16
    · have k1 : (u' : Int) < 16 := by omega
      have hlit := lit36_get u' hlt
      unfold lit36 at hlit
      have hF := hh.out.2.2.put (dig u') i hds
      have hconv : (convert 28 9 (.slice (some ⟨w.heap.size, i, none⟩) (65 - i) (65 - i))).run Tryz.prog (wr.setCell ⟨w.heap.size, i, none⟩ (.int .u8 ((dig u').toNat : Int))) = .ok (.string ⟨(hexS u).toArray⟩) (wr.setCell ⟨w.heap.size, i, none⟩ (.int .u8 ((dig u').toNat : Int))) := by
        have e1 : 65 - i = (dig u' :: ds).length := by simp; omega
        have e2 : hexS u = dig u' :: ds := by rw [hh.out.1, hexS_low hlt]; rfl
        rw [e2]
        have := run_convert_bytes_back (P := Tryz.prog) (wr.setCell ⟨w.heap.size, i, none⟩ (.int .u8 ((dig u').toNat : Int))) 28 9 5 ⟨w.heap.size, i, none⟩ (65 - i) (dig u' :: ds) (by kernel_rfl) (by kernel_rfl) (by kernel_rfl) (fun j hj => by
          have h1 := hF.cells j hj
          rw [← e1] at h1
          have e3 : (⟨w.heap.size, i, none⟩ : Addr).add j = ⟨w.heap.size, i + j, none⟩ := by unfold Addr.add; split <;> simp_all
          have e4 : 65 - (65 - i) + j = i + j := by omega
          rw [e4] at h1
          rw [e3]
          exact h1)
        rw [← e1] at this
        exact this
      have HB := Lib.hid hF.bel
      clear hF
      go_wp2
      go_ret2
      exact ⟨rfl, HB.out⟩
    · have k1 : (16 : Int) ≤ (u' : Int) := by omega
      have hlit := lit36_get (u' % 16) (by omega)
      unfold lit36 at hlit
      have hand : bits BinOp.and IntKind.u64 (u' : Int) 15 = ((u' % 16 : Nat) : Int) := by
        have := bits_and_u64_nat u' 15 (by omega) (by omega)
        rw [show ((15 : Nat) : Int) = 15 from rfl] at this
        rw [this]
        congr 1
        exact Nat.and_two_pow_sub_one_eq_mod u' 4
      have hlen : ds.length < 8 := by
        have h1 := hh.out.2.1
        rcases Nat.lt_or_ge ds.length 8 with h | h
        · exact h
        · exfalso
          have h2 : 16 ^ 8 ≤ 16 ^ ds.length := Nat.pow_le_pow_right (by decide) h
          have h3 : 1 * 16 ^ ds.length ≤ u' * 16 ^ ds.length := Nat.mul_le_mul_right _ (by omega)
          have h4 : (16 : Nat) ^ 8 = 4294967296 := by decide
          omega
      have hfin : Hid (hexS u = hexS (u' / 16) ++ dig (u' % 16) :: ds ∧ u' / 16 * 16 ^ (dig (u' % 16) :: ds).length ≤ u ∧ FB w (dig (u' % 16) :: ds) (wr.setCell ⟨w.heap.size, i, none⟩ (.int .u8 ((dig (u' % 16)).toNat : Int)))) := Lib.hid ⟨by
          rw [hh.out.1, hexS_high hlt, List.append_assoc]; rfl, by
          rw [List.length_cons, Nat.pow_succ, Nat.mul_comm (16 ^ ds.length) 16, ← Nat.mul_assoc]
          exact Nat.le_trans (Nat.mul_le_mul_right _ (Nat.div_mul_le_self u' 16)) hh.out.2.1, hh.out.2.2.put _ i hds⟩
      obtain ⟨i1, rfl⟩ : ∃ i1, i = i1 + 1 := ⟨i - 1, by omega⟩
      go_wp2
      refine ⟨⟨u' / 16, i1, dig (u' % 16) :: ds, by simp, by simp, by simp; omega, by omega, hfin⟩, ?_⟩
      simp [intOf]
      omega
end Go.Proofs.YtefjnpflpgilpaaGreatDoor
