/- The walk of alive. Conditions: the library's variable MaxLen holds an int; one cell of the library's table. -/
import Derived.Test.YtefjnpflpgilpaaGreatDoorUcdW
import Derived.Lib.SlBytesConst
namespace Go.Proofs.YtefjnpflpgilpaaGreatDoor
open Go.RowKit

theorem bytesAt_mark (w : World) (l : List UInt8) (t : TypeId) (fr : Nat × Nat) : BytesAt (w.alloc (.cells (Lib.byteCells l).toArray t fr)) (.slice (some ⟨w.heap.size, 0, none⟩) l.length l.length) l := by
  refine .inr ⟨_, 0, _, rfl, fun j hj => ?_⟩
  rw [addr_add, Nat.zero_add, World.cell?_alloc_mark]
  simp [Lib.byteCells, List.getElem?_eq_getElem hj]
theorem ask2_walk (bv : Value) (w : World) (hM : HasMax w) (hv : BytesAt w bv ask2) :
    Calls Tryz.prog 13 #[bv] w fun e w' => ∃ g o c, e = .returned (.tuple #[.slice (some ⟨g, o, none⟩) 2 c, .int .i64 0]) ∧ Below w.heap.size w w' ∧ EntsAt w' (.slice (some ⟨g, o, none⟩) 2 c) (two.map Ent.re) ∧
      w'.cell? ⟨g, o + 3, none⟩ = some (.string ⟨#[111]⟩) ∧ w'.cell? ⟨g, o + 5, none⟩ = some (.int .i64 90) :=
  (parse_good bv ask2 two w hM (by decide) hv ask2_two).mono fun e w' ⟨ad, c, he, hb, hE⟩ => by
    have hE2 : EntsAt w' (.slice ad 2 c) (two.map Ent.re) := hE
    obtain ⟨g, o, c', hval, hc⟩ := hE.resolve_left (by rintro ⟨h, _⟩; simp [two] at h)
    injection hval with had _ hcc
    subst had
    subst hcc
    exact ⟨g, o, c, he, hb, hE2, (hc 0 (by decide)).2.2.2, (hc 1 (by decide)).2.1⟩
theorem ask3_walk (val : Value) (w : World) (hT : HasTab w) (hE : EntsAt w val (two.map Ent.re)) :
    Calls Tryz.prog 11 #[val] w fun e w' => ∃ ad c, e = .returned (.tuple #[.slice ad 31 c, .int .i64 0]) ∧ Below w.heap.size w w' ∧ (convert 28 9 (.slice ad 31 c)).run Tryz.prog w' = .ok (.string ⟨#[48, 48, 50, 56, 32, 59, 32, 48, 48, 50, 57, 32, 59, 32, 111, 10, 48, 48, 52, 49, 46, 46, 48, 48, 53, 65, 32, 59, 32, 76, 10]⟩) w' :=
  (text_good val (two.map Ent.re) ask3 w hT hE (by
    intro E hE
    simp only [two, List.map_cons, List.map_nil, List.mem_cons, List.not_mem_nil, or_false] at hE
    rcases hE with rfl | rfl <;> exact ⟨by decide, by decide⟩) (by decide) two_text).mono fun e w' ⟨ad, c, he, hb, hy⟩ => ⟨ad, c, he, hb, hy.conv⟩
set_option maxRecDepth 100000 in
set_option maxHeartbeats 1000000 in
theorem alive_walk (w : World) (hM : HasMax w) (hT : HasTab w) :
    Calls Tryz.prog 8 #[] w fun e w' => e = .returned (.bool true) ∧ Below w.heap.size w w' := by
  have HM := Lib.hid hM
  have HT := Lib.hid hT
  clear hM hT
  go_enter Tryz.func8, Tryz.ntmps8
  have hcv : ∀ (W : World) (C : Array Value) (n c : Nat), (convert 28 28 (.slice (some ⟨W.heap.size, 0, none⟩) n c)).run Tryz.prog (W.alloc (.cells C 5)) = .ok (.slice (some ⟨W.heap.size, 0, none⟩) n c) (W.alloc (.cells C 5 (C.size, C.size + 1))) := fun W C n c =>
    Lib.run_convert_bytes_const W 28 5 C n c Tryz.underlying28 Tryz.underlying5
  go_wp2_with fail
  have hb0 : Below w.heap.size w (w.alloc (.cells (Lib.byteCells ask1).toArray 5 (47, 48))) := (Below.refl _ _).alloc (Nat.le_refl _) _
  refine (parse_bad _ ask1 _ (HM.out.below hb0) (by decide) (bytesAt_mark w ask1 5 (47, 48)) ask1_bad).mono ?_
  rintro e w1 ⟨rfl, hb1⟩
  have HB1 := Lib.hid (hb0.trans (hb1.mono hb0.size))
  clear hb1 hb0
  go_wp2_with fail
  have hb2 : Below w1.heap.size w1 (w1.alloc (.cells (Lib.byteCells ask2).toArray 5 (28, 29))) := (Below.refl _ _).alloc (Nat.le_refl _) _
  have HB2 := Lib.hid (HB1.out.trans (hb2.mono HB1.out.size))
  refine (ask2_walk _ _ (HM.out.below HB2.out) (bytesAt_mark w1 ask2 5 (28, 29))).mono ?_
  rintro e w2 ⟨g, o, c, rfl, hb3, hE, x0, x1⟩
  have HB3 := Lib.hid (HB2.out.trans (hb3.mono HB2.out.size))
  have HE := Lib.hid hE
  clear hb3 hb2 hE
  go_wp2_with fail
  refine (ask3_walk _ _ (HT.out.below HB3.out) HE.out).mono ?_
  rintro e w3 ⟨ad, c', rfl, hb4, hcs⟩
  have y0 : w3.cell? ⟨g, o + 3, none⟩ = some (.string ⟨#[111]⟩) := (hb4.cell (World.block_lt_of_cell? w2 _ x0)).trans x0
  have y1 : w3.cell? ⟨g, o + 5, none⟩ = some (.int .i64 90) := (hb4.cell (World.block_lt_of_cell? w2 _ x1)).trans x1
  have HB4 := Lib.hid (HB3.out.trans (hb4.mono HB3.out.size))
  clear hb4 x0 x1
  go_wp2_with fail
  go_ret
  exact ⟨rfl, HB4.out⟩
end Go.Proofs.YtefjnpflpgilpaaGreatDoor
