/- What a row's condition gives of an entry that is handed by value. Conditions: none. -/
import Derived.Test.YtefjnpflpgilpaaGreatDoorUcdRow
namespace Go.Proofs.YtefjnpflpgilpaaGreatDoor
open Go.ChangeShapes Go.WideShapes Go.ChangeAt Go.RowKit

section
variable {H : Type} {enc : TypeId × Value → H} {w : World} {base : Nat} {spare : Nat → Bool} {held : Bool}
set_option maxRecDepth 100000 in
theorem entry_opened {fuel : Nat} {cs : Array Value} {x : DataW H × List MemPlace} (h : DataW.trod enc Tryz.prog w base spare held fuel 27 cs.toList = some x) (hcs : cs.size = Tryz.prog.cellsOf 27) :
    ∃ E : RE, cs = #[.int .i64 E.a, .int .i64 E.b, .string E.v, .string E.x] ∧ E.v.size ≤ 9223372036854775807 ∧ E.x.size ≤ 9223372036854775807 := by
  have ce : Tryz.prog.cellsOf 27 = 4 := by kernel_rfl
  have c3 : Tryz.prog.cellsOf 3 = 1 := by kernel_rfl
  have c9 : Tryz.prog.cellsOf 9 = 1 := by kernel_rfl
  rw [ce] at hcs
  obtain ⟨l⟩ := cs
  simp only at h
  have hlen : l.length = 4 := by simpa using hcs
  obtain ⟨xs, k, hk, hxy, _, hxl, hf⟩ := DataW.trod_struct Tryz.underlying27 h
  match xs, hxl, l, hlen with
  | [y0, y1, y2, y3], _, [v0, v1, v2, v3], _ =>
    have g0 := hf 0 _ rfl
    have g1 := hf 1 _ rfl
    have g2 := hf 2 _ rfl
    have g3 := hf 3 _ rfl
    simp [c3, c9] at g0 g1 g2 g3
    obtain ⟨na, e0, _, _⟩ := DataW.trod_int Tryz.underlying3 g0
    obtain ⟨nb, e1, _, _⟩ := DataW.trod_int Tryz.underlying3 g1
    obtain ⟨s2, e2, _, z2⟩ := DataW.trod_string Tryz.underlying9 g2
    obtain ⟨s3, e3, _, z3⟩ := DataW.trod_string Tryz.underlying9 g3
    cases e0; cases e1; cases e2; cases e3
    simp only [maxLen] at z2 z3
    exact ⟨⟨na, nb, s2, s3⟩, rfl, by simpa using z2, by simpa using z3⟩
end
end Go.Proofs.YtefjnpflpgilpaaGreatDoor
