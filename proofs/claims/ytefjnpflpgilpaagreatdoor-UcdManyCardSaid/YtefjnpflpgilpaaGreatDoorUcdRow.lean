/- What a row's condition gives the walks: a slice of entries that is read; the library's two variables. Conditions: none. -/
import Derived.Test.YtefjnpflpgilpaaGreatDoorUcdQ
import Derived.Test.YtefjnpflpgilpaaGreatDoorUcdW
import Derived.Test.YtefjnpflpgilpaaGreatDoorCards
import Derived.Test.YtefjnpflpgilpaaGreatDoorTie
import Derived.WalkKit
import Derived.ProofKit
import Derived.OpenShut
import Derived.Deep.DeepHandedRow
import Derived.Deep.Slices
import Derived.Lib.LaidTab
import Derived.Below
import Derived.Test.YtefjnpflpgilpaaGreatDoorUcdShelf
namespace Go.Proofs.YtefjnpflpgilpaaGreatDoor
open Go.ChangeShapes Go.WideShapes Go.ChangeAt Go.RowKit

section
variable {H : Type} {enc : TypeId × Value → H} {w : World} {base : Nat} {spare : Nat → Bool} {held : Bool}

set_option maxRecDepth 100000 in
theorem ents_opened {fuel : Nat} {v : Value} {x : DataW H × List MemPlace} (h : DataW.trod enc Tryz.prog w base spare held fuel 22 [v] = some x) :
    ∃ es : List RE, EntsAt w v es ∧ (∀ E ∈ es, E.v.size ≤ 9223372036854775807 ∧ E.x.size ≤ 9223372036854775807) ∧ es.length ≤ 9223372036854775807 := by
  rcases Go.Deep.open_slice Tryz.underlying22 h with ⟨hv, _⟩ | ⟨a, len, cap, m, n, D, Pl, hv, hb, hl, hm, hmm, rfl, hx⟩
  · cases hv
    exact ⟨[], .inl ⟨rfl, none, 0, rfl⟩, by simp, by simp⟩
  · cases hv
    have hlm : len ≤ m := by rw [hmm]; split <;> omega
    have ce : Tryz.prog.cellsOf 27 = 4 := by kernel_rfl
    have c3 : Tryz.prog.cellsOf 3 = 1 := by kernel_rfl
    have c9 : Tryz.prog.cellsOf 9 = 1 := by kernel_rfl
    have each : ∀ i, i < len → ∃ E : RE, (E.v.size ≤ 9223372036854775807 ∧ E.x.size ≤ 9223372036854775807) ∧ w.cell? ((a.add (i * 4)).add 0) = some (.int .i64 E.a) ∧ w.cell? ((a.add (i * 4)).add 1) = some (.int .i64 E.b) ∧ w.cell? ((a.add (i * 4)).add 2) = some (.string E.v) ∧ w.cell? ((a.add (i * 4)).add 3) = some (.string E.x) := by
      intro i hi
      obtain ⟨cs', h1, h2⟩ := hx i (by omega)
      rw [ce] at h1
      obtain ⟨_, hlen, hcell⟩ := World.cells?_some h1
      obtain ⟨xs, k, hk, hxy, _, hxl, hf⟩ := DataW.trod_struct Tryz.underlying27 h2
      match xs, hxl, cs', hlen with
      | [y0, y1, y2, y3], _, [v0, v1, v2, v3], _ =>
        have g0 := hf 0 _ rfl
        have g1 := hf 1 _ rfl
        have g2 := hf 2 _ rfl
        have g3 := hf 3 _ rfl
        simp [c3, c9] at g0 g1 g2 g3
        obtain ⟨na, e0, _, _⟩ := DataW.trod_int Tryz.underlying3 g0
        obtain ⟨nb, e1, _, _⟩ := DataW.trod_int Tryz.underlying3 g1
        obtain ⟨s2, e2, _, z2⟩ := DataW.trod_string Tryz.underlying9 g2
        obtain ⟨s3, e3, _, z3⟩ := DataW.trod_string Tryz.underlying9 g3
        cases e0; cases e1; cases e2; cases e3
        simp only [maxLen] at z2 z3
        exact ⟨⟨na, nb, s2, s3⟩, ⟨by simpa using z2, by simpa using z3⟩, by simpa using hcell 0 (by omega), by simpa using hcell 1 (by omega), by simpa using hcell 2 (by omega), by simpa using hcell 3 (by omega)⟩
    obtain ⟨q, hq⟩ : ∃ q : Nat → RE, ∀ i, i < len → ((q i).v.size ≤ 9223372036854775807 ∧ (q i).x.size ≤ 9223372036854775807) ∧ w.cell? ((a.add (i * 4)).add 0) = some (.int .i64 (q i).a) ∧ w.cell? ((a.add (i * 4)).add 1) = some (.int .i64 (q i).b) ∧ w.cell? ((a.add (i * 4)).add 2) = some (.string (q i).v) ∧ w.cell? ((a.add (i * 4)).add 3) = some (.string (q i).x) :=
      ⟨fun i => if h : i < len then Classical.choose (each i h) else ⟨0, 0, ⟨#[]⟩, ⟨#[]⟩⟩, fun i h => by have := Classical.choose_spec (each i h); simp only [dif_pos h]; exact this⟩
    simp only [maxLen] at hm
    refine ⟨(List.range len).map q, ?_, ?_, by simp; omega⟩
    · by_cases h0 : len = 0
      · subst h0
        exact .inl ⟨rfl, some a, cap, rfl⟩
      · obtain ⟨b, o, sp⟩ := a
        have hsp : sp = none := by
          have := (hq 0 (by omega)).2.1
          simp only [Nat.zero_mul, Addr.add, if_true] at this
          unfold World.cell? at this
          cases sp with
          | none => rfl
          | some _ =>
            simp only [Option.isSome_some, if_true] at this
            split at this <;> cases this
        subst hsp
        refine .inr ⟨b, o, cap, by simp, fun i hi => ?_⟩
        have hi' : i < len := by simpa using hi
        obtain ⟨_, h0, h1, h2, h3⟩ := hq i hi'
        simp only [addr_add] at h0 h1 h2 h3
        simp only [List.getElem_map, List.getElem_range]
        exact ⟨h0, h1, h2, h3⟩
    · intro E hE
      obtain ⟨i, hi, rfl⟩ := List.mem_map.1 hE
      exact (hq i (by simpa using hi)).1
end
theorem maxLen_of (W : World) (h : W.ShapedOpen Tryz.prog) : HasMax W := Tryz.laysM219.s1_3 W h
end Go.Proofs.YtefjnpflpgilpaaGreatDoor
