/- The walk of UcdWrites. Conditions: the library's variable MaxLen holds an int; one cell of the library's table; strings below 2^63 bytes. -/
import Derived.Test.YtefjnpflpgilpaaGreatDoorUcdX
import Derived.Test.YtefjnpflpgilpaaGreatDoorUcdT
import Derived.Test.YtefjnpflpgilpaaGreatDoorUcdU
import Derived.Test.YtefjnpflpgilpaaGreatDoorUcdV
namespace Go.Proofs.YtefjnpflpgilpaaGreatDoor
open Go.RowKit

/-- an entry of an argument, in a later world -/
structure At4 (w0 w : World) (g o : Nat) (E : RE) : Prop where
  bel : Below w0.heap.size w0 w
  c0 : w.cell? ⟨g, o, none⟩ = some (.int .i64 E.a)
  c1 : w.cell? ⟨g, o + 1, none⟩ = some (.int .i64 E.b)
  c2 : w.cell? ⟨g, o + 2, none⟩ = some (.string E.v)
  c3 : w.cell? ⟨g, o + 3, none⟩ = some (.string E.x)
theorem At4.step {w0 w w' : World} {g o : Nat} {E : RE} (h : At4 w0 w g o E) (hb : Below w.heap.size w w') : At4 w0 w' g o E :=
  ⟨h.bel.trans (hb.mono h.bel.size), (hb.cell (World.block_lt_of_cell? w _ h.c0)).trans h.c0, (hb.cell (World.block_lt_of_cell? w _ h.c1)).trans h.c1, (hb.cell (World.block_lt_of_cell? w _ h.c2)).trans h.c2, (hb.cell (World.block_lt_of_cell? w _ h.c3)).trans h.c3⟩
theorem refText_good (val : Value) (es : List RE) (l : List UInt8) (w : World) (hE : EntsAt w val es) (hs : ∀ E ∈ es, E.v.size ≤ 9223372036854775807 ∧ E.x.size ≤ 9223372036854775807) (hlen : es.length ≤ 9223372036854775807) (h : textR es = some l) :
    Calls Tryz.prog 12 #[val] w fun e w' => ∃ ad c, e = .returned (.tuple #[.slice ad l.length c, .int .i64 0]) ∧ Below w.heap.size w w' ∧ BytesAt w' (.slice ad l.length c) l :=
  (refText_walk val es w hE hs hlen).mono fun e w' ⟨h1, h2⟩ => by
    unfold TE at h2
    rw [h] at h2
    obtain ⟨v, rfl, h3⟩ := h2
    have h4 := bytesAt_row h3
    rcases h3.2 with ⟨rfl, h0⟩ | ⟨g, cap, _, rfl, _⟩
    · exact ⟨none, 0, by rw [h0], h1, by rw [h0]; exact h4⟩
    · exact ⟨_, cap, rfl, h1, h4⟩
theorem refText_bad (val : Value) (es : List RE) (w : World) (hE : EntsAt w val es) (hs : ∀ E ∈ es, E.v.size ≤ 9223372036854775807 ∧ E.x.size ≤ 9223372036854775807) (hlen : es.length ≤ 9223372036854775807) (h : textR es = none) :
    Calls Tryz.prog 12 #[val] w fun e w' => e = .returned (.tuple #[.slice none 0 0, .int .i64 21]) ∧ Below w.heap.size w w' :=
  (refText_walk val es w hE hs hlen).mono fun e w' ⟨h1, h2⟩ => ⟨by unfold TE at h2; rw [h] at h2; exact h2, h1⟩

set_option maxRecDepth 100000 in
set_option maxHeartbeats 2000000 in
theorem writes_walk (va : Value) (es : List RE) (w : World) (hM : HasMax w) (hT : HasTab w) (hA : EntsAt w va es) (la : es.length ≤ 9223372036854775807) (hs : ∀ E ∈ es, E.v.size ≤ 9223372036854775807 ∧ E.x.size ≤ 9223372036854775807) :
    Calls Tryz.prog 3 #[va] w fun e w' => e = .returned (.bool true) ∧ Below w.heap.size w w' := by
  obtain ⟨ad, c, rfl⟩ : ∃ ad c, va = .slice ad es.length c := by
    rcases hA with ⟨rfl, ad, c, rfl⟩ | ⟨g, o, c, rfl, _⟩
    · exact ⟨ad, c, rfl⟩
    · exact ⟨_, c, rfl⟩
  have HA := Lib.hid hA
  have HS := Lib.hid hs
  have HM := Lib.hid hM
  have HT := Lib.hid hT
  clear hA hs hM hT
  go_enter Tryz.func3, Tryz.ntmps3
  go_wp2_with fail
  refine (fits_walk _ es _ HA.out la HS.out).mono ?_
  rintro e w1 ⟨⟨t, rfl, ht⟩, hw⟩
  obtain rfl := hw.symm
  have HF := Lib.hid ht
  clear ht
  cases t with
  | false =>
    go_wp2_with fail
    refine (alive_walk _ HM.out HT.out).mono ?_
    rintro e w1 ⟨rfl, hb1⟩
    go_wp2_with fail
    go_ret
    exact ⟨rfl, hb1⟩
  | true =>
    have h60 : es.length ≤ 60 := HF.out rfl
    go_wp2_with fail
    go_loopw [4] (fun vi wr => ∃ k : Nat, vi = .int .i64 k ∧ k ≤ es.length ∧ Hid (Below w.heap.size w wr)) (fun vi _ => es.length - (intOf vi).toNat)
    case atStart => exact ⟨0, rfl, by omega, Lib.hid (Below.refl _ _)⟩
    case round =>
      obtain ⟨k, rfl, hk, hh⟩ := hrel
      by_cases hkn : k < es.length
      · obtain ⟨g, o, c', hval, hc⟩ := (HA.out.below hh.out).resolve_left (by rintro ⟨h, _⟩; rw [h] at hkn; exact absurd hkn (Nat.not_lt_zero k))
        injection hval with had _ hcc
        subst had
        subst hcc
        obtain ⟨c0, c1, c2, c3⟩ := hc k hkn
        obtain ⟨sv, sx⟩ := HS.out es[k] (List.getElem_mem hkn)
        obtain ⟨E, hE⟩ : ∃ E, E = es[k] := ⟨_, rfl⟩
        rw [← hE] at c0 c1 c2 c3 sv sx
        clear hE hc
        obtain ⟨a, b, v, x⟩ := E
        simp only at c0 c1 c2 c3 sv sx
        have hG : At4 w wr.drew g (o + k * 4) ⟨a, b, v, x⟩ := ⟨hh.out.trans ((below_drewN' wr 1).mono hh.out.size), c0, c1, c2, c3⟩
        have hmix : Tryz.prog.follows .mixedOrders = true := by kernel_rfl
        obtain ⟨t, ht⟩ : ∃ t, rightOk a b v.data.toList x.data.toList = t := ⟨_, rfl⟩
        have HR := Lib.hid ht
        clear ht
        go_wp2_with fail
        go_region_with (first
          | (go_at_call 9; refine (right_true a b v x t _ sv sx HR.out).mono ?_; rintro e w' ⟨rfl, hb⟩; have hG' := At4.step (by assumption) hb; have z0 := hG'.c0; have z1 := hG'.c1; have z2 := hG'.c2; have z3 := hG'.c3)
          | (go_at_call 10; refine (refRight_at a b v x t _ sv sx HR.out).mono ?_; rintro e w' ⟨rfl, hb⟩; have hG' := At4.step (by assumption) hb; have z0 := hG'.c0; have z1 := hG'.c1; have z2 := hG'.c2; have z3 := hG'.c3))
        all_goals
          go_wp2_with fail
          go_roundw
          case rel => exact ⟨k + 1, by simp, by omega, Lib.hid (At4.bel (by assumption))⟩
          case measure => simp [intOf]; omega
      · have hkk : k = es.length := by omega
        subst hkk
        have hB := hh.out
        cases htx : textR es with
        | none =>
          have HX := Lib.hid htx
          clear htx
          have hnil : ∀ W, (convert 28 9 (.slice none 0 0)).run Tryz.prog W = .ok (.string ⟨#[]⟩) W := fun W => Lib.run_convert_nil_bytes W 28 9 5 0 (by kernel_rfl) (by kernel_rfl) (by kernel_rfl)
          go_wp2_with fail
          refine (text_bad _ es _ (HT.out.below hB) (HA.out.below hB) HS.out la HX.out).mono ?_
          rintro e w1 ⟨rfl, hb1⟩
          have HB1 := Lib.hid (hB.trans (hb1.mono hB.size))
          clear hb1
          go_wp2_with fail
          refine (refText_bad _ es _ (HA.out.below HB1.out) HS.out la HX.out).mono ?_
          rintro e w2 ⟨rfl, hb2⟩
          have HB2 := Lib.hid (HB1.out.trans (hb2.mono HB1.out.size))
          clear hb2
          go_wp2_with fail
          refine (alive_walk _ (HM.out.below HB2.out) (HT.out.below HB2.out)).mono ?_
          rintro e w3 ⟨rfl, hb3⟩
          have HB3 := Lib.hid (HB2.out.trans (hb3.mono HB2.out.size))
          clear hb3
          go_wp2_with fail
          go_ret
          exact ⟨rfl, HB3.out⟩
        | some l =>
          have HX := Lib.hid htx
          clear htx
          go_wp2_with fail
          refine (text_good _ es l _ (HT.out.below hB) (HA.out.below hB) HS.out la HX.out).mono ?_
          rintro e w1 ⟨ad1, c1, rfl, hb1, hy1⟩
          have HB1 := Lib.hid (hB.trans (hb1.mono hB.size))
          have HY1 := Lib.hid hy1
          clear hb1 hy1
          go_wp2_with fail
          refine (refText_good _ es l _ (HA.out.below HB1.out) HS.out la HX.out).mono ?_
          rintro e w2 ⟨ad2, c2, rfl, hb2, hy2⟩
          have HB2 := Lib.hid (HB1.out.trans (hb2.mono HB1.out.size))
          have HY1' := Lib.hid (HY1.out.below hb2)
          have HY2 := Lib.hid hy2
          clear hb2 hy2
          go_wp2_with fail
          refine (alive_walk _ (HM.out.below HB2.out) (HT.out.below HB2.out)).mono ?_
          rintro e w3 ⟨rfl, hb3⟩
          have HB3 := Lib.hid (HB2.out.trans (hb3.mono HB2.out.size))
          have hc1 := (HY1'.out.below hb3).conv
          have hc2 := (HY2.out.below hb3).conv
          clear hb3
          go_wp2_with fail
          go_ret
          exact ⟨rfl, HB3.out⟩
end Go.Proofs.YtefjnpflpgilpaaGreatDoor
