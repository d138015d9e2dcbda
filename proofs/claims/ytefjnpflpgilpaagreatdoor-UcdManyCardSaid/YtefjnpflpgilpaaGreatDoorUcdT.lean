/- The walks of the reference's Line and Text. Conditions: strings below 2^63 bytes. -/
import Derived.Test.YtefjnpflpgilpaaGreatDoorUcdQ
import Derived.Test.YtefjnpflpgilpaaGreatDoorUcdR
import Derived.Test.YtefjnpflpgilpaaGreatDoorUcdS
namespace Go.Proofs.YtefjnpflpgilpaaGreatDoor
open Go.RowKit

theorem figures_at (u : Nat) (f : ByteArray) (w : World) (hu : u < 4294967296) (hf : f.data.toList = figL u) :
    Calls Tryz.prog 25 #[.int .i64 u] w fun e w' => e = .returned (.string f) ∧ w' = w := by
  have := figures_walk u w hu
  rw [← hf] at this
  exact this

set_option maxRecDepth 100000 in
set_option maxHeartbeats 1000000 in
theorem line_walk (E : RE) (L : ByteArray) (w : World) (hok : E.ok = true) (hL : L.data.toList = E.line) :
    Calls Tryz.prog 15 #[.agg #[.int .i64 E.a, .int .i64 E.b, .string E.v, .string E.x]] w fun e w' => e = .returned (.string L) ∧ Below w.heap.size w w' := by
  obtain ⟨p1, p2, p3, p4, p5⟩ := RE.ok_parts hok
  obtain ⟨a, b, v, x⟩ := E
  simp only at p1 p2 p3 p4 p5
  obtain ⟨na, rfl⟩ := Int.eq_ofNat_of_zero_le p1
  obtain ⟨nb, rfl⟩ := Int.eq_ofNat_of_zero_le (Int.le_trans p1 p2)
  have hna : na < 4294967296 := by omega
  have hnb : nb < 4294967296 := by omega
  obtain ⟨fa, hfa⟩ : ∃ fa : ByteArray, fa.data.toList = figL na := ⟨⟨(figL na).toArray⟩, by simp⟩
  obtain ⟨fb, hfb⟩ : ∃ fb : ByteArray, fb.data.toList = figL nb := ⟨⟨(figL nb).toArray⟩, by simp⟩
  have sfa : fa.size ≤ 8 := by rw [Lib.size_eq, hfa]; exact figL_length na hna
  have sfb : fb.size ≤ 8 := by rw [Lib.size_eq, hfb]; exact figL_length nb hnb
  have fin : ∀ s : ByteArray, s.data.toList = RE.line ⟨na, nb, v, x⟩ → s = L := fun s hs => by
    apply ByteArray.ext
    apply Array.toList_inj.1
    rw [hs, hL]
  have FIN := Lib.hid fin
  have HFA := Lib.hid hfa
  have HFB := Lib.hid hfb
  have e46 : (⟨#[46, 46]⟩ : ByteArray).size = 2 := rfl
  have e32 : (⟨#[32, 59, 32]⟩ : ByteArray).size = 3 := rfl
  have e10 : (⟨#[10]⟩ : ByteArray).size = 1 := rfl
  clear hok hfa hfb fin p1 hL
  by_cases hab : na < nb
  · have kab : ¬ (nb : Int) = (na : Int) := by omega
    cases hxe : x.toList.isEmpty with
    | true =>
      have hx0 : x.data.toList = [] := by rw [← ByteArray.toList_eq]; simpa using hxe
      have HX0 := Lib.hid hx0
      clear hx0
      go_enter Tryz.func15, Tryz.ntmps15
      go_wp2_with fail
      refine (figures_at na fa _ hna HFA.out).mono ?_
      rintro e w1 ⟨rfl, rfl⟩
      go_wp2_with fail
      refine (figures_at nb fb _ hnb HFB.out).mono ?_
      rintro e w1 ⟨rfl, rfl⟩
      go_wp2_with fail
      go_ret
      refine ⟨?_, (Below.refl _ _).alloc (Nat.le_refl _) _⟩
      exact congrArg (fun s => Ending.returned (Value.string s)) (FIN.out _ (by simp [RE.line, HFA.out, HFB.out, HX0.out, hab]))
    | false =>
      have hx0 : x.data.toList ≠ [] := by rw [← ByteArray.toList_eq]; intro h; rw [h] at hxe; exact Bool.noConfusion hxe
      have HX0 := Lib.hid hx0
      clear hx0
      go_enter Tryz.func15, Tryz.ntmps15
      go_wp2_with fail
      refine (figures_at na fa _ hna HFA.out).mono ?_
      rintro e w1 ⟨rfl, rfl⟩
      go_wp2_with fail
      refine (figures_at nb fb _ hnb HFB.out).mono ?_
      rintro e w1 ⟨rfl, rfl⟩
      go_wp2_with fail
      go_ret
      refine ⟨?_, (Below.refl _ _).alloc (Nat.le_refl _) _⟩
      exact congrArg (fun s => Ending.returned (Value.string s)) (FIN.out _ (by simp [RE.line, HFA.out, HFB.out, HX0.out, hab]))
  · have kab : nb = na := by omega
    subst kab
    cases hxe : x.toList.isEmpty with
    | true =>
      have hx0 : x.data.toList = [] := by rw [← ByteArray.toList_eq]; simpa using hxe
      have HX0 := Lib.hid hx0
      clear hx0
      go_enter Tryz.func15, Tryz.ntmps15
      go_wp2_with fail
      refine (figures_at nb fa _ hna HFA.out).mono ?_
      rintro e w1 ⟨rfl, rfl⟩
      go_wp2_with fail
      go_ret
      refine ⟨?_, (Below.refl _ _).alloc (Nat.le_refl _) _⟩
      exact congrArg (fun s => Ending.returned (Value.string s)) (FIN.out _ (by simp [RE.line, HFA.out, HX0.out]))
    | false =>
      have hx0 : x.data.toList ≠ [] := by rw [← ByteArray.toList_eq]; intro h; rw [h] at hxe; exact Bool.noConfusion hxe
      have HX0 := Lib.hid hx0
      clear hx0
      go_enter Tryz.func15, Tryz.ntmps15
      go_wp2_with fail
      refine (figures_at nb fa _ hna HFA.out).mono ?_
      rintro e w1 ⟨rfl, rfl⟩
      go_wp2_with fail
      go_ret
      refine ⟨?_, (Below.refl _ _).alloc (Nat.le_refl _) _⟩
      exact congrArg (fun s => Ending.returned (Value.string s)) (FIN.out _ (by simp [RE.line, HFA.out, HX0.out]))
theorem refRight_at (a b : Int) (v x : ByteArray) (t : Bool) (w : World) (hv : v.size ≤ 9223372036854775807) (hx : x.size ≤ 9223372036854775807) (h : rightOk a b v.data.toList x.data.toList = t) :
    Calls Tryz.prog 10 #[.agg #[.int .i64 a, .int .i64 b, .string v, .string x]] w fun e w' => e = .returned (.bool t) ∧ Below w.heap.size w w' := by
  have := refRight_walk a b v x w hv hx
  rw [h] at this
  exact this

set_option maxRecDepth 100000 in
set_option maxHeartbeats 2000000 in
theorem refText_walk (val : Value) (es : List RE) (w : World) (hE : EntsAt w val es) (hs : ∀ E ∈ es, E.v.size ≤ 9223372036854775807 ∧ E.x.size ≤ 9223372036854775807) (hlen : es.length ≤ 9223372036854775807) :
    Calls Tryz.prog 12 #[val] w fun e w' => Below w.heap.size w w' ∧ TE w es e w' := by
  obtain ⟨ad, c, rfl⟩ : ∃ ad c, val = .slice ad es.length c := by
    rcases hE with ⟨rfl, ad, c, rfl⟩ | ⟨g, o, c, rfl, _⟩
    · exact ⟨ad, c, rfl⟩
    · exact ⟨_, c, rfl⟩
  have HE := Lib.hid hE
  have HS := Lib.hid hs
  clear hE hs
  by_cases hbig : 600 < es.length
  · have k1 : (600 : Int) < (es.length : Int) := by omega
    have HR := Lib.hid (show textR es = none by unfold textR; rw [if_neg]; rintro ⟨h, _⟩; omega)
    go_enter Tryz.func12, Tryz.ntmps12
    go_wp2_with fail
    go_ret2
    exact ⟨Below.refl _ _, TE.stop HR.out⟩
  · have k1 : (es.length : Int) ≤ 600 := by omega
    go_enter Tryz.func12, Tryz.ntmps12
    go_wp2_with fail
    go_loopw [4, 5] (fun vo vi wr => ∃ k : Nat, vi = .int .i64 k ∧ k ≤ es.length ∧ Hid ((∀ E ∈ es.take k, E.ok = true) ∧ Below w.heap.size w wr ∧ wr.ownsRow w.heap.size 5 1 vo ((es.take k).flatMap RE.line).length (Lib.byteCells ((es.take k).flatMap RE.line)))) (fun _ vi _ => es.length - (intOf vi).toNat)
    case atStart => exact ⟨0, rfl, by omega, Lib.hid ⟨by simp, Below.refl _ _, World.ownsRow_nil _ _ _ _⟩⟩
    case round =>
      obtain ⟨k, rfl, hk, hh⟩ := hrel
      by_cases hkn : k < es.length
      · have hB := hh.out.2.1
        obtain ⟨g, o, c', hval, hc⟩ := (HE.out.below hB).resolve_left (by rintro ⟨h, _⟩; rw [h] at hkn; exact absurd hkn (Nat.not_lt_zero k))
        injection hval with had _ hcc
        subst had
        subst hcc
        obtain ⟨c0, c1, c2, c3⟩ := hc k hkn
        have hsz := HS.out es[k] (List.getElem_mem hkn)
        obtain ⟨E, hE⟩ : ∃ E, E = es[k] := ⟨_, rfl⟩
        rw [← hE] at c0 c1 c2 c3 hsz
        have HEK := Lib.hid hE
        have HCC := Lib.hid hc
        clear hE hc
        obtain ⟨a, b, v, x⟩ := E
        simp only at c0 c1 c2 c3 hsz
        obtain ⟨hv, hx⟩ := hsz
        cases hr : rightOk a b v.data.toList x.data.toList with
        | false =>
          have HRR := Lib.hid hr
          have HST := Lib.hid (show textR es = none from textR_bad k hkn (by rw [← HEK.out]; exact hr))
          clear hr
          go_wp2_with fail
          refine (refRight_at a b v x false _ hv hx HRR.out).mono ?_
          rintro e w1 ⟨rfl, hb1⟩
          go_wp2_with fail
          go_ret2
          exact ⟨hB.trans (hb1.mono hB.size), TE.stop HST.out⟩
        | true =>
          have HRR := Lib.hid hr
          obtain ⟨p1, p2, p3, p4, p5⟩ := RE.ok_parts (E := ⟨a, b, v, x⟩) hr
          simp only at p1 p2 p3 p4 p5
          have hbs := hB.size
          obtain ⟨i0, hi, hz0, hz1, hz2⟩ := info_parts uint8_info
          have HI0 := Lib.hid hi
          have HI1 := Lib.hid hz0
          have HI2 := Lib.hid hz1
          have HI3 := Lib.hid hz2
          clear hi hz0 hz1 hz2
          have hlines := lines_length (es.take k) hh.out.1
          have htk : (es.take k).length ≤ 600 := by rw [List.length_take]; omega
          have hnl : ((es.take k).flatMap RE.line).length ≤ 36000 := by omega
          obtain ⟨old, hold⟩ : ∃ old, old = (es.take k).flatMap RE.line := ⟨_, rfl⟩
          rw [← hold] at hnl
          have HOO := Lib.hid (show wr.ownsRow w.heap.size 5 1 u4 old.length (Lib.byteCells old) by rw [hold]; exact hh.out.2.2)
          have hstep : Hid (∀ (s : ByteArray) (vo' : Value) (W W' : World), s.data.toList = RE.line ⟨a, b, v, x⟩ → Below w.heap.size w W → W.ownsRow w.heap.size 5 1 u4 old.length (Lib.byteCells old) →
              ∀ n' : Nat, W'.ownsRow w.heap.size 5 1 vo' n' (Lib.byteCells old ++ Lib.strCells s) → W.grownBy W' u4.ownBlock →
              (∀ F ∈ es.take (k + 1), F.ok = true) ∧ Below w.heap.size w W' ∧ W'.ownsRow w.heap.size 5 1 vo' ((es.take (k + 1)).flatMap RE.line).length (Lib.byteCells ((es.take (k + 1)).flatMap RE.line))) := Lib.hid (by
            intro s vo' W W' hsd hbw how n' how' hgr
            have hn' : n' = old.length + s.size := by
              have := how'.1
              rw [List.length_append, Lib.byteCells_length, Lib.strCells_length] at this
              omega
            rw [hn'] at how'
            rw [hold] at how how'
            have e1 : es.take (k + 1) = es.take k ++ [⟨a, b, v, x⟩] := by rw [List.take_add_one, List.getElem?_eq_getElem hkn, ← HEK.out]; rfl
            have e2 : (es.take (k + 1)).flatMap RE.line = (es.take k).flatMap RE.line ++ s.data.toList := by rw [e1, List.flatMap_append, hsd]; simp
            refine ⟨fun F hF => ?_, below_grown hbw hbw.size hgr (fun j hj => (how.lt j hj).1), ?_⟩
            · rw [e1] at hF
              rcases List.mem_append.1 hF with h | h
              · exact hh.out.1 F h
              · rw [List.mem_singleton.1 h]; exact HRR.out
            · rw [e2, List.length_append, ← Lib.size_eq]
              have e3 : Lib.byteCells ((es.take k).flatMap RE.line ++ s.data.toList) = Lib.byteCells ((es.take k).flatMap RE.line) ++ Lib.strCells s := by rw [strCells_bytes]; simp [Lib.byteCells]
              rw [e3]
              exact how')
          obtain ⟨L, hL⟩ : ∃ L : ByteArray, L.data.toList = RE.line ⟨a, b, v, x⟩ := ⟨⟨(RE.line ⟨a, b, v, x⟩).toArray⟩, by simp⟩
          have hL60 : L.size ≤ 60 := by rw [Lib.size_eq, hL]; exact RE.line_length (E := ⟨a, b, v, x⟩) hr
          have HLL := Lib.hid hL
          clear hold hlines htk hL hr
          go_wp2_with fail
          refine (refRight_at a b v x true _ hv hx HRR.out).mono ?_
          rintro e w1 ⟨rfl, hb1⟩
          have HB1 := Lib.hid (hB.trans (hb1.mono hB.size))
          have HO1 := Lib.hid (ownsRow_below HOO.out hb1)
          obtain ⟨y0, y1, y2, y3⟩ : w1.cell? ⟨g, o + k * 4, none⟩ = some (.int .i64 a) ∧ w1.cell? ⟨g, o + k * 4 + 1, none⟩ = some (.int .i64 b) ∧ w1.cell? ⟨g, o + k * 4 + 2, none⟩ = some (.string v) ∧ w1.cell? ⟨g, o + k * 4 + 3, none⟩ = some (.string x) :=
            ⟨(hb1.cell (World.block_lt_of_cell? wr _ c0)).trans c0, (hb1.cell (World.block_lt_of_cell? wr _ c1)).trans c1, (hb1.cell (World.block_lt_of_cell? wr _ c2)).trans c2, (hb1.cell (World.block_lt_of_cell? wr _ c3)).trans c3⟩
          clear hb1 c0 c1 c2 c3
          go_wp2_with fail
          refine (line_walk ⟨a, b, v, x⟩ L _ HRR.out HLL.out).mono ?_
          rintro e w2 ⟨rfl, hb2⟩
          have HB2 := Lib.hid (HB1.out.trans (hb2.mono HB1.out.size))
          have HO2 := Lib.hid (ownsRow_below HO1.out hb2)
          have hbs2 := HB2.out.size
          clear hb2 y0 y1 y2 y3
          go_wp2_with (at_builtin; refine Lib.wpList_append_own_string _ rfl _ _ 28 9 rfl w.heap.size 5 i0 Tryz.underlying28 Tryz.underlying9 HI0.out HI1.out HI2.out HI3.out _ _ _ rfl HO2.out _ rfl ?_ ?_ ?_ ?_)
          · simp only [maxLen]; omega
          · omega
          · omega
          intro vo' w9 hown9 hgr9 _
          have HN := Lib.hid (hstep.out _ vo' _ w9 HLL.out HB2.out HO2.out _ hown9 hgr9)
          clear hown9 hgr9
          go_wp2_with fail
          exact ⟨⟨k + 1, by simp, by omega, HN⟩, by simp [intOf]; omega⟩
      · have hkk : k = es.length := by omega
        subst hkk
        have HT2 := Lib.hid (show textR es = some (es.flatMap RE.line) by
          have h1 := hh.out.1
          rw [List.take_length] at h1
          unfold textR
          rw [if_pos ⟨by omega, h1⟩])
        go_wp2_with fail
        go_ret2
        refine ⟨hh.out.2.1, ?_⟩
        unfold TE
        rw [HT2.out]
        have h1 := hh.out.2.2
        rw [List.take_length] at h1
        exact ⟨_, rfl, h1⟩
end Go.Proofs.YtefjnpflpgilpaaGreatDoor
