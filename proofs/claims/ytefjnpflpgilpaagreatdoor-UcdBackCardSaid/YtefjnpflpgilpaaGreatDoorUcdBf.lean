/- The walk of UcdBack (under way). -/
import Derived.Test.YtefjnpflpgilpaaGreatDoorUcdBe
namespace Go.Proofs.YtefjnpflpgilpaaGreatDoor
open Go.RowKit

theorem TV.some {es : List RE} {bv : Value} {w : World} (h : TV es bv 0 w) : ∃ l, textR es = Option.some l ∧ BytesAt w bv l := by
  unfold TV at h
  cases hx : textR es with
  | none => rw [hx] at h; exact absurd h.2 (by decide)
  | some l => rw [hx] at h; exact ⟨l, rfl, h.2.2⟩
theorem parse_goodv (bv : Value) (l : List UInt8) (es : List Ent) (rs : List RE) (w : World) (hM : HasMax w) (hl : l.length < 4294967281) (hv : BytesAt w bv l) (h : parseL l = Option.some es) (hr : es.map Ent.re = rs) :
    Calls Tryz.prog 13 #[bv] w fun e w' => ∃ v, e = .returned (.tuple #[v, .int .i64 0]) ∧ Below w.heap.size w w' ∧ EntsAt w' v rs :=
  (parse_good bv l es w hM hl hv h).mono fun e w' ⟨ad, c, he, hb, hE⟩ => ⟨_, he, hb, by rw [← hr]; exact hE⟩
set_option maxRecDepth 100000 in
set_option maxHeartbeats 0 in
theorem back_walk (va vb : Value) (es fs : List RE) (w : World) (hM : HasMax w) (hT : HasTab w) (hA : EntsAt w va es) (hB : EntsAt w vb fs) (la : es.length ≤ 9223372036854775807) (lb : fs.length ≤ 9223372036854775807)
    (hs : ∀ E ∈ es, E.v.size ≤ 9223372036854775807 ∧ E.x.size ≤ 9223372036854775807) (ht : ∀ E ∈ fs, E.v.size ≤ 9223372036854775807 ∧ E.x.size ≤ 9223372036854775807) :
    Calls Tryz.prog 4 #[va, vb] w fun e w' => e = .returned (.bool true) ∧ Below w.heap.size w w' := by
  have HA := Lib.hid hA
  have HB := Lib.hid hB
  have HS := Lib.hid hs
  have HS2 := Lib.hid ht
  have HM := Lib.hid hM
  have HT := Lib.hid hT
  clear hA hB hs ht hM hT
  go_enter Tryz.func4, Tryz.ntmps4
  go_wp2_with fail
  refine (fits_walk _ es _ HA.out la HS.out).mono ?_
  rintro e w1 ⟨⟨t1, rfl, h1⟩, hw⟩
  obtain rfl := hw.symm
  have HF1 := Lib.hid h1
  clear h1
  go_wp2_with fail
  refine (fits_walk _ fs _ HB.out lb HS2.out).mono ?_
  rintro e w1 ⟨⟨t2, rfl, h2⟩, hw⟩
  obtain rfl := hw.symm
  clear h2
  go_wp2_with fail
  refine (text_any _ es _ HT.out HA.out HS.out la).mono ?_
  rintro e w1 ⟨b1, r1, rfl, hb1, hv1⟩
  have HB1 := Lib.hid hb1
  have HV1 := Lib.hid hv1
  clear hv1 hb1
  go_wp2_with fail
  refine (text_any _ fs _ (HT.out.below HB1.out) (HB.out.below HB1.out) HS2.out lb).mono ?_
  rintro e w2 ⟨b2, r2, rfl, hb2, hv2⟩
  have HB2 := Lib.hid (HB1.out.trans (hb2.mono HB1.out.size))
  have HB12 := Lib.hid hb2
  have HV2 := Lib.hid hv2
  clear hv2 hb2
  by_cases hgo : t1 = true ∧ t2 = true ∧ r1 = 0 ∧ r2 = 0
  · obtain ⟨rfl, rfl, rfl, rfl⟩ := hgo
    obtain ⟨l, hl, hy1⟩ := TV.some HV1.out
    obtain ⟨m, hm, hy2⟩ := TV.some HV2.out
    have hok : (∀ E ∈ es, E.ok = true) ∧ es.length ≤ 600 ∧ l = es.flatMap RE.line := by
      unfold textR at hl
      split at hl
      · rename_i hc
        cases hl
        exact ⟨hc.2, hc.1, rfl⟩
      · cases hl
    have hl60 : l.length < 4294967281 := by
      have := lines_length es hok.1
      rw [hok.2.2]
      omega
    have hp : parseL l = some (es.map RE.ent) := by rw [hok.2.2]; exact parse_lines es hok.1 hok.2.1
    have hre : (es.map RE.ent).map Ent.re = es := by
      rw [List.map_map]
      have : es.map (Ent.re ∘ RE.ent) = es.map id := List.map_congr_left fun E hE => ent_re (hok.1 E hE)
      rw [this, List.map_id]
    have hinj := Lib.hid (textR_inj hl hm)
    have HRE := Lib.hid hre
    have HP := Lib.hid hp
    have HY1 := Lib.hid (hy1.below HB12.out)
    have HY2 := Lib.hid hy2
    clear hl hm hok hp hre hy1 hy2
    go_wp2_with fail
    refine (parse_goodv _ l _ es _ (HM.out.below HB2.out) hl60 HY1.out HP.out HRE.out).mono ?_
    rintro e w3 ⟨vk, rfl, hb3, hk⟩
    have hG0 : BS w w3 va vb vk b1 b2 es fs es l m :=
      have h0 := HB2.out.trans (hb3.mono HB2.out.size)
      ⟨h0, HM.out.below h0, HT.out.below h0, HA.out.below h0, HB.out.below h0, hk, HY1.out.below hb3, HY2.out.below hb3⟩
    have hG : BS w w3.drew va vb vk b1 b2 es fs es l m := hG0.step (below_drewN' w3 1)
    have cv1 := hG.ba.conv
    have cv2 := hG.bc.conv
    clear hG0
    clear hb3 hk
    go_wp2_with fail
    go_region_with (first
      | (go_at_call 8; refine (alive_walk _ (BS.max (by assumption)) (BS.tab (by assumption))).mono ?_; rintro e w' ⟨rfl, hb⟩; have hG' := BS.step (by assumption) hb; have cw1 := hG'.ba.conv; have cw2 := hG'.bc.conv)
      | (go_at_call 14; refine (same_walk _ _ es es _ (BS.ek (by assumption)) (BS.ea (by assumption)) la la).mono ?_; rintro e w' ⟨⟨t, rfl, htt⟩, hb⟩; obtain rfl := htt.2 rfl; have hG' := BS.step (by assumption) hb; have cw1 := hG'.ba.conv; have cw2 := hG'.bc.conv)
      | (go_at_call 14; refine (same_walk _ _ es fs _ (BS.ea (by assumption)) (BS.eb (by assumption)) la lb).mono ?_; rintro e w' ⟨⟨t, rfl, htt⟩, hb⟩; have HTT := Lib.hid htt; clear htt; have hG' := BS.step (by assumption) hb; have cw1 := hG'.ba.conv; have cw2 := hG'.bc.conv))
    all_goals
      go_wp2_with fail
      go_ret
      refine ⟨?_, BS.bel (by assumption)⟩
      have hb := HTT.out
      have hi := hinj.out
      clear HTT hinj
      have hval : (((bL l).toList == (bL m).toList) == t) = true := by
        have he : (bL l).toList = (bL m).toList ↔ l = m := by rw [ByteArray.toList_eq, ByteArray.toList_eq, bL_data, bL_data]
        have h2 : ((bL l).toList == (bL m).toList) = decide (l = m) := by rw [Bool.eq_iff_iff, beq_iff_eq, decide_eq_true_iff]; exact he
        rw [h2, beq_iff_eq, Bool.eq_iff_iff, decide_eq_true_iff]
        exact hi.trans hb.symm
      exact congrArg (fun b => Ending.returned (Value.bool b)) hval
  · have HG := Lib.hid hgo
    clear hgo
    cases t1 <;> cases t2 <;> by_cases e1 : r1 = 0 <;> by_cases e2 : r2 = 0
    all_goals (try subst e1)
    all_goals (try subst e2)
    all_goals first
      | (exact absurd ⟨rfl, rfl, rfl, rfl⟩ HG.out)
      | (go_wp2_with fail
         refine (alive_walk _ (HM.out.below HB2.out) (HT.out.below HB2.out)).mono ?_
         rintro e w3 ⟨rfl, hb3⟩
         go_wp2_with fail
         go_ret
         exact ⟨rfl, HB2.out.trans (hb3.mono HB2.out.size)⟩)
end Go.Proofs.YtefjnpflpgilpaaGreatDoor
