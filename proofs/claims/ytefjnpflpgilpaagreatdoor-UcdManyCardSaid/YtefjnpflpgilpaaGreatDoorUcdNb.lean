/- The walk of UcdNoise. Conditions: the library's variable MaxLen holds an int; one cell of the library's table; strings below 2^63 bytes. -/
import Derived.Test.YtefjnpflpgilpaaGreatDoorUcdNa
import Derived.Test.YtefjnpflpgilpaaGreatDoorUcdBe
import Derived.Lib.ConvBytes
namespace Go.Proofs.YtefjnpflpgilpaaGreatDoor
open Go.RowKit

/-- what Text hands back, with the room of its slice -/
def TW (es : List RE) (bv : Value) (er : Int) (w : World) : Prop := er = 0 → ∃ l, textR es = some l ∧ (∃ ad c, bv = .slice ad l.length c ∧ l.length ≤ c) ∧ BytesAt w bv l
theorem text_room (val : Value) (es : List RE) (w : World) (hT : HasTab w) (hE : EntsAt w val es) (hs : ∀ E ∈ es, E.v.size ≤ 9223372036854775807 ∧ E.x.size ≤ 9223372036854775807) (hlen : es.length ≤ 9223372036854775807) :
    Calls Tryz.prog 11 #[val] w fun e w' => ∃ bv er, e = .returned (.tuple #[bv, .int .i64 er]) ∧ Below w.heap.size w w' ∧ TW es bv er w' :=
  (text_walk val es w hT hE hs hlen).mono fun e w' ⟨h1, h2⟩ => by
    unfold TE at h2
    cases h : textR es with
    | none =>
      rw [h] at h2
      exact ⟨_, _, h2, h1, fun h => absurd h (by decide)⟩
    | some l =>
      rw [h] at h2
      obtain ⟨v, rfl, h3⟩ := h2
      refine ⟨v, 0, rfl, h1, fun _ => ⟨l, h, ?_, bytesAt_row h3⟩⟩
      rcases h3.2 with ⟨rfl, h0⟩ | ⟨g, cap, cur, rfl, _, _, h4, _⟩
      · exact ⟨none, 0, by rw [h0], by omega⟩
      · exact ⟨_, cap, rfl, h4⟩
theorem noisy_snoc (cm l : List UInt8) (k : Nat) (h : k < l.length) : noisy cm (l.take (k + 1)) = noisy cm (l.take k) ++ noiseB cm l[k] := by
  unfold noisy
  rw [List.take_add_one, List.getElem?_eq_getElem h, List.flatMap_append, List.append_assoc]
  simp
theorem parse_goodw (bv : Value) (l : List UInt8) (es : List Ent) (rs : List RE) (w : World) (hM : HasMax w) (hl : l.length < 4294967281) (hv : BytesAt w bv l) (h : parseL l = Option.some es) (hr : es.map Ent.re = rs) :
    Calls Tryz.prog 13 #[bv] w fun e w' => ∃ v, e = .returned (.tuple #[v, .int .i64 0]) ∧ Below w.heap.size w w' ∧ EntsAt w' v rs :=
  (parse_good bv l es w hM hl hv h).mono fun e w' ⟨ad, c, he, hb, hE⟩ => ⟨_, he, hb, by rw [← hr]; exact hE⟩
/-- a string as bytes, in a block of their own -/
theorem conv_new (w : World) (s : ByteArray) : ∃ w2 cp, (convert 9 28 (.string s)).run Tryz.prog w = .ok (.slice (some ⟨w.heap.size, 0, none⟩) s.size cp) w2 ∧ Below w.heap.size w w2 ∧ BytesAt w2 (.slice (some ⟨w.heap.size, 0, none⟩) s.size cp) s.data.toList := by
  refine ⟨_, _, Lib.run_convert_string_bytes w 9 28 5 s Tryz.underlying9 Tryz.underlying28 Tryz.underlying5, ⟨rfl, rfl, rfl, ?_, fun k hk => Lib.bytesWorld_at_old w _ s k hk⟩, .inr ⟨_, 0, _, by rw [Lib.size_eq], fun j hj => ?_⟩⟩
  · rw [Lib.bytesWorld_size]; omega
  · rw [addr_add, Nat.zero_add, Lib.bytesWorld_cell w _ s j (by rw [Lib.size_eq]; exact hj)]
    simp [List.getD, List.getElem?_eq_getElem hj]
set_option maxRecDepth 100000 in
set_option maxHeartbeats 1000000 in
theorem noise_walk (va : Value) (cm : ByteArray) (es : List RE) (w : World) (hM : HasMax w) (hT : HasTab w) (hA : EntsAt w va es) (la : es.length ≤ 9223372036854775807) (lc : cm.size ≤ 9223372036854775807)
    (hs : ∀ E ∈ es, E.v.size ≤ 9223372036854775807 ∧ E.x.size ≤ 9223372036854775807) :
    Calls Tryz.prog 5 #[va, .string cm] w fun e w' => e = .returned (.bool true) ∧ Below w.heap.size w w' := by
  have HA := Lib.hid hA
  have HS := Lib.hid hs
  have HM := Lib.hid hM
  have HT := Lib.hid hT
  clear hA hs hM hT
  go_enter Tryz.func5, Tryz.ntmps5
  go_wp2_with fail
  refine (fits_walk _ es _ HA.out la HS.out).mono ?_
  rintro e w1 ⟨⟨t1, rfl, h1⟩, hw⟩
  obtain rfl := hw.symm
  clear h1
  by_cases hgo : t1 = true ∧ cm.size ≤ 100
  · obtain ⟨rfl, hc100⟩ := hgo
    have hc100' : (cm.size : Int) ≤ 100 := by omega
    go_wp2_with fail
    go_loop [6] (fun vi => ∃ k : Nat, vi = .int .i64 k ∧ k ≤ cm.size ∧ Hid (∀ j (h : j < cm.size), j < k → cm[j] ≠ 10)) (fun vi => cm.size - (intOf vi).toNat)
    case atStart => exact ⟨0, rfl, by omega, Lib.hid (fun _ _ h => absurd h (Nat.not_lt_zero _))⟩
    case round =>
      obtain ⟨k, rfl, hk, hh⟩ := hrel
      by_cases hkn : k < cm.size
      · obtain ⟨b, hb⟩ : ∃ b, b = cm[k] := ⟨_, rfl⟩
        have HB := Lib.hid hb
        by_cases h10 : b = 10
        · have t10 : ((cm[k].toNat : Int) == 10) = true := by rw [← hb, h10]; rfl
          clear hb
          go_wp2_with fail
          refine (alive_walk _ HM.out HT.out).mono ?_
          rintro e w1 ⟨rfl, hb1⟩
          go_wp2_with fail
          go_ret
          exact ⟨rfl, hb1⟩
        · have t10 : ((cm[k].toNat : Int) == 10) = false := by
            rw [← hb]
            rw [beq_eq_false_iff_ne]
            intro e
            exact h10 (UInt8.toNat_inj.1 (by have : (10 : UInt8).toNat = 10 := rfl; omega))
          have HN := Lib.hid (show ∀ j (h : j < cm.size), j < k + 1 → cm[j] ≠ 10 from fun j h hj => by
            by_cases e : j = k
            · subst e; rw [← hb]; exact h10
            · exact hh.out j h (by omega))
          clear hb
          go_wp2_with fail
          go_round
          case rel => exact ⟨k + 1, by simp, by omega, HN⟩
          case measure => simp [intOf]; omega
      · have hkk : k = cm.size := by omega
        subst hkk
        have hcm : (10 : UInt8) ∉ cm.data.toList := by
          intro hm
          obtain ⟨j, hj, e⟩ := List.mem_iff_getElem.1 hm
          have hj' : j < cm.size := by simpa using hj
          exact hh.out j hj' hj' (by rw [← e]; rfl)
        have HCM := Lib.hid hcm
        clear hcm hh
        go_wp2_with fail
        refine (text_room _ es _ HT.out HA.out HS.out la).mono ?_
        rintro e w1 ⟨bv, er, rfl, hb1, hv1⟩
        have HB1 := Lib.hid hb1
        have HV1 := Lib.hid hv1
        clear hv1 hb1
        by_cases he : er = 0
        · subst he
          obtain ⟨l, hl, ⟨ad, c, rfl, hlc⟩, hy⟩ := HV1.out rfl
          have hok : (∀ E ∈ es, E.ok = true) ∧ es.length ≤ 600 ∧ l = es.flatMap RE.line := by
            unfold textR at hl
            split at hl
            · rename_i hc
              cases hl
              exact ⟨hc.2, hc.1, rfl⟩
            · cases hl
          have hlen : l.length ≤ 36000 := by
            have := lines_length es hok.1
            rw [hok.2.2]
            omega
          have hp : parseL (noisy cm.data.toList l) = some (es.map RE.ent) := by rw [hok.2.2]; exact parse_noisy _ HCM.out es hok.1 hok.2.1
          have hre : (es.map RE.ent).map Ent.re = es := by
            rw [List.map_map]
            have : es.map (Ent.re ∘ RE.ent) = es.map id := List.map_congr_left fun E hE => ent_re (hok.1 E hE)
            rw [this, List.map_id]
          have HRE := Lib.hid hre
          have HP := Lib.hid hp
          have HY := Lib.hid hy
          have HLC := Lib.hid hlc
          clear hl hok hp hre hy
          have z1 : (⟨#[35]⟩ : ByteArray).size = 1 := rfl
          have z2 : (⟨#[10, 32, 9, 10]⟩ : ByteArray).size = 4 := rfl
          have z3 : (⟨#[9, 32, 59, 32]⟩ : ByteArray).size = 4 := rfl
          have z4 : (⟨#[32, 32, 35]⟩ : ByteArray).size = 3 := rfl
          have z5 : (⟨#[10, 10, 9]⟩ : ByteArray).size = 3 := rfl
          go_wp2_with fail
          go_loop [9, 10] (fun vs vi => ∃ (k : Nat) (s : ByteArray), vs = .string s ∧ vi = .int .i64 k ∧ k ≤ l.length ∧ s.size ≤ 106 * k + 105 ∧ Hid (s.data.toList = noisy cm.data.toList (l.take k))) (fun _ vi => l.length - (intOf vi).toNat)
          case atStart => exact ⟨0, _, rfl, rfl, by omega, by simp only [ByteArray.size_append]; omega, Lib.hid (by simp [noisy])⟩
          case round =>
            obtain ⟨k, s, rfl, rfl, hk, hsz, hh⟩ := hrel
            by_cases hkn : k < l.length
            · obtain ⟨g, o, c', hval, hc⟩ := HY.out.resolve_left (by rintro ⟨_, h⟩; rw [h] at hkn; exact absurd hkn (Nat.not_lt_zero k))
              injection hval with had _ hcc
              subst had
              subst hcc
              have ck := hc k hkn
              rw [addr_add] at ck
              obtain ⟨b, hb⟩ : ∃ b, b = l[k] := ⟨_, rfl⟩
              rw [← hb] at ck
              have HN := Lib.hid (noisy_snoc cm.data.toList l k hkn)
              have HB := Lib.hid hb
              clear hb
              by_cases h59 : b = 59
              · subst h59
                go_wp2_with fail
                go_round
                case rel => exact ⟨k + 1, _, rfl, by simp, by omega, by simp only [ByteArray.size_append]; omega, Lib.hid (by rw [HN.out, ← HB.out]; simp [hh.out, noiseB])⟩
                case measure => simp [intOf]; omega
              · by_cases h10 : b = 10
                · subst h10
                  go_wp2_with fail
                  go_round
                  case rel => exact ⟨k + 1, _, rfl, by simp, by omega, by simp only [ByteArray.size_append]; omega, Lib.hid (by rw [HN.out, ← HB.out]; simp [hh.out, noiseB])⟩
                  case measure => simp [intOf]; omega
                · have t59 : ((b.toNat : Int) == 59) = false := by
                    rw [beq_eq_false_iff_ne]
                    intro e
                    exact h59 (UInt8.toNat_inj.1 (by have : (59 : UInt8).toNat = 59 := rfl; omega))
                  have t10 : ((b.toNat : Int) == 10) = false := by
                    rw [beq_eq_false_iff_ne]
                    intro e
                    exact h10 (UInt8.toNat_inj.1 (by have : (10 : UInt8).toNat = 10 := rfl; omega))
                  have hcv : (convert 28 9 (.slice (some ⟨g, o + k, none⟩) 1 (c - k))).run Tryz.prog w1 = .ok (.string (bL [b])) w1 := by
                    have : BytesAt w1 (.slice (some ⟨g, o + k, none⟩) 1 (c - k)) [b] := .inr ⟨g, o + k, _, rfl, fun j hj => by
                      have : j = 0 := by simpa using hj
                      subst this
                      rw [addr_add]
                      exact ck⟩
                    exact this.conv
                  have lc' := HLC.out
                  have z6 : (bL [b]).size = 1 := rfl
                  go_wp2_with fail
                  go_round
                  case rel => exact ⟨k + 1, _, rfl, by simp, by omega, by simp only [ByteArray.size_append]; omega, Lib.hid (by rw [HN.out, ← HB.out]; simp [hh.out, noiseB, h59, h10, bL])⟩
                  case measure => simp [intOf]; omega
            · have hkk : k = l.length := by omega
              subst hkk
              have hs' : s.data.toList = noisy cm.data.toList l := by
                have := hh.out
                rw [List.take_length] at this
                exact this
              have HP2 := Lib.hid (show parseL s.data.toList = some (es.map RE.ent) by rw [hs']; exact HP.out)
              have hsl : s.data.toList.length < 4294967281 := by rw [← Lib.size_eq]; omega
              have HSL := Lib.hid hsl
              obtain ⟨w2, cp, hcv, hb2, hy2⟩ := conv_new w1 s
              have HB2 := Lib.hid (HB1.out.trans (hb2.mono HB1.out.size))
              have HY2 := Lib.hid hy2
              clear hs' hb2 hy2 hsl
              go_wp2_with fail
              refine (parse_goodw _ _ _ es _ (HM.out.below HB2.out) HSL.out HY2.out HP2.out HRE.out).mono ?_
              rintro e w3 ⟨vk, rfl, hb3, hk3⟩
              have HB3 := Lib.hid (HB2.out.trans (hb3.mono HB2.out.size))
              have HK3 := Lib.hid hk3
              clear hb3 hk3
              go_wp2_with fail
              refine (alive_walk _ (HM.out.below HB3.out) (HT.out.below HB3.out)).mono ?_
              rintro e w4 ⟨rfl, hb4⟩
              have HB4 := Lib.hid (HB3.out.trans (hb4.mono HB3.out.size))
              have HK4 := Lib.hid (HK3.out.below hb4)
              clear hb4
              go_wp2_with fail
              refine (same_walk _ _ es es _ HK4.out (HA.out.below HB4.out) la la).mono ?_
              rintro e w5 ⟨⟨t, rfl, htt⟩, hb5⟩
              obtain rfl := htt.2 rfl
              have HB5 := Lib.hid (HB4.out.trans (hb5.mono HB4.out.size))
              clear hb5 htt
              go_wp2_with fail
              go_ret
              exact ⟨rfl, HB5.out⟩
        · go_wp2_with fail
          refine (alive_walk _ (HM.out.below HB1.out) (HT.out.below HB1.out)).mono ?_
          rintro e w2 ⟨rfl, hb2⟩
          go_wp2_with fail
          go_ret
          exact ⟨rfl, HB1.out.trans (hb2.mono HB1.out.size)⟩
  · have HG := Lib.hid hgo
    clear hgo
    cases t1 with
    | false =>
      go_wp2_with fail
      refine (alive_walk _ HM.out HT.out).mono ?_
      rintro e w1 ⟨rfl, hb1⟩
      go_wp2_with fail
      go_ret
      exact ⟨rfl, hb1⟩
    | true =>
      have hc100 : ¬ (cm.size : Int) ≤ 100 := by
        intro h
        exact HG.out ⟨rfl, by omega⟩
      go_wp2_with fail
      refine (alive_walk _ HM.out HT.out).mono ?_
      rintro e w1 ⟨rfl, hb1⟩
      go_wp2_with fail
      go_ret
      exact ⟨rfl, hb1⟩
end Go.Proofs.YtefjnpflpgilpaaGreatDoor
