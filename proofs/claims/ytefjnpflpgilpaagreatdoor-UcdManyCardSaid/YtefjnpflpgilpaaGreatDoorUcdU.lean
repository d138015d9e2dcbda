/- The walks of the reference's Same and of fits. Conditions: none. -/
import Derived.Test.YtefjnpflpgilpaaGreatDoorUcdQ
namespace Go.Proofs.YtefjnpflpgilpaaGreatDoor
open Go.RowKit

theorem toList_inj {x y : ByteArray} (h : x.toList = y.toList) : x = y := by
  rw [ByteArray.toList_eq, ByteArray.toList_eq] at h
  exact ByteArray.ext (Array.toList_inj.1 h)
set_option maxRecDepth 100000 in
set_option maxHeartbeats 1000000 in
theorem same_walk (va vb : Value) (es fs : List RE) (w : World) (hA : EntsAt w va es) (hB : EntsAt w vb fs) (la : es.length ≤ 9223372036854775807) (lb : fs.length ≤ 9223372036854775807) :
    Calls Tryz.prog 14 #[va, vb] w fun e w' => (∃ t, e = .returned (.bool t) ∧ (t = true ↔ es = fs)) ∧ Below w.heap.size w w' := by
  obtain ⟨ad, c, rfl⟩ : ∃ ad c, va = .slice ad es.length c := by
    rcases hA with ⟨rfl, ad, c, rfl⟩ | ⟨g, o, c, rfl, _⟩
    · exact ⟨ad, c, rfl⟩
    · exact ⟨_, c, rfl⟩
  obtain ⟨bd, d, rfl⟩ : ∃ ad c, vb = .slice ad fs.length c := by
    rcases hB with ⟨rfl, ad, c, rfl⟩ | ⟨g, o, c, rfl, _⟩
    · exact ⟨ad, c, rfl⟩
    · exact ⟨_, c, rfl⟩
  have HA := Lib.hid hA
  have HB := Lib.hid hB
  clear hA hB
  by_cases hl : es.length = fs.length
  · have k1 : (es.length : Int) = (fs.length : Int) := by omega
    have HLEN := Lib.hid hl
    clear hl
    go_enter Tryz.func14, Tryz.ntmps14
    go_wp2_with fail
    go_loopw [5] (fun vi wr => ∃ k : Nat, vi = .int .i64 k ∧ k ≤ fs.length ∧ Hid (Below w.heap.size w wr ∧ es.take k = fs.take k)) (fun vi _ => fs.length - (intOf vi).toNat)
    case atStart => exact ⟨0, rfl, by omega, Lib.hid ⟨Below.refl _ _, by simp⟩⟩
    case round =>
      obtain ⟨k, rfl, hk, hh⟩ := hrel
      by_cases hkn : k < fs.length
      · have hBl := hh.out.1
        have hka : k < es.length := by have := HLEN.out; omega
        obtain ⟨g, o, c', hval, hc⟩ := (HA.out.below hBl).resolve_left (by rintro ⟨h, _⟩; rw [h] at hka; exact absurd hka (Nat.not_lt_zero k))
        injection hval with had _ hcc
        subst had
        subst hcc
        obtain ⟨c0, c1, c2, c3⟩ := hc k hka
        obtain ⟨g', o', c', hval, hd⟩ := (HB.out.below hBl).resolve_left (by rintro ⟨h, _⟩; rw [h] at hkn; exact absurd hkn (Nat.not_lt_zero k))
        injection hval with had _ hcc
        subst had
        subst hcc
        obtain ⟨d0, d1, d2, d3⟩ := hd k hkn
        obtain ⟨E, hE⟩ : ∃ E, E = es[k] := ⟨_, rfl⟩
        rw [← hE] at c0 c1 c2 c3
        obtain ⟨F, hF⟩ : ∃ F, F = fs[k] := ⟨_, rfl⟩
        rw [← hF] at d0 d1 d2 d3
        have HE := Lib.hid hE
        have HF := Lib.hid hF
        clear hE hF hc hd
        obtain ⟨a, b, v, x⟩ := E
        obtain ⟨a', b', v', x'⟩ := F
        simp only at c0 c1 c2 c3 d0 d1 d2 d3
        have hne := Lib.hid (show RE.mk a b v x ≠ RE.mk a' b' v' x' → ¬ es = fs from fun h1 h2 => h1 (by rw [HE.out, HF.out]; subst h2; rfl))
        by_cases e1 : a = a'
        · by_cases e2 : b = b'
          · by_cases e3 : v.toList = v'.toList
            · by_cases e4 : x.toList = x'.toList
              · have HEQ := Lib.hid (show es.take (k + 1) = fs.take (k + 1) by
                  rw [List.take_add_one, List.take_add_one, hh.out.2, List.getElem?_eq_getElem hka, List.getElem?_eq_getElem hkn, ← HE.out, ← HF.out]
                  subst e1
                  subst e2
                  rw [toList_inj e3, toList_inj e4])
                go_wp2_with fail
                go_region
                go_wp2_with fail
                go_roundw
                case rel => exact ⟨k + 1, by simp, by omega, Lib.hid ⟨hBl.trans ((below_drewN' wr 1).mono hBl.size), HEQ.out⟩⟩
                case measure => simp [intOf]; omega
              · have HN := Lib.hid (hne.out (fun h => by injection h with _ _ _ h; rw [h] at e4; exact e4 rfl))
                go_wp2_with fail
                go_region
                go_wp2_with fail
                go_ret
                exact ⟨⟨false, rfl, by simp; exact HN.out⟩, hBl.trans ((below_drewN' wr 1).mono hBl.size)⟩
            · have HN := Lib.hid (hne.out (fun h => by injection h with _ _ h _; rw [h] at e3; exact e3 rfl))
              go_wp2_with fail
              go_region
              go_wp2_with fail
              go_ret
              exact ⟨⟨false, rfl, by simp; exact HN.out⟩, hBl.trans ((below_drewN' wr 1).mono hBl.size)⟩
          · have HN := Lib.hid (hne.out (fun h => by injection h with _ h _ _; exact e2 h))
            go_wp2_with fail
            go_region
            go_wp2_with fail
            go_ret
            exact ⟨⟨false, rfl, by simp; exact HN.out⟩, hBl.trans ((below_drewN' wr 1).mono hBl.size)⟩
        · have HN := Lib.hid (hne.out (fun h => by injection h with h _ _ _; exact e1 h))
          go_wp2_with fail
          go_region
          go_wp2_with fail
          go_ret
          exact ⟨⟨false, rfl, by simp; exact HN.out⟩, hBl.trans ((below_drewN' wr 1).mono hBl.size)⟩
      · have hkk : k = fs.length := by omega
        subst hkk
        have HEQ := Lib.hid (show es = fs by
          have := hh.out.2
          rw [List.take_of_length_le (by omega), List.take_length] at this
          exact this)
        go_wp2_with fail
        go_ret
        exact ⟨⟨true, rfl, by simp; exact HEQ.out⟩, hh.out.1⟩
  · have k1 : ¬ (es.length : Int) = (fs.length : Int) := by omega
    go_enter Tryz.func14, Tryz.ntmps14
    go_wp2_with fail
    go_ret
    exact ⟨⟨false, rfl, by simp; intro h; rw [h] at hl; exact hl rfl⟩, Below.refl _ _⟩
end Go.Proofs.YtefjnpflpgilpaaGreatDoor
