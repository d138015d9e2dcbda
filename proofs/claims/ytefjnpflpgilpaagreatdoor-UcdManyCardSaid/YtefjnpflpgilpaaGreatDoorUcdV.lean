/- The walk of fits. Conditions: none. -/
import Derived.Test.YtefjnpflpgilpaaGreatDoorUcdQ
namespace Go.Proofs.YtefjnpflpgilpaaGreatDoor
open Go.RowKit

/-- what fits answers -/
def FE (es : List RE) (e : Ending) : Prop := ∃ t, e = .returned (.bool t) ∧ (t = true → es.length ≤ 60)
theorem FE.no (es : List RE) : FE es (.returned (.bool false)) := ⟨false, rfl, fun h => Bool.noConfusion h⟩
theorem FE.cmp (es : List RE) : FE es (.returned (.bool (decide ((es.length : Int) ≤ 60)))) := ⟨_, rfl, fun h => by have := of_decide_eq_true h; omega⟩
set_option maxRecDepth 100000 in
set_option maxHeartbeats 1000000 in
theorem fits_walk (va : Value) (es : List RE) (w : World) (hA : EntsAt w va es) (la : es.length ≤ 9223372036854775807) (hs : ∀ E ∈ es, E.v.size ≤ 9223372036854775807 ∧ E.x.size ≤ 9223372036854775807) :
    Calls Tryz.prog 7 #[va] w fun e w' => FE es e ∧ w' = w := by
  obtain ⟨ad, c, rfl⟩ : ∃ ad c, va = .slice ad es.length c := by
    rcases hA with ⟨rfl, ad, c, rfl⟩ | ⟨g, o, c, rfl, _⟩
    · exact ⟨ad, c, rfl⟩
    · exact ⟨_, c, rfl⟩
  have HA := Lib.hid hA
  have HS := Lib.hid hs
  clear hA hs
  go_enter Tryz.func7, Tryz.ntmps7
  go_wp2_with fail
  go_loopw [3] (fun vi wr => ∃ k : Nat, vi = .int .i64 k ∧ k ≤ es.length ∧ k ≤ 60 ∧ Hid (wr = w)) (fun vi _ => es.length - (intOf vi).toNat)
  case atStart => exact ⟨0, rfl, by omega, by omega, Lib.hid rfl⟩
  case round =>
    obtain ⟨k, rfl, hk, hk6, hh⟩ := hrel
    by_cases hkn : k < es.length
    · by_cases hk60 : k < 60
      · have kk : (k : Int) < 60 := by omega
        obtain ⟨g, o, c', hval, hc⟩ := HA.out.resolve_left (by rintro ⟨h, _⟩; rw [h] at hkn; exact absurd hkn (Nat.not_lt_zero k))
        injection hval with had _ hcc
        subst had
        subst hcc
        obtain ⟨c0, c1, c2, c3⟩ := hc k hkn
        rw [← hh.out] at c0 c1 c2 c3
        obtain ⟨sv, sx⟩ := HS.out es[k] (List.getElem_mem hkn)
        obtain ⟨E, hE⟩ : ∃ E, E = es[k] := ⟨_, rfl⟩
        rw [← hE] at c0 c1 c2 c3 sv sx
        clear hE hc
        obtain ⟨a, b, v, x⟩ := E
        simp only at c0 c1 c2 c3 sv sx
        go_wp2_with fail
        all_goals first
          | (go_ret; exact ⟨FE.no es, hh.out⟩)
          | exact ⟨⟨k + 1, by simp, by omega, by omega, hh⟩, by simp [intOf]; omega⟩
      · have kk : ¬ (k : Int) < 60 := by omega
        go_wp2_with fail
        go_ret
        exact ⟨FE.cmp es, hh.out⟩
    · have hkk : k = es.length := by omega
      subst hkk
      go_wp2_with fail
      go_ret
      exact ⟨FE.cmp es, hh.out⟩
end Go.Proofs.YtefjnpflpgilpaaGreatDoor
