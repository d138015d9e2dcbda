/- The walk of UcdBack (under way). -/
import Derived.Test.YtefjnpflpgilpaaGreatDoorUcdBc
import Derived.Test.YtefjnpflpgilpaaGreatDoorUcdY
namespace Go.Proofs.YtefjnpflpgilpaaGreatDoor
open Go.RowKit

/-- what UcdBack's last statement holds on to, in a later world -/
structure BS (w0 w : World) (va vb vk bb bc : Value) (es fs ks : List RE) (l m : List UInt8) : Prop where
  bel : Below w0.heap.size w0 w
  max : HasMax w
  tab : HasTab w
  ea : EntsAt w va es
  eb : EntsAt w vb fs
  ek : EntsAt w vk ks
  ba : BytesAt w bb l
  bc : BytesAt w bc m
theorem BS.step {w0 w w' : World} {va vb vk bb bc : Value} {es fs ks : List RE} {l m : List UInt8} (h : BS w0 w va vb vk bb bc es fs ks l m) (hb : Below w.heap.size w w') : BS w0 w' va vb vk bb bc es fs ks l m :=
  ⟨h.bel.trans (hb.mono h.bel.size), h.max.below hb, h.tab.below hb, h.ea.below hb, h.eb.below hb, h.ek.below hb, h.ba.below hb, h.bc.below hb⟩
theorem textR_inj {es fs : List RE} {l m : List UInt8} (h1 : textR es = some l) (h2 : textR fs = some m) : l = m ↔ es = fs := by
  have key : ∀ {es : List RE} {l : List UInt8}, textR es = some l → parseL l = some (es.map RE.ent) ∧ es.map (fun E => E.ent.re) = es := by
    intro es l h
    unfold textR at h
    split at h
    · rename_i hc
      cases h
      refine ⟨parse_lines es hc.2 hc.1, ?_⟩
      have : es.map (fun E => E.ent.re) = es.map id := List.map_congr_left fun E hE => ent_re (hc.2 E hE)
      rw [this, List.map_id]
    · cases h
  obtain ⟨a1, a2⟩ := key h1
  obtain ⟨b1, b2⟩ := key h2
  constructor
  · intro e
    rw [e, b1] at a1
    have a3 := congrArg (List.map Ent.re) (Option.some.inj a1)
    rw [List.map_map, List.map_map] at a3
    have a4 : fs.map (fun E => E.ent.re) = es.map (fun E => E.ent.re) := a3
    rw [a2, b2] at a4
    exact a4.symm
  · intro e
    subst e
    rw [h1] at h2
    exact Option.some.inj h2
end Go.Proofs.YtefjnpflpgilpaaGreatDoor
