/- The walk of UcdBack (under way). -/
import Derived.Test.YtefjnpflpgilpaaGreatDoorUcdBd
namespace Go.Proofs.YtefjnpflpgilpaaGreatDoor
open Go.RowKit

/-- what Text hands back, in one word for both ways -/
def TV (es : List RE) (bv : Value) (er : Int) (w : World) : Prop := match textR es with
  | none => bv = .slice none 0 0 ∧ er = 21
  | some l => er = 0 ∧ (∃ ad c, bv = .slice ad l.length c) ∧ BytesAt w bv l
theorem text_any (val : Value) (es : List RE) (w : World) (hT : HasTab w) (hE : EntsAt w val es) (hs : ∀ E ∈ es, E.v.size ≤ 9223372036854775807 ∧ E.x.size ≤ 9223372036854775807) (hlen : es.length ≤ 9223372036854775807) :
    Calls Tryz.prog 11 #[val] w fun e w' => ∃ bv er, e = .returned (.tuple #[bv, .int .i64 er]) ∧ Below w.heap.size w w' ∧ TV es bv er w' := by
  cases h : textR es with
  | none => exact (text_bad val es w hT hE hs hlen h).mono fun e w' ⟨he, hb⟩ => ⟨_, _, he, hb, by unfold TV; rw [h]; exact ⟨rfl, rfl⟩⟩
  | some l => exact (text_good val es l w hT hE hs hlen h).mono fun e w' ⟨ad, c, he, hb, hy⟩ => ⟨_, _, he, hb, by unfold TV; rw [h]; exact ⟨rfl, ⟨ad, c, rfl⟩, hy⟩⟩
end Go.Proofs.YtefjnpflpgilpaaGreatDoor
