/- The walk of alive: the live question's answer is yes. Conditions: the library's variable MaxLen holds an int; one cell of the library's table. -/
import Derived.Test.YtefjnpflpgilpaaGreatDoorUcdM
import Derived.Test.YtefjnpflpgilpaaGreatDoorUcdQ
namespace Go.Proofs.YtefjnpflpgilpaaGreatDoor
open Go.RowKit

def ask1 : List UInt8 := [35, 32, 97, 32, 116, 97, 98, 108, 101, 10, 48, 48, 52, 49, 46, 46, 48, 48, 53, 65, 32, 59, 32, 76, 32, 35, 32, 108, 101, 116, 116, 101, 114, 115, 10, 10, 32, 50, 56, 59, 50, 57, 32, 59, 32, 111, 10]
def ask2 : List UInt8 := [48, 48, 50, 56, 32, 59, 32, 48, 48, 50, 57, 32, 59, 32, 111, 10, 48, 48, 52, 49, 46, 46, 48, 48, 53, 65, 59, 76]
def ask3 : List UInt8 := [48, 48, 50, 56, 32, 59, 32, 48, 48, 50, 57, 32, 59, 32, 111, 10, 48, 48, 52, 49, 46, 46, 48, 48, 53, 65, 32, 59, 32, 76, 10]
def Ent.re (E : Ent) : RE := ⟨E.a, E.b, bL E.v, bL E.x⟩
def two : List Ent := [⟨40, 40, [48, 48, 50, 57], [111]⟩, ⟨65, 90, [76], []⟩]
theorem ask1_bad : parseL ask1 = none := by kernel_rfl
theorem ask2_two : parseL ask2 = some two := by kernel_rfl
theorem two_text : textR (two.map Ent.re) = some ask3 := by
  have h1 : figL 40 = [48, 48, 50, 56] := by
    unfold figL upper
    rw [hexS_high (by decide), hexS_low (by decide)]
    rfl
  have h2 : figL 65 = [48, 48, 52, 49] := by
    unfold figL upper
    rw [hexS_high (by decide), hexS_low (by decide)]
    rfl
  have h3 : figL 90 = [48, 48, 53, 65] := by
    unfold figL upper
    rw [hexS_high (by decide), hexS_low (by decide)]
    rfl
  have hok : ∀ E ∈ two.map Ent.re, E.ok = true := by
    intro E hE
    simp only [two, List.map_cons, List.map_nil, List.mem_cons, List.not_mem_nil, or_false] at hE
    rcases hE with rfl | rfl <;> kernel_rfl
  unfold textR
  rw [if_pos ⟨by decide, hok⟩]
  simp only [two, List.map_cons, List.map_nil, List.flatMap_cons, List.flatMap_nil, RE.line, Ent.re]
  simp only [show ((40 : Nat) : Int).toNat = 40 from rfl, show ((65 : Nat) : Int).toNat = 65 from rfl, show ((90 : Nat) : Int).toNat = 90 from rfl, h1, h2, h3, bL_data]
  rfl

theorem entsC_at (es : List Ent) : ∀ (i k : Nat) (h : i < es.length), k < 4 → (entsC es)[i * 4 + k]? = (entC es[i])[k]? := by
  induction es with
  | nil => intro i k h; exact absurd h (Nat.not_lt_zero i)
  | cons E es ih =>
    intro i k h hk
    have e : entsC (E :: es) = entC E ++ entsC es := by simp [entsC]
    rw [e]
    cases i with
    | zero => rw [Nat.zero_mul, Nat.zero_add, List.getElem?_append_left (by simpa [entC] using hk)]; rfl
    | succ i =>
      rw [List.getElem?_append_right (by simp [entC]; omega)]
      have e2 : (i + 1) * 4 + k - (entC E).length = i * 4 + k := by simp [entC]; omega
      rw [e2, ih i k (by simpa using h) hk]
      rfl
theorem entsAt_row {W : World} {base : Nat} {v : Value} {es : List Ent} (h : W.ownsRow base 27 4 v es.length (entsC es)) : EntsAt W v (es.map Ent.re) := by
  rcases h.2 with ⟨rfl, h0⟩ | ⟨g, cap, _, rfl, _⟩
  · exact .inl ⟨by rw [List.length_eq_zero_iff.1 h0]; rfl, none, 0, rfl⟩
  · refine .inr ⟨g, 0, cap, by simp, fun i hi => ?_⟩
    have hi' : i < es.length := by simpa using hi
    have hc : ∀ k u, k < 4 → (entC es[i])[k]? = some u → W.cell? ⟨g, 0 + (i * 4 + k), none⟩ = some u := fun k u hk hu => by
      have := h.cells (g := g) rfl (i * 4 + k) u (by rw [entsC_at es i k hi' hk]; exact hu)
      rwa [addr_add] at this
    rw [List.getElem_map]
    exact ⟨hc 0 _ (by decide) rfl, hc 1 _ (by decide) rfl, hc 2 _ (by decide) rfl, hc 3 _ (by decide) rfl⟩
theorem bytesAt_row {W : World} {base : Nat} {v : Value} {l : List UInt8} (h : W.ownsRow base 5 1 v l.length (Lib.byteCells l)) : BytesAt W v l := by
  rcases h.2 with ⟨rfl, h0⟩ | ⟨g, cap, _, rfl, _⟩
  · exact .inl ⟨rfl, List.length_eq_zero_iff.1 h0⟩
  · refine .inr ⟨g, 0, cap, rfl, fun j hj => ?_⟩
    refine h.cells (g := g) rfl j _ ?_
    simp [Lib.byteCells, List.getElem?_eq_getElem hj]
/-- a new block of bytes -/
theorem bytesAt_new (w : World) (l : List UInt8) (t : TypeId) : BytesAt (w.alloc (.cells (Lib.byteCells l).toArray t)) (.slice (some ⟨w.heap.size, 0, none⟩) l.length l.length) l := by
  refine .inr ⟨_, 0, _, rfl, fun j hj => ?_⟩
  rw [addr_add, Nat.zero_add, World.cell?_alloc_new]
  simp [Lib.byteCells, List.getElem?_eq_getElem hj]

theorem parse_bad (bv : Value) (l : List UInt8) (w : World) (hM : HasMax w) (hl : l.length < 4294967281) (hv : BytesAt w bv l) (h : parseL l = none) :
    Calls Tryz.prog 13 #[bv] w fun e w' => e = .returned (.tuple #[.slice none 0 0, .int .i64 21]) ∧ Below w.heap.size w w' :=
  (parse_walk bv l w hM hl hv).mono fun e w' ⟨h1, h2⟩ => ⟨by unfold PE at h2; rw [h] at h2; exact h2, h1⟩
theorem parse_good (bv : Value) (l : List UInt8) (es : List Ent) (w : World) (hM : HasMax w) (hl : l.length < 4294967281) (hv : BytesAt w bv l) (h : parseL l = some es) :
    Calls Tryz.prog 13 #[bv] w fun e w' => ∃ ad c, e = .returned (.tuple #[.slice ad es.length c, .int .i64 0]) ∧ Below w.heap.size w w' ∧ EntsAt w' (.slice ad es.length c) (es.map Ent.re) :=
  (parse_walk bv l w hM hl hv).mono fun e w' ⟨h1, h2⟩ => by
    unfold PE at h2
    rw [h] at h2
    obtain ⟨v, rfl, h3⟩ := h2
    have h4 := entsAt_row h3
    rcases h3.2 with ⟨rfl, h0⟩ | ⟨g, cap, _, rfl, _⟩
    · exact ⟨none, 0, by rw [h0], h1, by rw [h0]; exact h4⟩
    · exact ⟨_, cap, rfl, h1, h4⟩
theorem text_good (val : Value) (es : List RE) (l : List UInt8) (w : World) (hT : HasTab w) (hE : EntsAt w val es) (hs : ∀ E ∈ es, E.v.size ≤ 9223372036854775807 ∧ E.x.size ≤ 9223372036854775807) (hlen : es.length ≤ 9223372036854775807) (h : textR es = some l) :
    Calls Tryz.prog 11 #[val] w fun e w' => ∃ ad c, e = .returned (.tuple #[.slice ad l.length c, .int .i64 0]) ∧ Below w.heap.size w w' ∧ BytesAt w' (.slice ad l.length c) l :=
  (text_walk val es w hT hE hs hlen).mono fun e w' ⟨h1, h2⟩ => by
    unfold TE at h2
    rw [h] at h2
    obtain ⟨v, rfl, h3⟩ := h2
    have h4 := bytesAt_row h3
    rcases h3.2 with ⟨rfl, h0⟩ | ⟨g, cap, _, rfl, _⟩
    · exact ⟨none, 0, by rw [h0], h1, by rw [h0]; exact h4⟩
    · exact ⟨_, cap, rfl, h1, h4⟩
theorem text_bad (val : Value) (es : List RE) (w : World) (hT : HasTab w) (hE : EntsAt w val es) (hs : ∀ E ∈ es, E.v.size ≤ 9223372036854775807 ∧ E.x.size ≤ 9223372036854775807) (hlen : es.length ≤ 9223372036854775807) (h : textR es = none) :
    Calls Tryz.prog 11 #[val] w fun e w' => e = .returned (.tuple #[.slice none 0 0, .int .i64 21]) ∧ Below w.heap.size w w' :=
  (text_walk val es w hT hE hs hlen).mono fun e w' ⟨h1, h2⟩ => ⟨by unfold TE at h2; rw [h] at h2; exact h2, h1⟩
end Go.Proofs.YtefjnpflpgilpaaGreatDoor
