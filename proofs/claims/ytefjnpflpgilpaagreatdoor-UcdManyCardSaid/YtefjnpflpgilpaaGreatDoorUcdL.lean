/- Plain: what ucd.Parse makes of a text. Conditions: none. -/
import Derived.Test.YtefjnpflpgilpaaGreatDoorUcdG
namespace Go.Proofs.YtefjnpflpgilpaaGreatDoor
open Go.RowKit

def bL (l : List UInt8) : ByteArray := ⟨l.toArray⟩
theorem bL_data (l : List UInt8) : (bL l).data.toList = l := by simp [bL]
theorem bL_size (l : List UInt8) : (bL l).size = l.length := by simp [bL, ByteArray.size]
def entC (E : Ent) : List Value := [.int .i64 E.a, .int .i64 E.b, .string (bL E.v), .string (bL E.x)]
def entsC (es : List Ent) : List Value := es.flatMap entC
theorem entsC_length (es : List Ent) : (entsC es).length = es.length * 4 := by
  induction es with
  | nil => rfl
  | cons E es ih => simp only [entsC, List.flatMap_cons, List.length_append] at ih ⊢; rw [ih]; simp [entC]; omega
/-- a line without its comment and the blanks at its ends -/
def lineOf (l : List UInt8) : List UInt8 := trimB (l.takeWhile (· != 35))
def stepE (acc : Option (List Ent)) (l : List UInt8) : Option (List Ent) :=
  match acc with
  | none => none
  | some es => if lineOf l = [] then some es else match entryOf (lineOf l) with
    | none => none
    | some E => if es.length + 1 ≤ 600 then some (es ++ [E]) else none
def foldE (ls : List (List UInt8)) : Option (List Ent) := ls.foldl stepE (some [])
/-- what ucd.Parse makes of a text -/
def parseL (l : List UInt8) : Option (List Ent) := foldE (splitL 10 l)
theorem foldE_none (ls : List (List UInt8)) : ls.foldl stepE none = none := by
  induction ls with
  | nil => rfl
  | cons l ls ih => exact ih
theorem foldE_stop (pre : List (List UInt8)) (x : List UInt8) (post : List (List UInt8)) (h : foldE (pre ++ [x]) = none) : foldE (pre ++ x :: post) = none := by
  unfold foldE at h ⊢
  rw [List.foldl_append] at h ⊢
  rw [List.foldl_cons] at h ⊢
  rw [List.foldl_nil] at h
  rw [h]
  exact foldE_none post
theorem foldE_snoc (pre : List (List UInt8)) (x : List UInt8) : foldE (pre ++ [x]) = stepE (foldE pre) x := by
  unfold foldE
  rw [List.foldl_append]
  rfl

theorem stepE_skip (es : List Ent) (l : List UInt8) (h : lineOf l = []) : stepE (some es) l = some es := by simp only [stepE, h, if_true]
theorem stepE_bad (es : List Ent) (l : List UInt8) (h : lineOf l ≠ []) (he : entryOf (lineOf l) = none) : stepE (some es) l = none := by simp only [stepE, h, if_false, he]
theorem stepE_full (es : List Ent) (l : List UInt8) (E : Ent) (h : lineOf l ≠ []) (he : entryOf (lineOf l) = some E) (hn : ¬ es.length + 1 ≤ 600) : stepE (some es) l = none := by simp only [stepE, h, if_false, he, hn]
theorem stepE_add (es : List Ent) (l : List UInt8) (E : Ent) (h : lineOf l ≠ []) (he : entryOf (lineOf l) = some E) (hn : es.length + 1 ≤ 600) : stepE (some es) l = some (es ++ [E]) := by simp only [stepE, h, if_false, he, hn, if_true]
theorem foldE_le' (ls : List (List UInt8)) : ∀ (es0 es : List Ent), es0.length ≤ 600 → ls.foldl stepE (some es0) = some es → es.length ≤ 600 := by
  induction ls with
  | nil => intro es0 es h0 h; cases h; exact h0
  | cons l ls ih =>
    intro es0 es h0 h
    rw [List.foldl_cons] at h
    by_cases hl : lineOf l = []
    · rw [stepE_skip es0 l hl] at h
      exact ih _ _ h0 h
    · cases he : entryOf (lineOf l) with
      | none =>
        rw [stepE_bad es0 l hl he, foldE_none] at h
        cases h
      | some E =>
        by_cases hn : es0.length + 1 ≤ 600
        · rw [stepE_add es0 l E hl he hn] at h
          exact ih _ _ (by simpa using hn) h
        · rw [stepE_full es0 l E hl he hn, foldE_none] at h
          cases h
theorem foldE_le (ls : List (List UInt8)) (es : List Ent) (h : foldE ls = some es) : es.length ≤ 600 := foldE_le' ls [] es (by simp) h
theorem entry_as (s : ByteArray) (E : Ent) (e : Ending) (h : entryOf s.data.toList = some E) (he : entE s.data.toList e) : e = .returned (.agg #[.int .i64 E.a, .int .i64 E.b, .string (bL E.v), .string (bL E.x)]) := by
  unfold entE at he
  rw [h] at he
  obtain ⟨v, x, hv, hx, rfl⟩ := he
  have h1 : bL E.v = v := by rw [← hv]; simp [bL]
  have h2 : bL E.x = x := by rw [← hx]; simp [bL]
  rw [h1, h2]
  rfl
theorem entry_not (s : ByteArray) (e : Ending) (h : entryOf s.data.toList = none) (he : entE s.data.toList e) : e = .panicked bad := by
  unfold entE at he
  rw [h] at he
  exact he
theorem entry_none (s : ByteArray) (w : World) (hM : HasMax w) (hs : s.size < 4294967281) (h : entryOf s.data.toList = none) :
    Calls Tryz.prog 23 #[.string s] w fun e w' => e = .panicked bad ∧ Below w.heap.size w w' :=
  (entry_walk s w hM hs).mono fun e _ ⟨h1, h2⟩ => ⟨entry_not s e h h1, h2⟩
theorem entry_some (s : ByteArray) (E : Ent) (w : World) (hM : HasMax w) (hs : s.size < 4294967281) (h : entryOf s.data.toList = some E) :
    Calls Tryz.prog 23 #[.string s] w fun e w' => e = .returned (.agg #[.int .i64 E.a, .int .i64 E.b, .string (bL E.v), .string (bL E.x)]) ∧ Below w.heap.size w w' :=
  (entry_walk s w hM hs).mono fun e _ ⟨h1, h2⟩ => ⟨entry_as s E e h h1, h2⟩

theorem cut_before (c : UInt8) (l : List UInt8) : (Lib.cut l [c]).1 = l.takeWhile (· != c) := by
  have key : ∀ l : List UInt8, (Lib.indexByte l c = -1 ∧ l.takeWhile (· != c) = l) ∨ ∃ i : Nat, Lib.indexByte l c = i ∧ l.takeWhile (· != c) = l.take i := by
    intro l
    induction l with
    | nil => exact .inl ⟨rfl, rfl⟩
    | cons x l ih =>
      by_cases h : (x == c) = true
      · exact .inr ⟨0, by simp [Lib.indexByte, h], by simp [bne, h]⟩
      · have h' : (x == c) = false := by simpa using h
        have e : (x :: l).takeWhile (· != c) = x :: l.takeWhile (· != c) := by
          rw [List.takeWhile_cons, if_pos (by simp only [bne, h', Bool.not_false])]
        rw [e]
        rcases ih with ⟨h1, h2⟩ | ⟨i, h1, h2⟩
        · exact .inl ⟨by simp [Lib.indexByte, h', h1], by rw [h2]⟩
        · refine .inr ⟨i + 1, ?_, by rw [h2]; rfl⟩
          have hn : ¬ ((i : Int) == -1) = true := by
            intro e
            have := beq_iff_eq.1 e
            omega
          simp only [Lib.indexByte, h', h1]
          rw [if_neg (by simp), if_neg hn]
          simp
  rcases key l with ⟨h1, h2⟩ | ⟨i, h1, h2⟩
  · unfold Lib.cut
    rw [Lib.index_one, h1, h2]
    simp
  · unfold Lib.cut
    rw [Lib.index_one, h1, h2]
    simp
end Go.Proofs.YtefjnpflpgilpaaGreatDoor
