/- Plain: a right entry's line read back. Conditions: none. -/
import Derived.Test.YtefjnpflpgilpaaGreatDoorUcdBb
import Derived.Test.YtefjnpflpgilpaaGreatDoorUcdR
import Derived.Test.YtefjnpflpgilpaaGreatDoorUcdW
namespace Go.Proofs.YtefjnpflpgilpaaGreatDoor
open Go.RowKit

/-- a right entry's line without its end -/
def RE.body (E : RE) : List UInt8 := E.first ++ ([32, 59, 32] ++ (E.v.data.toList ++ (if E.x.data.toList = [] then [] else [32, 59, 32] ++ E.x.data.toList)))
theorem RE.line_body (E : RE) : E.line = E.body ++ 10 :: [] := by
  unfold RE.line RE.body RE.first
  simp only [List.append_assoc]
  rfl
def RE.ent (E : RE) : Ent := ⟨E.a.toNat, E.b.toNat, E.v.data.toList, E.x.data.toList⟩
theorem ent_re {E : RE} (h : E.ok = true) : E.ent.re = E := by
  obtain ⟨p1, p2, _, _, _⟩ := RE.ok_parts h
  obtain ⟨a, b, v, x⟩ := E
  simp only at p1 p2
  have e1 : ((a.toNat : Nat) : Int) = a := Int.toNat_of_nonneg p1
  have e2 : ((b.toNat : Nat) : Int) = b := Int.toNat_of_nonneg (by omega)
  have e3 : ∀ s : ByteArray, bL s.data.toList = s := fun s => by simp [bL]
  simp only [RE.ent, Ent.re, e1, e2, e3]
/-- a byte of a line that is no blank, no mark, no end -/
def Good (b : UInt8) : Prop := b.toNat = 46 ∨ (48 ≤ b.toNat ∧ b.toNat ≤ 57) ∨ (65 ≤ b.toNat ∧ b.toNat ≤ 90) ∨ b.toNat = 95 ∨ (97 ≤ b.toNat ∧ b.toNat ≤ 122)
theorem good_no {c : UInt8} {l : List UInt8} (h : ∀ b ∈ l, Good b) (hc : ¬ Good c) : c ∉ l := fun hm => hc (h c hm)
theorem good_blank {b : UInt8} (h : Good b) : [32, 9].contains b = false := by
  have h1 : b ≠ 32 := fun e => by rw [e] at h; revert h; unfold Good; decide
  have h2 : b ≠ 9 := fun e => by rw [e] at h; revert h; unfold Good; decide
  simp [h1, h2]
theorem first_good (E : RE) : ∀ b ∈ E.first, Good b := by
  have hf : ∀ n, ∀ b ∈ figL n, Good b := fun n b hb => by
    have := figL_plain n b hb
    unfold Good
    omega
  intro b hb
  unfold RE.first at hb
  rcases List.mem_append.1 hb with hb | hb
  · exact hf _ b hb
  · split at hb
    · rcases List.mem_cons.1 hb with rfl | hb
      · exact .inl rfl
      · rcases List.mem_cons.1 hb with rfl | hb
        · exact .inl rfl
        · exact hf _ b hb
    · simp at hb
theorem word_good {l : List UInt8} (h : wordOk l = true) : (∀ b ∈ l, Good b) ∧ l ≠ [] := by
  unfold wordOk at h
  simp only [Bool.and_eq_true] at h
  refine ⟨fun b hb => ?_, ?_⟩
  · have := (wb_iff b).1 (List.all_eq_true.1 h.1 b hb)
    unfold Good
    omega
  · intro e
    rw [e] at h
    simp at h
theorem ok_words {E : RE} (h : E.ok = true) : wordOk E.v.data.toList = true ∧ (E.x.data.toList = [] ∨ wordOk E.x.data.toList = true) := by
  unfold RE.ok rightOk at h
  simp only [Bool.and_eq_true, Bool.or_eq_true] at h
  exact ⟨h.2.2.2.1, h.2.2.2.2.imp (fun h => List.isEmpty_iff.1 h) id⟩
theorem first_ne (E : RE) : E.first ≠ [] := by
  intro h
  have h1 : E.first.length = 0 := by rw [h]; rfl
  simp only [RE.first, figL, List.length_append, List.length_replicate] at h1
  omega
theorem split_body {E : RE} (h : E.ok = true) : (splitL 59 E.body).map trimB = [E.first, E.v.data.toList] ++ (if E.x.data.toList = [] then [] else [E.x.data.toList]) := by
  obtain ⟨hv, hx⟩ := ok_words h
  obtain ⟨gv, nv⟩ := word_good hv
  have gf := first_good E
  have n59 : ∀ {l : List UInt8}, (∀ b ∈ l, Good b) → (59 : UInt8) ∉ l := fun g => good_no g (by unfold Good; decide)
  have bl : ∀ {l : List UInt8}, (∀ b ∈ l, Good b) → ∀ b ∈ l, [32, 9].contains b = false := fun g b hb => good_blank (g b hb)
  have t1 : trimB (E.first ++ [32]) = E.first := by
    have := trimB_pad [] E.first [32] (bl gf) (by simp) (by simp) (first_ne E)
    simpa using this
  have e1 : E.body = (E.first ++ [32]) ++ 59 :: (32 :: (E.v.data.toList ++ (if E.x.data.toList = [] then [] else [32, 59, 32] ++ E.x.data.toList))) := by
    unfold RE.body
    simp
  rw [e1, splitL_skip 59 _ _ (by simp; exact n59 gf)]
  by_cases hx0 : E.x.data.toList = []
  · rw [if_pos hx0, if_pos hx0, List.append_nil, splitL_none 59 _ (by simpa using n59 gv)]
    have t2 : trimB (32 :: E.v.data.toList) = E.v.data.toList := by
      have := trimB_pad [32] E.v.data.toList [] (bl gv) (by simp) (by simp) nv
      simpa using this
    simp [t1, t2]
  · obtain ⟨gx, nx⟩ := word_good (hx.resolve_left hx0)
    have e2 : 32 :: (E.v.data.toList ++ ([32, 59, 32] ++ E.x.data.toList)) = (32 :: (E.v.data.toList ++ [32])) ++ 59 :: (32 :: E.x.data.toList) := by simp
    rw [if_neg hx0, if_neg hx0, e2, splitL_skip 59 _ _ (by simpa using n59 gv), splitL_none 59 _ (by simpa using n59 gx)]
    have t2 : trimB (32 :: (E.v.data.toList ++ [32])) = E.v.data.toList := by
      have := trimB_pad [32] E.v.data.toList [32] (bl gv) (by simp) (by simp) nv
      simpa using this
    have t3 : trimB (32 :: E.x.data.toList) = E.x.data.toList := by
      have := trimB_pad [32] E.x.data.toList [] (bl gx) (by simp) (by simp) nx
      simpa using this
    simp [t1, t2, t3]
theorem entry_body {E : RE} (h : E.ok = true) : entryOf E.body = some E.ent := by
  have hr : rightOk E.a E.b E.v.data.toList E.x.data.toList = true := h
  obtain ⟨hv, hx⟩ := ok_words h
  obtain ⟨p1, p2, _, _, _⟩ := RE.ok_parts h
  have e1 : ((E.a.toNat : Nat) : Int) = E.a := Int.toNat_of_nonneg p1
  have e2 : ((E.b.toNat : Nat) : Int) = E.b := Int.toNat_of_nonneg (by omega)
  unfold entryOf
  simp only [split_body h]
  by_cases hx0 : E.x.data.toList = []
  · rw [hx0] at hr
    simp only [hx0, if_true, List.append_nil]
    rw [if_pos ⟨by simp, by simp, fun p hp => by
      simp only [List.mem_cons, List.not_mem_nil, or_false] at hp
      rcases hp with rfl | rfl
      · exact first_ne E
      · exact (word_good hv).2⟩]
    simp only [List.getD_cons_zero, List.getD_cons_succ, List.getD_nil, spanOf_first h, e1, e2, hr, if_true]
    simp only [RE.ent, hx0]
  · simp only [hx0, if_false, List.cons_append, List.nil_append]
    rw [if_pos ⟨by simp, by simp, fun p hp => by
      simp only [List.mem_cons, List.not_mem_nil, or_false] at hp
      rcases hp with rfl | rfl | rfl
      · exact first_ne E
      · exact (word_good hv).2
      · exact hx0⟩]
    simp only [List.getD_cons_zero, List.getD_cons_succ, spanOf_first h, e1, e2, hr, if_true]
    rfl
theorem body_good {E : RE} (h : E.ok = true) : ∀ b ∈ E.body, Good b ∨ b = 32 ∨ b = 59 := by
  obtain ⟨hv, hx⟩ := ok_words h
  intro b hb
  unfold RE.body at hb
  rcases List.mem_append.1 hb with hb | hb
  · exact .inl (first_good E b hb)
  · rcases List.mem_append.1 hb with hb | hb
    · simp only [List.mem_cons, List.not_mem_nil, or_false] at hb
      rcases hb with rfl | rfl | rfl
      · exact .inr (.inl rfl)
      · exact .inr (.inr rfl)
      · exact .inr (.inl rfl)
    · rcases List.mem_append.1 hb with hb | hb
      · exact .inl ((word_good hv).1 b hb)
      · split at hb
        · simp at hb
        · rename_i hx0
          rcases List.mem_append.1 hb with hb | hb
          · simp only [List.mem_cons, List.not_mem_nil, or_false] at hb
            rcases hb with rfl | rfl | rfl
            · exact .inr (.inl rfl)
            · exact .inr (.inr rfl)
            · exact .inr (.inl rfl)
          · exact .inl ((word_good (hx.resolve_left hx0)).1 b hb)
theorem body_no {E : RE} (h : E.ok = true) (c : UInt8) (hc : ¬ Good c) (h1 : c ≠ 32) (h2 : c ≠ 59) : c ∉ E.body := fun hm => by
  rcases body_good h c hm with h3 | h3 | h3
  · exact hc h3
  · exact h1 h3
  · exact h2 h3
theorem trimB_ends (p m q : List UInt8) (hp : ∀ b ∈ p, [32, 9].contains b = false) (hq : ∀ b ∈ q, [32, 9].contains b = false) (np : p ≠ []) (nq : q ≠ []) : trimB (p ++ (m ++ q)) = p ++ (m ++ q) := by
  unfold trimB Lib.trimS Lib.trimRightS Lib.trimLeftS
  have e : (p ++ (m ++ q)).reverse = q.reverse ++ (m.reverse ++ p.reverse) := by simp
  rw [e, dropWhile_keep _ _ _ (fun b hb => hq b (by simpa using hb)) (by simpa using nq)]
  have e2 : (q.reverse ++ (m.reverse ++ p.reverse)).reverse = p ++ (m ++ q) := by simp
  rw [e2]
  exact dropWhile_keep _ _ _ hp np
theorem trimB_body {E : RE} (h : E.ok = true) : trimB E.body = E.body := by
  obtain ⟨hv, hx⟩ := ok_words h
  obtain ⟨gv, nv⟩ := word_good hv
  have bl : ∀ {l : List UInt8}, (∀ b ∈ l, Good b) → ∀ b ∈ l, [32, 9].contains b = false := fun g b hb => good_blank (g b hb)
  unfold RE.body
  by_cases hx0 : E.x.data.toList = []
  · rw [if_pos hx0, List.append_nil]
    exact trimB_ends _ _ _ (bl (first_good E)) (bl gv) (first_ne E) nv
  · obtain ⟨gx, nx⟩ := word_good (hx.resolve_left hx0)
    rw [if_neg hx0]
    have := trimB_ends E.first ([32, 59, 32] ++ (E.v.data.toList ++ [32, 59, 32])) E.x.data.toList (bl (first_good E)) (bl gx) (first_ne E) nx
    simpa using this
theorem takeWhile_all (c : UInt8) (l : List UInt8) (h : c ∉ l) : l.takeWhile (· != c) = l := by
  induction l with
  | nil => rfl
  | cons x l ih =>
    have hx : (x != c) = true := by
      rw [bne_iff_ne]
      intro e
      exact h (by rw [e]; exact List.mem_cons_self ..)
    rw [List.takeWhile_cons, if_pos hx, ih (fun hm => h (List.mem_cons_of_mem _ hm))]
theorem lineOf_body {E : RE} (h : E.ok = true) : lineOf E.body = E.body := by
  unfold lineOf
  rw [takeWhile_all 35 _ (body_no h 35 (by unfold Good; decide) (by decide) (by decide)), trimB_body h]
theorem body_ne (E : RE) : E.body ≠ [] := by
  intro h
  have := congrArg List.length h
  simp [RE.body] at this
/-- right entries' lines read back -/
theorem parse_lines (es : List RE) (hok : ∀ E ∈ es, E.ok = true) (hn : es.length ≤ 600) : parseL (es.flatMap RE.line) = some (es.map RE.ent) := by
  have key : ∀ (es : List RE), (∀ E ∈ es, E.ok = true) → ∀ acc : List Ent, acc.length + es.length ≤ 600 → (splitL 10 (es.flatMap RE.line)).foldl stepE (some acc) = some (acc ++ es.map RE.ent) := by
    intro es
    induction es with
    | nil =>
      intro _ acc _
      show stepE (some acc) [] = some (acc ++ [])
      rw [stepE_skip acc [] (by decide), List.append_nil]
    | cons E es ih =>
      intro hok acc hn
      have hE := hok E (List.mem_cons_self ..)
      have e1 : (E :: es).flatMap RE.line = E.body ++ 10 :: es.flatMap RE.line := by
        rw [List.flatMap_cons, RE.line_body]
        simp
      rw [e1, splitL_skip 10 _ _ (body_no hE 10 (by unfold Good; decide) (by decide) (by decide)), List.foldl_cons]
      simp only [List.length_cons] at hn
      rw [stepE_add acc E.body E.ent (by rw [lineOf_body hE]; exact body_ne E) (by rw [lineOf_body hE]; exact entry_body hE) (by omega)]
      rw [ih (fun F hF => hok F (List.mem_cons_of_mem _ hF)) (acc ++ [E.ent]) (by simp; omega)]
      simp
  have := key es hok [] (by simpa using hn)
  exact this
end Go.Proofs.YtefjnpflpgilpaaGreatDoor
