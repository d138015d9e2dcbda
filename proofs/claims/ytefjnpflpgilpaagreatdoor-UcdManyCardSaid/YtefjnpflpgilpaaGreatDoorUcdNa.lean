/- Plain: what a right table's text with noise is parsed to. Conditions: none. -/
import Derived.Test.YtefjnpflpgilpaaGreatDoorUcdBc
namespace Go.Proofs.YtefjnpflpgilpaaGreatDoor
open Go.RowKit

/-- what becomes of a byte -/
def noiseB (cm : List UInt8) (b : UInt8) : List UInt8 := if b = 59 then [9, 32, 59, 32] else if b = 10 then [32, 32, 35] ++ (cm ++ [10, 10, 9]) else [b]
def noisy (cm : List UInt8) (l : List UInt8) : List UInt8 := ([35] ++ cm ++ [10, 32, 9, 10]) ++ l.flatMap (noiseB cm)
theorem noiseB_length (cm : List UInt8) (b : UInt8) : (noiseB cm b).length ≤ 6 + cm.length := by
  unfold noiseB
  split
  · simp; omega
  · split
    · simp; omega
    · simp; omega
theorem noise_length (cm : List UInt8) (l : List UInt8) : (l.flatMap (noiseB cm)).length ≤ (6 + cm.length) * l.length := by
  induction l with
  | nil => simp
  | cons b l ih =>
    have := noiseB_length cm b
    rw [List.flatMap_cons, List.length_append, List.length_cons, Nat.mul_succ]
    omega
theorem noise_good (cm l : List UInt8) (h : ∀ b ∈ l, Good b) : l.flatMap (noiseB cm) = l := by
  induction l with
  | nil => rfl
  | cons b l ih =>
    have hb := h b (List.mem_cons_self ..)
    have n1 : b ≠ 59 := fun e => by rw [e] at hb; revert hb; unfold Good; decide
    have n2 : b ≠ 10 := fun e => by rw [e] at hb; revert hb; unfold Good; decide
    rw [List.flatMap_cons, ih (fun c hc => h c (List.mem_cons_of_mem _ hc))]
    unfold noiseB
    rw [if_neg n1, if_neg n2]
    rfl
def gap : List UInt8 := [32, 9, 32, 59, 32, 32]
/-- a right entry's line with noise, without its end -/
def RE.nbody (E : RE) : List UInt8 := E.first ++ (gap ++ (E.v.data.toList ++ (if E.x.data.toList = [] then [] else gap ++ E.x.data.toList)))
theorem noise_sep (cm : List UInt8) : ([32, 59, 32] : List UInt8).flatMap (noiseB cm) = gap := by
  simp [noiseB, gap]
theorem noise_body {E : RE} (cm : List UInt8) (h : E.ok = true) : E.body.flatMap (noiseB cm) = E.nbody := by
  obtain ⟨hv, hx⟩ := ok_words h
  unfold RE.body RE.nbody
  rw [List.flatMap_append, List.flatMap_append, List.flatMap_append, noise_good cm _ (first_good E), noise_sep, noise_good cm _ (word_good hv).1]
  by_cases hx0 : E.x.data.toList = []
  · rw [if_pos hx0, if_pos hx0]; rfl
  · rw [if_neg hx0, if_neg hx0, List.flatMap_append, noise_sep, noise_good cm _ (word_good (hx.resolve_left hx0)).1]
theorem split_nbody {E : RE} (h : E.ok = true) : (splitL 59 E.nbody).map trimB = [E.first, E.v.data.toList] ++ (if E.x.data.toList = [] then [] else [E.x.data.toList]) := by
  obtain ⟨hv, hx⟩ := ok_words h
  obtain ⟨gv, nv⟩ := word_good hv
  have gf := first_good E
  have n59 : ∀ {l : List UInt8}, (∀ b ∈ l, Good b) → (59 : UInt8) ∉ l := fun g => good_no g (by unfold Good; decide)
  have bl : ∀ {l : List UInt8}, (∀ b ∈ l, Good b) → ∀ b ∈ l, [32, 9].contains b = false := fun g b hb => good_blank (g b hb)
  have t1 : trimB (E.first ++ [32, 9, 32]) = E.first := by
    have := trimB_pad [] E.first [32, 9, 32] (bl gf) (by simp) (by simp) (first_ne E)
    simpa using this
  have e1 : E.nbody = (E.first ++ [32, 9, 32]) ++ 59 :: ([32, 32] ++ (E.v.data.toList ++ (if E.x.data.toList = [] then [] else gap ++ E.x.data.toList))) := by
    unfold RE.nbody gap
    simp
  rw [e1, splitL_skip 59 _ _ (by simp; exact n59 gf)]
  by_cases hx0 : E.x.data.toList = []
  · rw [if_pos hx0, if_pos hx0, List.append_nil, splitL_none 59 _ (by simpa using n59 gv)]
    have t2 : trimB ([32, 32] ++ E.v.data.toList) = E.v.data.toList := by
      have := trimB_pad [32, 32] E.v.data.toList [] (bl gv) (by simp) (by simp) nv
      simpa using this
    rw [List.map_cons, List.map_cons, t1, t2]
    rfl
  · obtain ⟨gx, nx⟩ := word_good (hx.resolve_left hx0)
    have e2 : [32, 32] ++ (E.v.data.toList ++ (gap ++ E.x.data.toList)) = ([32, 32] ++ (E.v.data.toList ++ [32, 9, 32])) ++ 59 :: ([32, 32] ++ E.x.data.toList) := by simp [gap]
    rw [if_neg hx0, if_neg hx0, e2, splitL_skip 59 _ _ (by simpa using n59 gv), splitL_none 59 _ (by simpa using n59 gx)]
    have t2 : trimB ([32, 32] ++ (E.v.data.toList ++ [32, 9, 32])) = E.v.data.toList := trimB_pad [32, 32] E.v.data.toList [32, 9, 32] (bl gv) (by simp) (by simp) nv
    have t3 : trimB ([32, 32] ++ E.x.data.toList) = E.x.data.toList := by
      have := trimB_pad [32, 32] E.x.data.toList [] (bl gx) (by simp) (by simp) nx
      simpa using this
    rw [List.map_cons, List.map_cons, List.map_cons, t1, t2, t3]
    rfl
theorem entry_nbody {E : RE} (h : E.ok = true) : entryOf E.nbody = some E.ent := by
  rw [← entry_body h]
  unfold entryOf
  simp only [split_body h, split_nbody h]
theorem nbody_ends {E : RE} (h : E.ok = true) (p q : List UInt8) (hp : ∀ b ∈ p, [32, 9].contains b = true) (hq : ∀ b ∈ q, [32, 9].contains b = true) : trimB (p ++ (E.nbody ++ q)) = E.nbody := by
  obtain ⟨hv, hx⟩ := ok_words h
  obtain ⟨gv, nv⟩ := word_good hv
  have bl : ∀ {l : List UInt8}, (∀ b ∈ l, Good b) → ∀ b ∈ l, [32, 9].contains b = false := fun g b hb => good_blank (g b hb)
  have key : ∀ (a m z : List UInt8), (∀ b ∈ a, [32, 9].contains b = false) → (∀ b ∈ z, [32, 9].contains b = false) → a ≠ [] → z ≠ [] → trimB (p ++ ((a ++ (m ++ z)) ++ q)) = a ++ (m ++ z) := by
    intro a m z ha hz na nz
    unfold trimB Lib.trimS Lib.trimRightS Lib.trimLeftS
    have e : (p ++ ((a ++ (m ++ z)) ++ q)).reverse = q.reverse ++ (z.reverse ++ (m.reverse ++ (a.reverse ++ p.reverse))) := by simp
    rw [e, dropWhile_skip _ _ _ (fun b hb => hq b (by simpa using hb)), dropWhile_keep _ _ _ (fun b hb => hz b (by simpa using hb)) (by simpa using nz)]
    have e2 : (z.reverse ++ (m.reverse ++ (a.reverse ++ p.reverse))).reverse = p ++ (a ++ (m ++ z)) := by simp
    rw [e2, dropWhile_skip _ _ _ hp, dropWhile_keep _ _ _ ha na]
  unfold RE.nbody
  by_cases hx0 : E.x.data.toList = []
  · rw [if_pos hx0, List.append_nil]
    exact key _ _ _ (bl (first_good E)) (bl gv) (first_ne E) nv
  · obtain ⟨gx, nx⟩ := word_good (hx.resolve_left hx0)
    rw [if_neg hx0]
    have := key E.first (gap ++ (E.v.data.toList ++ gap)) E.x.data.toList (bl (first_good E)) (bl gx) (first_ne E) nx
    simpa using this
theorem nbody_no {E : RE} (h : E.ok = true) (c : UInt8) (hc : ¬ Good c) (h1 : c ≠ 32) (h2 : c ≠ 59) (h3 : c ≠ 9) : c ∉ E.nbody := by
  obtain ⟨hv, hx⟩ := ok_words h
  have hg : c ∉ gap := by
    unfold gap
    simp only [List.mem_cons, List.not_mem_nil, or_false, not_or]
    exact ⟨h1, h3, h1, h2, h1, h1⟩
  intro hm
  unfold RE.nbody at hm
  rcases List.mem_append.1 hm with hm | hm
  · exact hc (first_good E c hm)
  · rcases List.mem_append.1 hm with hm | hm
    · exact hg hm
    · rcases List.mem_append.1 hm with hm | hm
      · exact hc ((word_good hv).1 c hm)
      · split at hm
        · simp at hm
        · rename_i hx0
          rcases List.mem_append.1 hm with hm | hm
          · exact hg hm
          · exact hc ((word_good (hx.resolve_left hx0)).1 c hm)
theorem nbody_ne (E : RE) : E.nbody ≠ [] := by
  intro h
  have := congrArg List.length h
  simp [RE.nbody, gap] at this
theorem takeWhile_till (c : UInt8) (p q : List UInt8) (h : c ∉ p) : (p ++ c :: q).takeWhile (· != c) = p := by
  induction p with
  | nil => simp
  | cons x p ih =>
    have hx : (x != c) = true := by
      rw [bne_iff_ne]
      intro e
      exact h (by rw [e]; exact List.mem_cons_self ..)
    rw [List.cons_append, List.takeWhile_cons, if_pos hx, ih (fun hm => h (List.mem_cons_of_mem _ hm))]
/-- right entries' lines with noise, read back -/
theorem parse_noisy (cm : List UInt8) (hcm : (10 : UInt8) ∉ cm) (es : List RE) (hok : ∀ E ∈ es, E.ok = true) (hn : es.length ≤ 600) : parseL (noisy cm (es.flatMap RE.line)) = some (es.map RE.ent) := by
  have key : ∀ (es : List RE), (∀ E ∈ es, E.ok = true) → ∀ (p : List UInt8) (acc : List Ent), (p = [] ∨ p = [9]) → acc.length + es.length ≤ 600 → (splitL 10 (p ++ (es.flatMap RE.line).flatMap (noiseB cm))).foldl stepE (some acc) = some (acc ++ es.map RE.ent) := by
    intro es
    induction es with
    | nil =>
      intro _ p acc hp _
      rw [List.flatMap_nil, List.flatMap_nil, List.append_nil]
      have h0 : splitL 10 p = [p] := by rcases hp with rfl | rfl <;> decide
      have h1 : lineOf p = [] := by rcases hp with rfl | rfl <;> decide
      rw [h0, List.foldl_cons, List.foldl_nil, stepE_skip acc p h1, List.map_nil, List.append_nil]
    | cons E es ih =>
      intro hok p acc hp hn
      have hE := hok E (List.mem_cons_self ..)
      have hpb : ∀ b ∈ p, [32, 9].contains b = true := by rcases hp with rfl | rfl <;> simp
      have hp10 : (10 : UInt8) ∉ p := by rcases hp with rfl | rfl <;> simp
      have hp35 : (35 : UInt8) ∉ p := by rcases hp with rfl | rfl <;> simp
      have n10 := nbody_no hE 10 (by unfold Good; decide) (by decide) (by decide) (by decide)
      have n35 := nbody_no hE 35 (by unfold Good; decide) (by decide) (by decide) (by decide)
      have e0 : noiseB cm 10 = [32, 32, 35] ++ (cm ++ [10, 10, 9]) := by simp [noiseB]
      have e1 : p ++ ((E :: es).flatMap RE.line).flatMap (noiseB cm) = ((p ++ (E.nbody ++ [32, 32])) ++ 35 :: cm) ++ 10 :: ([] ++ 10 :: ([9] ++ (es.flatMap RE.line).flatMap (noiseB cm))) := by
        rw [List.flatMap_cons, RE.line_body, List.flatMap_append, List.flatMap_append, List.flatMap_cons, List.flatMap_nil, noise_body cm hE, e0]
        simp
      have e2 : lineOf ((p ++ (E.nbody ++ [32, 32])) ++ 35 :: cm) = E.nbody := by
        unfold lineOf
        rw [takeWhile_till 35 _ _ (by simp only [List.mem_append, not_or]; exact ⟨hp35, n35, by decide⟩)]
        exact nbody_ends hE p [32, 32] hpb (by simp)
      rw [e1, splitL_skip 10 _ _ (by
        simp only [List.mem_append, List.mem_cons, not_or]
        exact ⟨⟨hp10, n10, by decide⟩, by decide, hcm⟩), splitL_skip 10 _ _ (by simp), List.foldl_cons, List.foldl_cons]
      simp only [List.length_cons] at hn
      rw [stepE_add acc _ E.ent (by rw [e2]; exact nbody_ne E) (by rw [e2]; exact entry_nbody hE) (by omega), stepE_skip _ [] (by decide)]
      rw [ih (fun F hF => hok F (List.mem_cons_of_mem _ hF)) [9] (acc ++ [E.ent]) (.inr rfl) (by simp; omega)]
      simp
  have := key es hok [] [] (.inl rfl) (by simpa using hn)
  unfold parseL foldE noisy
  have e1 : ([35] ++ cm ++ [10, 32, 9, 10]) ++ (es.flatMap RE.line).flatMap (noiseB cm) = (35 :: cm) ++ 10 :: ([32, 9] ++ 10 :: ([] ++ (es.flatMap RE.line).flatMap (noiseB cm))) := by simp
  rw [e1, splitL_skip 10 _ _ (by simp only [List.mem_cons, not_or]; exact ⟨by decide, hcm⟩), splitL_skip 10 _ _ (by simp), List.foldl_cons, List.foldl_cons]
  rw [stepE_skip [] (35 :: cm) (by unfold lineOf; rw [List.takeWhile_cons]; rfl), stepE_skip [] [32, 9] (by decide), this]
  rfl
end Go.Proofs.YtefjnpflpgilpaaGreatDoor
