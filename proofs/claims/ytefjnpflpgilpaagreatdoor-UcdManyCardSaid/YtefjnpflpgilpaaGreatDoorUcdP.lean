/- Lists alone: a text cut at a byte; what strings.Split hands back, as lists. Conditions: none. -/
import Derived.Lib.SplitLaws
import Derived.Lib.SlTrimSet
namespace Go.Proofs.YtefjnpflpgilpaaGreatDoor
open Go

/-- a text's pieces, between bytes -/
def splitL (c : UInt8) : List UInt8 → List (List UInt8)
  | [] => [[]]
  | x :: l => if x == c then [] :: splitL c l else match splitL c l with
    | [] => [[x]]
    | p :: ps => (x :: p) :: ps
theorem splitL_ne (c : UInt8) (l : List UInt8) : splitL c l ≠ [] := by
  cases l with
  | nil => simp [splitL]
  | cons x l =>
    unfold splitL
    split
    · simp
    · split <;> simp

theorem splitL_index (c : UInt8) : ∀ l : List UInt8, (Lib.indexByte l c = -1 ∧ splitL c l = [l]) ∨ ∃ i : Nat, Lib.indexByte l c = i ∧ splitL c l = l.take i :: splitL c (l.drop (i + 1))
  | [] => .inl ⟨rfl, rfl⟩
  | x :: l => by
    by_cases h : (x == c) = true
    · exact .inr ⟨0, by simp [Lib.indexByte, h], by simp [splitL, h]⟩
    · have h' : (x == c) = false := by simpa using h
      rcases splitL_index c l with ⟨h1, h2⟩ | ⟨i, h1, h2⟩
      · exact .inl ⟨by simp [Lib.indexByte, h', h1], by simp [splitL, h', h2]⟩
      · refine .inr ⟨i + 1, ?_, by simp [splitL, h', h2]⟩
        have hn : ¬ ((i : Int) == -1) = true := by
          intro e
          have := beq_iff_eq.1 e
          omega
        simp only [Lib.indexByte, h', h1]
        rw [if_neg (by simp), if_neg hn]
        simp

theorem splitK_splitL (c : UInt8) : ∀ (k : Nat) (l : List UInt8), l.count c ≤ k → Lib.splitK [c] 0 k l = splitL c l
  | 0, l, h => by
    rcases splitL_index c l with ⟨_, h2⟩ | ⟨i, h1, _⟩
    · rw [h2]; rfl
    · exfalso
      have := (Lib.indexByte_some h1).1
      have hm : c ∈ l := List.mem_of_getElem? this
      have := List.count_pos_iff.2 hm
      omega
  | k + 1, l, h => by
    unfold Lib.splitK
    rw [Lib.index_one]
    rcases splitL_index c l with ⟨h1, h2⟩ | ⟨i, h1, h2⟩
    · rw [h1, h2]; rfl
    · have hn : ¬ ((i : Int) == -1) = true := by
        intro e
        have := beq_iff_eq.1 e
        omega
      rw [h1, if_neg hn, h2]
      simp only [Int.toNat_natCast, Nat.add_zero, List.length_singleton]
      rw [splitK_splitL c k]
      have hg := (Lib.indexByte_some h1).1
      have hi : i < l.length := (List.getElem?_eq_some_iff.1 hg).1
      have e : l = l.take i ++ c :: l.drop (i + 1) := by
        have hgi : l[i]'hi = c := by
          rw [List.getElem?_eq_getElem hi] at hg
          exact Option.some.inj hg
        rw [← hgi, ← List.drop_eq_getElem_cons hi, List.take_append_drop]
      rw [e, List.count_append, List.count_cons_self] at h
      omega

theorem splitB_splitL (s : ByteArray) (c : UInt8) : (Lib.splitB ⟨#[c]⟩ 0 (Lib.countB s ⟨#[c]⟩) s).map (·.data.toList) = splitL c s.data.toList := by
  rw [Lib.splitB_data]
  exact splitK_splitL c _ _ (by
    show s.data.toList.count c ≤ Lib.count s.data.toList [c]
    rw [Lib.count_one]
    exact Nat.le_refl _)
theorem splitL_length (c : UInt8) : ∀ l : List UInt8, (splitL c l).length = l.count c + 1
  | [] => rfl
  | x :: l => by
    by_cases h : (x == c) = true
    · have e : x = c := by simpa using h
      subst e
      simp [splitL, splitL_length x l]
    · have h' : (x == c) = false := by simpa using h
      have hne : x ≠ c := by simpa using h'
      have ih := splitL_length c l
      unfold splitL
      rw [if_neg h, List.count_cons_of_ne hne]
      split
      · rename_i e; rw [e] at ih; simp at ih
      · rename_i e; rw [e] at ih; simpa using ih
theorem splitL_le (c : UInt8) : ∀ (l p : List UInt8), p ∈ splitL c l → p.length ≤ l.length
  | [], p, h => by simp [splitL] at h; simp [h]
  | x :: l, p, h => by
    unfold splitL at h
    split at h
    · rcases List.mem_cons.1 h with rfl | h
      · simp
      · have := splitL_le c l p h; simp; omega
    · split at h
      · simp at h; simp [h]
      · rename_i q ps e
        rcases List.mem_cons.1 h with rfl | h
        · have := splitL_le c l q (by rw [e]; simp); simp; omega
        · have := splitL_le c l p (by rw [e]; simp [h]); simp; omega
theorem dropWhile_le {α : Type} (p : α → Bool) (l : List α) : (l.dropWhile p).length ≤ l.length := by
  induction l with
  | nil => simp
  | cons a l ih =>
    cases h : p a with
    | true => simp [List.dropWhile, h]; omega
    | false => simp [List.dropWhile, h]
theorem trimS_le (l cs : List UInt8) : (Lib.trimS l cs).length ≤ l.length := by
  unfold Lib.trimS Lib.trimLeftS Lib.trimRightS
  have h1 := dropWhile_le (cs.contains ·) (l.reverse.dropWhile (cs.contains ·)).reverse
  have h2 := dropWhile_le (cs.contains ·) l.reverse
  rw [List.length_reverse] at h1 h2
  omega
end Go.Proofs.YtefjnpflpgilpaaGreatDoor
