/- The walk of ucd.entry: a line's entry, or a panic. Conditions: texts below 4294967281 bytes; the library's variable MaxLen holds an int. -/
import Derived.Test.YtefjnpflpgilpaaGreatDoorUcdF
import Derived.Test.YtefjnpflpgilpaaGreatDoorUcdP
namespace Go.Proofs.YtefjnpflpgilpaaGreatDoor
open Go.RowKit

def blanks : ByteArray := ⟨#[32, 9]⟩
/-- a text without blanks at its ends -/
def trimB (l : List UInt8) : List UInt8 := Lib.trimS l [32, 9]
structure Ent where
  a : Nat
  b : Nat
  v : List UInt8
  x : List UInt8
/-- a line's entry -/
def entryOf (l : List UInt8) : Option Ent :=
  let f := (splitL 59 l).map trimB
  if 2 ≤ f.length ∧ f.length ≤ 3 ∧ (∀ p ∈ f, p ≠ []) then
    match spanOf (f.getD 0 []) with
    | some (a, b) => if rightOk a b (f.getD 1 []) (f.getD 2 []) = true then some ⟨a, b, f.getD 1 [], f.getD 2 []⟩ else none
    | none => none
  else none
def entW (a b : Nat) (v x : ByteArray) : Value := .agg #[.int .i64 a, .int .i64 b, .string v, .string x]

/-- the row of strings at a block -/
def Strs (w : World) (B : Nat) (n : Nat) (g : Nat → ByteArray) : Prop := ∀ j, j < n → w.cell? ⟨B, j, none⟩ = some (.string (g j)) ∧ w.frozen? ⟨B, j, none⟩ = false
theorem Strs.below {w w' : World} {B n : Nat} {g : Nat → ByteArray} (h : Strs w B n g) (hb : Below w.heap.size w w') : Strs w' B n g := fun j hj => by
  have hlt := World.block_lt_of_cell? w _ (h j hj).1
  exact ⟨(hb.cell hlt).trans (h j hj).1, (hb.frozen hlt).trans (h j hj).2⟩

theorem split_walk (s : ByteArray) (w : World) (hM : HasMax w) (hs : s.size < 4294967281) :
    Calls Tryz.prog 39 #[.string s, .string ⟨#[59]⟩] w fun e w' => ∃ fs : List ByteArray, fs.map (·.data.toList) = splitL 59 s.data.toList ∧
      e = .returned (.slice (some ⟨w.heap.size, 0, none⟩) fs.length fs.length) ∧ Below w.heap.size w w' ∧ w'.heap.size = w.heap.size + 1 ∧ Strs w' w.heap.size fs.length (fun j => fs.getD j ByteArray.empty) := by
  obtain ⟨m, hm⟩ := hM
  refine (Tryz.strings_Split s ⟨#[59]⟩ m w hs hm (by decide)).mono ?_
  rintro e w' ⟨rfl, rfl⟩
  have hl : (Lib.splitB ⟨#[59]⟩ 0 (Lib.countB s ⟨#[59]⟩) s).length = Lib.countB s ⟨#[59]⟩ + 1 := Lib.splitB_all _ (by decide) _ _ _ rfl
  refine ⟨_, splitB_splitL s 59, by rw [hl], (Below.refl _ _).alloc (Nat.le_refl _) _, by simp, fun j hj => ?_⟩
  generalize Lib.splitB ⟨#[59]⟩ 0 (Lib.countB s ⟨#[59]⟩) s = fs at *
  have ho : ∀ o, (w.alloc o).heap[w.heap.size]? = some o := fun o => by
    show (w.heap.push o)[w.heap.size]? = some o
    simp
  simp only [World.cell?, World.frozen?, ho]
  simp [hj, List.getD_eq_getElem?_getD]

theorem blanks_trim (s : ByteArray) (w : World) (hs : s.size ≤ 9223372036854775807) :
    Calls Tryz.prog 22 #[.string s, .string ⟨#[32, 9]⟩] w fun e w' => e = .returned (.string ⟨(trimB s.data.toList).toArray⟩) ∧ Below w.heap.size w w' :=
  trim_walk s ⟨#[32, 9]⟩ w hs (by decide) (ascii_of_all _ (by decide))

theorem must_any (b : Bool) (w : World) : Calls Tryz.prog 24 #[.bool b] w fun e w' => (match b with | true => e = .returned (.tuple #[]) | false => e = .panicked bad) ∧ w = w' := by
  cases b with
  | true => exact must_yes w
  | false => exact must_no w

/-- four cells at a block, that may be written -/
def Res (w : World) (B : Nat) : Prop := ∀ o, o < 4 → (∃ v, w.cell? ⟨B, o, none⟩ = some v) ∧ w.frozen? ⟨B, o, none⟩ = false
theorem Res.below {w w' : World} {B : Nat} (h : Res w B) (hb : Below w.heap.size w w') : Res w' B := fun o ho => by
  obtain ⟨⟨v, hv⟩, hf⟩ := h o ho
  have hlt := World.block_lt_of_cell? w _ hv
  exact ⟨⟨v, (hb.cell hlt).trans hv⟩, (hb.frozen hlt).trans hf⟩
def tB (x : ByteArray) : ByteArray := ⟨(trimB x.data.toList).toArray⟩
theorem tB_data (x : ByteArray) : (tB x).data.toList = trimB x.data.toList := by simp [tB]
/-- what a line's pieces are, some of them trimmed -/
def gk (fs : List ByteArray) (k j : Nat) : ByteArray := if j < k then tB (fs.getD j ByteArray.empty) else fs.getD j ByteArray.empty

theorem Strs.set {w : World} {B n k : Nat} {g g' : Nat → ByteArray} {t : ByteArray} (h : Strs w B n g) (hk : k < n) (hg : ∀ j, j ≠ k → j < n → g' j = g j) (ht : g' k = t) : Strs (w.setCell ⟨B, k, none⟩ (.string t)) B n g' := fun j hj => by
  rw [World.frozen?_setCell]
  refine ⟨?_, (h j hj).2⟩
  by_cases e : j = k
  · subst e
    rw [World.cell?_setCell_same w _ _ (h j hj).1, ht]
  · rw [World.cell?_setCell_other w _ _ _ (by intro h2; injection h2 with _ h2 _; exact e h2.symm), (h j hj).1, hg j e hj]
theorem Res.set {w : World} {B C k : Nat} {v : Value} (h : Res w B) (hne : B ≠ C) : Res (w.setCell ⟨C, k, none⟩ v) B := fun o ho => by
  obtain ⟨⟨u, hu⟩, hf⟩ := h o ho
  rw [World.frozen?_setCell, World.cell?_setCell_other w _ _ _ (by intro h2; injection h2 with h2 _ _; exact hne h2.symm)]
  exact ⟨⟨u, hu⟩, hf⟩
theorem entry_empty (s : ByteArray) (fs : List ByteArray) (h : fs.map (·.data.toList) = splitL 59 s.data.toList) (k : Nat) (hk : k < fs.length) (he : (tB (fs.getD k ByteArray.empty)).data.toList = []) : entryOf s.data.toList = none := by
  unfold entryOf
  rw [if_neg]
  rintro ⟨_, _, h3⟩
  refine h3 (trimB (fs.getD k ByteArray.empty).data.toList) ?_ (by rw [← tB_data]; exact he)
  rw [← h]
  refine List.mem_map.2 ⟨_, List.mem_map.2 ⟨_, ?_, rfl⟩, rfl⟩
  rw [List.getD_eq_getElem?_getD, List.getElem?_eq_getElem hk]
  exact List.getElem_mem hk

theorem span_some (s : ByteArray) (a b : Nat) (w : World) (hM : HasMax w) (hs : s.size < 4294967281) (h : spanOf s.data.toList = some (a, b)) :
    Calls Tryz.prog 40 #[.string s] w fun e w' => e = .returned (.tuple #[.int .i64 a, .int .i64 b]) ∧ Below w.heap.size w w' := by
  have := span_walk s w hM hs
  rw [h] at this
  exact this
theorem span_none (s : ByteArray) (w : World) (hM : HasMax w) (hs : s.size < 4294967281) (h : spanOf s.data.toList = none) :
    Calls Tryz.prog 40 #[.string s] w fun e w' => e = .panicked bad ∧ Below w.heap.size w w' := by
  have := span_walk s w hM hs
  rw [h] at this
  exact this
theorem right_true (a b : Int) (v x : ByteArray) (t : Bool) (w : World) (hv : v.size ≤ 9223372036854775807) (hx : x.size ≤ 9223372036854775807) (h : rightOk a b v.data.toList x.data.toList = t) :
    Calls Tryz.prog 9 #[.agg #[.int .i64 a, .int .i64 b, .string v, .string x]] w fun e w' => e = .returned (.bool t) ∧ Below w.heap.size w w' := by
  have := right_walk a b v x w hv hx
  rw [h] at this
  exact this

theorem Res.four {w : World} {B : Nat} (h : Res w B) : (∃ v, w.cell? ⟨B, 0, none⟩ = some v) ∧ (∃ v, w.cell? ⟨B, 1, none⟩ = some v) ∧ (∃ v, w.cell? ⟨B, 2, none⟩ = some v) ∧ (∃ v, w.cell? ⟨B, 3, none⟩ = some v) ∧
    w.frozen? ⟨B, 0, none⟩ = false ∧ w.frozen? ⟨B, 1, none⟩ = false ∧ w.frozen? ⟨B, 2, none⟩ = false ∧ w.frozen? ⟨B, 3, none⟩ = false :=
  ⟨(h 0 (by omega)).1, (h 1 (by omega)).1, (h 2 (by omega)).1, (h 3 (by omega)).1, (h 0 (by omega)).2, (h 1 (by omega)).2, (h 2 (by omega)).2, (h 3 (by omega)).2⟩

theorem piece_size (s : ByteArray) (fs : List ByteArray) (h : fs.map (·.data.toList) = splitL 59 s.data.toList) (k : Nat) (hk : k < fs.length) : (fs.getD k ByteArray.empty).size ≤ s.size := by
  rw [Lib.size_eq, Lib.size_eq s]
  refine splitL_le 59 _ _ ?_
  rw [← h]
  refine List.mem_map.2 ⟨_, ?_, rfl⟩
  rw [List.getD_eq_getElem?_getD, List.getElem?_eq_getElem hk]
  exact List.getElem_mem hk

theorem entry_few (l : List UInt8) (h : ¬ (2 ≤ (splitL 59 l).length ∧ (splitL 59 l).length ≤ 3)) : entryOf l = none := by
  unfold entryOf
  rw [if_neg]
  rintro ⟨h1, h2, _⟩
  exact h ⟨by simpa using h1, by simpa using h2⟩

def entE (l : List UInt8) (e : Ending) : Prop := match entryOf l with
  | some E => ∃ v x : ByteArray, v.data.toList = E.v ∧ x.data.toList = E.x ∧ e = .returned (entW E.a E.b v x)
  | none => e = .panicked bad
theorem entE_none {l : List UInt8} (h : entryOf l = none) : entE l (.panicked bad) := by unfold entE; rw [h]

set_option maxHeartbeats 1000000 in
set_option maxRecDepth 100000 in
theorem entry_walk_few (s : ByteArray) (w : World) (hM : HasMax w) (hs : s.size < 4294967281) (hn : ¬ (2 ≤ (splitL 59 s.data.toList).length ∧ (splitL 59 s.data.toList).length ≤ 3)) :
    Calls Tryz.prog 23 #[.string s] w fun e w' => entE s.data.toList e ∧ Below w.heap.size w w' := by
  have HM := Lib.hid hM
  have HR := Lib.hid (entE_none (entry_few _ hn))
  clear hM
  go_enter Tryz.func23, Tryz.ntmps23
  go_wp2_with fail
  refine (split_walk s _ (HM.out.alloc _) hs).mono ?_
  rintro e w1 ⟨fs, hfs, rfl, hb1, hz1, hS⟩
  have hlen : (splitL 59 s.data.toList).length = fs.length := by rw [← hfs, List.length_map]
  rw [hlen] at hn
  have HB := Lib.hid hb1
  clear hfs hlen hz1 hS hb1
  generalize fs.length = n at *
  by_cases h2 : 2 ≤ n
  · have h3 : 3 < n := by omega
    have h3' : decide ((n : Int) ≤ 3) = false := by simp; omega
    clear hn
    go_wp2_with (go_at_call 24; refine (must_no _).mono ?_; rintro e w2 ⟨rfl, rfl⟩)
    exact ⟨rfl, HR.out, ((Below.refl _ _).alloc (Nat.le_refl _) _).trans (HB.out.mono (by simp))⟩
  · have h3 : n < 2 := by omega
    clear hn
    go_wp2_with (go_at_call 24; refine (must_no _).mono ?_; rintro e w2 ⟨rfl, rfl⟩)
    exact ⟨rfl, HR.out, ((Below.refl _ _).alloc (Nat.le_refl _) _).trans (HB.out.mono (by simp))⟩

theorem Res.new (w : World) (v0 v1 v2 v3 : Value) (t : TypeId) : Res (w.alloc (Obj.cells #[v0, v1, v2, v3] t)) w.heap.size := by
  have ho : (w.alloc (Obj.cells #[v0, v1, v2, v3] t)).heap[w.heap.size]? = some (Obj.cells #[v0, v1, v2, v3] t) := by
    show (w.heap.push _)[w.heap.size]? = some _
    simp
  intro o h
  have : o = 0 ∨ o = 1 ∨ o = 2 ∨ o = 3 := by omega
  simp only [World.cell?, World.frozen?, ho]
  rcases this with rfl | rfl | rfl | rfl <;> simp

theorem entryOf_of (s : ByteArray) (fs : List ByteArray) (h : fs.map (·.data.toList) = splitL 59 s.data.toList) (t0 t1 : ByteArray) (h0 : t0 = tB (fs.getD 0 ByteArray.empty))
    (h1 : t1 = tB (fs.getD 1 ByteArray.empty)) (n2 : 2 ≤ fs.length) (n3 : fs.length ≤ 3) (hne : ∀ p ∈ fs, (tB p).data.toList ≠ []) :
    entryOf s.data.toList = (match spanOf t0.data.toList with
        | some (a, b) => if rightOk a b t1.data.toList (((fs.map tB).getD 2 ByteArray.empty).data.toList) = true then some ⟨a, b, t1.data.toList, ((fs.map tB).getD 2 ByteArray.empty).data.toList⟩ else none
        | none => none) := by
  have e : (splitL 59 s.data.toList).map trimB = (fs.map tB).map (·.data.toList) := by
    rw [← h, List.map_map, List.map_map]
    exact List.map_congr_left fun p _ => (tB_data p).symm
  have g : ∀ k, ((fs.map tB).map (·.data.toList)).getD k [] = ((fs.map tB).getD k ByteArray.empty).data.toList := fun k => by
    rw [List.getD_eq_getElem?_getD, List.getD_eq_getElem?_getD, List.getElem?_map]
    cases (fs.map tB)[k]? <;> rfl
  have g2 : ∀ k, k < fs.length → (fs.map tB).getD k ByteArray.empty = tB (fs.getD k ByteArray.empty) := fun k hk => by
    rw [List.getD_eq_getElem?_getD, List.getD_eq_getElem?_getD, List.getElem?_map, List.getElem?_eq_getElem hk]; rfl
  unfold entryOf
  rw [e]
  simp only [g]
  rw [g2 0 (by omega), g2 1 (by omega), ← h0, ← h1]
  have hc : 2 ≤ ((fs.map tB).map (·.data.toList)).length ∧ ((fs.map tB).map (·.data.toList)).length ≤ 3 ∧ ∀ p ∈ (fs.map tB).map (·.data.toList), p ≠ [] := by
    refine ⟨by simpa using n2, by simpa using n3, ?_⟩
    intro p hp
    obtain ⟨q, hq, rfl⟩ := List.mem_map.1 hp
    obtain ⟨r, hr, rfl⟩ := List.mem_map.1 hq
    exact hne r hr
  rw [if_pos hc]

def _root_.Go.World.put4 (w : World) (B : Nat) (v0 v1 v2 v3 : Value) : World :=
  (((w.setCell ⟨B, 0, none⟩ v0).setCell ⟨B, 1, none⟩ v1).setCell ⟨B, 2, none⟩ v2).setCell ⟨B, 3, none⟩ v3
theorem put4_cells {w : World} {B : Nat} (h : Res w B) (v0 v1 v2 v3 : Value) :
    (w.put4 B v0 v1 v2 v3).cell? ⟨B, 0, none⟩ = some v0 ∧ (w.put4 B v0 v1 v2 v3).cell? ⟨B, 1, none⟩ = some v1 ∧ (w.put4 B v0 v1 v2 v3).cell? ⟨B, 2, none⟩ = some v2 ∧ (w.put4 B v0 v1 v2 v3).cell? ⟨B, 3, none⟩ = some v3 := by
  have ne : ∀ {i j : Nat}, i ≠ j → (⟨B, i, none⟩ : Addr) ≠ ⟨B, j, none⟩ := fun h e => by injection e with _ e _; exact h e
  obtain ⟨⟨r0, g0⟩, ⟨r1, g1⟩, ⟨r2, g2⟩, ⟨r3, g3⟩, _⟩ := h.four
  have a0 : (w.setCell ⟨B, 0, none⟩ v0).cell? ⟨B, 0, none⟩ = some v0 := World.cell?_setCell_same w _ _ g0
  have a1 : (w.setCell ⟨B, 0, none⟩ v0).cell? ⟨B, 1, none⟩ = some r1 := (World.cell?_setCell_other w _ _ _ (ne (by decide))).trans g1
  have a2 : (w.setCell ⟨B, 0, none⟩ v0).cell? ⟨B, 2, none⟩ = some r2 := (World.cell?_setCell_other w _ _ _ (ne (by decide))).trans g2
  have a3 : (w.setCell ⟨B, 0, none⟩ v0).cell? ⟨B, 3, none⟩ = some r3 := (World.cell?_setCell_other w _ _ _ (ne (by decide))).trans g3
  unfold World.put4
  generalize w.setCell ⟨B, 0, none⟩ v0 = x at *
  have b0 := (World.cell?_setCell_other x ⟨B, 1, none⟩ ⟨B, 0, none⟩ v1 (ne (by decide))).trans a0
  have b1 := World.cell?_setCell_same x ⟨B, 1, none⟩ v1 a1
  have b2 := (World.cell?_setCell_other x ⟨B, 1, none⟩ ⟨B, 2, none⟩ v1 (ne (by decide))).trans a2
  have b3 := (World.cell?_setCell_other x ⟨B, 1, none⟩ ⟨B, 3, none⟩ v1 (ne (by decide))).trans a3
  generalize x.setCell ⟨B, 1, none⟩ v1 = y at *
  have c0 := (World.cell?_setCell_other y ⟨B, 2, none⟩ ⟨B, 0, none⟩ v2 (ne (by decide))).trans b0
  have c1 := (World.cell?_setCell_other y ⟨B, 2, none⟩ ⟨B, 1, none⟩ v2 (ne (by decide))).trans b1
  have c2 := World.cell?_setCell_same y ⟨B, 2, none⟩ v2 b2
  have c3 := (World.cell?_setCell_other y ⟨B, 2, none⟩ ⟨B, 3, none⟩ v2 (ne (by decide))).trans b3
  generalize y.setCell ⟨B, 2, none⟩ v2 = z at *
  exact ⟨(World.cell?_setCell_other z ⟨B, 3, none⟩ ⟨B, 0, none⟩ v3 (ne (by decide))).trans c0, (World.cell?_setCell_other z ⟨B, 3, none⟩ ⟨B, 1, none⟩ v3 (ne (by decide))).trans c1,
    (World.cell?_setCell_other z ⟨B, 3, none⟩ ⟨B, 2, none⟩ v3 (ne (by decide))).trans c2, World.cell?_setCell_same z ⟨B, 3, none⟩ v3 c3⟩

set_option maxHeartbeats 2000000 in
set_option maxRecDepth 100000 in
theorem entry_walk_most (s : ByteArray) (w : World) (hM : HasMax w) (hs : s.size < 4294967281) (hn : 2 ≤ (splitL 59 s.data.toList).length ∧ (splitL 59 s.data.toList).length ≤ 3) :
    Calls Tryz.prog 23 #[.string s] w fun e w' => entE s.data.toList e ∧ Below w.heap.size w w' := by
  have HM := Lib.hid hM
  clear hM
  go_enter Tryz.func23, Tryz.ntmps23
  go_wp2_with fail
  refine (split_walk s _ (HM.out.alloc _) hs).mono ?_
  rintro e w1 ⟨fs, hfs, rfl, hb1, hz1, hS⟩
  have hlen : (splitL 59 s.data.toList).length = fs.length := by rw [← hfs, List.length_map]
  rw [hlen] at hn
  obtain ⟨n2, n3⟩ := hn
  have HB : Hid (Below w.heap.size w w1) := Lib.hid (((Below.refl _ _).alloc (Nat.le_refl _) _).trans (hb1.mono (by simp)))
  have HZ : Hid (w1.heap.size = w.heap.size + 2) := Lib.hid (by rw [hz1]; simp)
  have HS : Hid (Strs w1 (w.heap.size + 1) fs.length (gk fs 0)) := Lib.hid (by
    have e : (w.alloc (Obj.cells #[Value.int IntKind.i64 0, Value.int IntKind.i64 0, Value.string ⟨#[]⟩, Value.string ⟨#[]⟩] 27)).heap.size = w.heap.size + 1 := by simp
    rw [e] at hS
    intro j hj
    have := hS j hj
    simpa [gk] using this)
  have HR : Hid (Res w1 w.heap.size) := Lib.hid ((Res.new w _ _ _ _ _).below hb1)
  have HF := Lib.hid hfs
  have HL := Lib.hid hlen
  have k2 : (2 : Int) ≤ (fs.length : Int) := by omega
  have k3 : (fs.length : Int) ≤ 3 := by omega
  clear hfs hlen hz1 hS hb1
  go_wp2_with (go_at_call 24; refine (must_yes _).mono ?_; rintro e w2 ⟨rfl, rfl⟩)
  go_loopw [21] (fun vi wr => ∃ k : Nat, vi = .int .i64 k ∧ k ≤ fs.length ∧ Hid (Below w.heap.size w wr ∧ w.heap.size + 2 ≤ wr.heap.size ∧ Strs wr (w.heap.size + 1) fs.length (gk fs k) ∧ Res wr w.heap.size ∧ ∀ j, j < k → (tB (fs.getD j ByteArray.empty)).data.toList ≠ [])) (fun vi _ => fs.length - (intOf vi).toNat)
  case atStart => exact ⟨0, rfl, by omega, Lib.hid ⟨HB.out, by rw [HZ.out]; omega, HS.out, HR.out, fun j hj => absurd hj (Nat.not_lt_zero j)⟩⟩
  case round =>
    rename_i wr _
    obtain ⟨k, rfl, hk, hh⟩ := hrel
    by_cases hkn : k < fs.length
    · have hsz0 := piece_size s fs HF.out k hkn
      have hc := (hh.out.2.2.1 k hkn).1
      have hf0 := (hh.out.2.2.1 k hkn).2
      have egk : gk fs k k = fs.getD k ByteArray.empty := by simp [gk]
      rw [egk] at hc
      have hB2 := hh.out.1
      have hq := Lib.hid hh.out
      obtain ⟨fk, hfk⟩ : ∃ fk, fk = fs.getD k ByteArray.empty := ⟨_, rfl⟩
      rw [← hfk] at hc hsz0 egk
      have hsz : fk.size ≤ 9223372036854775807 := by omega
      have HFK := Lib.hid hfk
      have HGK := Lib.hid egk
      clear hsz0 hh hf0 hfk egk
      go_wp2_with fail
      refine (blanks_trim fk _ hsz).mono ?_
      rintro e w2 ⟨rfl, hb2⟩
      have hS2 := Lib.hid (hq.out.2.2.1.below hb2)
      have hR2 := Lib.hid (hq.out.2.2.2.1.below hb2)
      have hBel := Lib.hid (hB2.trans (hb2.mono hB2.size))
      have hz2 := hb2.size
      have hc2 : w2.cell? ⟨w.heap.size + 1, k, none⟩ = some (.string fk) := by
        have := (hS2.out k hkn).1
        rw [HGK.out] at this
        exact this
      have hf2 : w2.frozen? ⟨w.heap.size + 1, k, none⟩ = false := (hS2.out k hkn).2
      obtain ⟨tk, htk⟩ : ∃ tk, tk = tB fk := ⟨_, rfl⟩
      have e2 : (⟨(trimB fk.data.toList).toArray⟩ : ByteArray) = tk := by rw [htk]; rfl
      rw [e2]
      have HTK := Lib.hid htk
      clear htk e2 hc hB2 hb2
      cases hem : tk.toList.isEmpty with
      | true =>
        have HE := Lib.hid hem
        go_wp2_with (go_at_call 24; refine (must_no _).mono ?_; rintro e w3 ⟨rfl, rfl⟩)
        have hemp : (tB (fs.getD k ByteArray.empty)).data.toList = [] := by
          rw [← HFK.out, ← HTK.out, ← ByteArray.toList_eq]
          simpa using HE.out
        exact ⟨rfl, entE_none (entry_empty s fs HF.out k hkn hemp), hBel.out.setCell (by simp) _⟩
      | false =>
        have HE := Lib.hid hem
        go_wp2_with (go_at_call 24; refine (must_yes _).mono ?_; rintro e w3 ⟨rfl, rfl⟩)
        go_roundw
        case rel =>
          have hq2 := hq.out.2.1
          refine ⟨k + 1, by go_num, by omega, Lib.hid ⟨hBel.out.setCell (by simp) _, by simp; omega, hS2.out.set hkn ?_ ?_, hR2.out.set (by omega), ?_⟩⟩
          · intro j hj _
            unfold gk
            by_cases h1 : j < k
            · rw [if_pos h1, if_pos (by omega)]
            · rw [if_neg h1, if_neg (by omega)]
          · unfold gk
            rw [if_pos (by omega), ← HFK.out, HTK.out]
          · intro j hj
            by_cases h1 : j = k
            · subst h1
              rw [← HFK.out, ← HTK.out, ← ByteArray.toList_eq]
              intro h2
              rw [h2] at hem
              exact Bool.noConfusion hem
            · exact hq.out.2.2.2.2 j (by omega)
        case measure => simp [intOf]; omega
    · have hkk : k = fs.length := by omega
      subst hkk
      have hq := Lib.hid hh.out
      have hB2 := hh.out.1
      obtain ⟨t0, ht0⟩ : ∃ t0, t0 = tB (fs.getD 0 ByteArray.empty) := ⟨_, rfl⟩
      obtain ⟨t1, ht1⟩ : ∃ t1, t1 = tB (fs.getD 1 ByteArray.empty) := ⟨_, rfl⟩
      have hc0 : wr.cell? ⟨w.heap.size + 1, 0, none⟩ = some (.string t0) := by
        rw [(hh.out.2.2.1 0 (by omega)).1, ht0]; unfold gk; rw [if_pos (by omega)]
      have hc1 : wr.cell? ⟨w.heap.size + 1, 1, none⟩ = some (.string t1) := by
        rw [(hh.out.2.2.1 1 (by omega)).1, ht1]; unfold gk; rw [if_pos (by omega)]
      have z0 : t0.size ≤ s.size := by
        rw [ht0, Lib.size_eq, tB_data]
        have := trimS_le (fs.getD 0 ByteArray.empty).data.toList [32, 9]
        have := piece_size s fs HF.out 0 (by omega)
        rw [Lib.size_eq] at this
        unfold trimB
        omega
      have z1 : t1.size ≤ 9223372036854775807 := by
        rw [ht1, Lib.size_eq, tB_data]
        have := trimS_le (fs.getD 1 ByteArray.empty).data.toList [32, 9]
        have := piece_size s fs HF.out 1 (by omega)
        rw [Lib.size_eq] at this
        unfold trimB
        omega
      have hent : entryOf s.data.toList = (match spanOf t0.data.toList with
        | some (a, b) => if rightOk a b t1.data.toList (((fs.map tB).getD 2 ByteArray.empty).data.toList) = true then some ⟨a, b, t1.data.toList, ((fs.map tB).getD 2 ByteArray.empty).data.toList⟩ else none
        | none => none) := entryOf_of s fs HF.out t0 t1 ht0 ht1 n2 n3 (fun p hp => by
          obtain ⟨j, hj, rfl⟩ := List.mem_iff_getElem.1 hp
          have := hq.out.2.2.2.2 j hj
          rwa [List.getD_eq_getElem?_getD, List.getElem?_eq_getElem hj] at this)
      have HE := Lib.hid hent
      clear hh ht0 ht1 hent
      have zs : t0.size < 4294967281 := by omega
      cases hsp : spanOf t0.data.toList with
      | none =>
        have HR2 : Hid (entryOf s.data.toList = none) := Lib.hid (by rw [HE.out, hsp])
        have HSP := Lib.hid hsp
        clear hsp z0 z1
        go_wp2_with (go_at_call 40; refine (span_none t0 _ (HM.out.below hB2) zs HSP.out).mono ?_; rintro e w3 ⟨rfl, hb3⟩)
        exact ⟨rfl, entE_none HR2.out, hB2.trans (hb3.mono hB2.size)⟩
      | some ab =>
        obtain ⟨a, b⟩ := ab
        have HSP := Lib.hid hsp
        clear hsp
        by_cases h3 : fs.length = 3
        · obtain ⟨t2, ht2⟩ : ∃ t2, t2 = tB (fs.getD 2 ByteArray.empty) := ⟨_, rfl⟩
          have ex : (fs.map tB).getD 2 ByteArray.empty = t2 := by
            rw [ht2, List.getD_eq_getElem?_getD, List.getD_eq_getElem?_getD, List.getElem?_map, List.getElem?_eq_getElem (by omega : 2 < fs.length)]; rfl
          have hc2 : wr.cell? ⟨w.heap.size + 1, 2, none⟩ = some (.string t2) := by
            rw [(hq.out.2.2.1 2 (by omega)).1, ht2]; unfold gk; rw [if_pos (by omega)]
          have z2 : t2.size ≤ 9223372036854775807 := by
            rw [ht2, Lib.size_eq, tB_data]
            have := trimS_le (fs.getD 2 ByteArray.empty).data.toList [32, 9]
            have := piece_size s fs HF.out 2 (by omega)
            rw [Lib.size_eq] at this
            unfold trimB
            omega
          have HE' : Hid (entryOf s.data.toList = if rightOk a b t1.data.toList t2.data.toList = true then some ⟨a, b, t1.data.toList, t2.data.toList⟩ else none) := Lib.hid (by rw [HE.out, HSP.out, ex])
          have hn2' : (2 : Int) < (fs.length : Int) := by omega
          clear ex h3 ht2
          cases hr : rightOk a b t1.data.toList t2.data.toList with
          | false =>
            have HRR := Lib.hid hr
            have HR2 : Hid (entryOf s.data.toList = none) := Lib.hid (by rw [HE'.out, hr]; rfl)
            clear hr
            go_wp2_with fail
            refine (span_some t0 a b _ (HM.out.below hB2) zs HSP.out).mono ?_
            rintro e w3 ⟨rfl, hb3⟩
            have hc1' : w3.cell? ⟨w.heap.size + 1, 1, none⟩ = some (.string t1) := (hb3.cell (World.block_lt_of_cell? wr _ hc1)).trans hc1
            have hc2' : w3.cell? ⟨w.heap.size + 1, 2, none⟩ = some (.string t2) := (hb3.cell (World.block_lt_of_cell? wr _ hc2)).trans hc2
            have hz4 : w.heap.size + 1 < w3.heap.size := Nat.lt_of_lt_of_le (Nat.lt_succ_self _) (Nat.le_trans hq.out.2.1 hb3.size)
            go_wp2_with fail
            refine (right_true a b t1 t2 false _ z1 z2 HRR.out).mono ?_
            rintro e w4 ⟨rfl, hb4⟩
            go_wp2_with (go_at_call 24; refine (must_no _).mono ?_; rintro e w5 ⟨rfl, rfl⟩)
            exact ⟨rfl, entE_none HR2.out, (hB2.trans (hb3.mono hB2.size)).trans ((((Below.refl _ _).alloc (Nat.le_refl _) _).trans (hb4.mono (by simp))).mono (Nat.le_trans hB2.size hb3.size))⟩
          | true =>
            have HRR := Lib.hid hr
            have HR2 : Hid (entryOf s.data.toList = some ⟨a, b, t1.data.toList, t2.data.toList⟩) := Lib.hid (by rw [HE'.out, hr]; rfl)
            clear hr
            go_wp2_with fail
            refine (span_some t0 a b _ (HM.out.below hB2) zs HSP.out).mono ?_
            rintro e w3 ⟨rfl, hb3⟩
            have hc1' : w3.cell? ⟨w.heap.size + 1, 1, none⟩ = some (.string t1) := (hb3.cell (World.block_lt_of_cell? wr _ hc1)).trans hc1
            have hc2' : w3.cell? ⟨w.heap.size + 1, 2, none⟩ = some (.string t2) := (hb3.cell (World.block_lt_of_cell? wr _ hc2)).trans hc2
            have hz4 : w.heap.size + 1 < w3.heap.size := Nat.lt_of_lt_of_le (Nat.lt_succ_self _) (Nat.le_trans hq.out.2.1 hb3.size)
            have hz3 : w.heap.size + 2 ≤ w3.heap.size := Nat.le_trans hq.out.2.1 hb3.size
            have HR3 := Lib.hid (hq.out.2.2.2.1.below hb3)
            go_wp2_with fail
            refine (right_true a b t1 t2 true _ z1 z2 HRR.out).mono ?_
            rintro e w4 ⟨rfl, hb4⟩
            have hbw : Below w3.heap.size w3 w4 := ((Below.refl _ _).alloc (Nat.le_refl _) _).trans (hb4.mono (by simp))
            have HBW := Lib.hid hbw
            obtain ⟨⟨r0, g0⟩, ⟨r1, g1⟩, ⟨r2, g2⟩, ⟨r3, g3⟩, f0, f1, f2, f3⟩ := (HR3.out.below hbw).four
            obtain ⟨hc, hf⟩ := bcell hb4
            clear hbw hb4
            go_wp2_with (go_at_call 24; refine (must_yes _).mono ?_; rintro e w5 ⟨rfl, rfl⟩)
            have hB5 : Below w.heap.size w (w4.put4 w.heap.size (.int .i64 a) (.int .i64 b) (.string t1) (.string t2)) :=
              (((((hB2.trans (hb3.mono hB2.size)).trans (HBW.out.mono (Nat.le_trans hB2.size hb3.size))).setCell (Nat.le_refl _) _).setCell (Nat.le_refl _) _).setCell (Nat.le_refl _) _).setCell (Nat.le_refl _) _
            have h4 := put4_cells (HR3.out.below HBW.out) (.int .i64 a) (.int .i64 b) (.string t1) (.string t2)
            change bodyPost _ _ _ _ _ (w4.put4 w.heap.size (.int .i64 a) (.int .i64 b) (.string t1) (.string t2))
            generalize w4.put4 w.heap.size (.int .i64 a) (.int .i64 b) (.string t1) (.string t2) = w5 at hB5 h4 ⊢
            obtain ⟨q0, q1, q2, q3⟩ := h4
            refine bodyPost_ret (v := entW a b t1 t2) (by simp [results, go_sem, entW, q0, q1, q2, q3]) rfl ⟨?_, hB5⟩
            unfold entE
            rw [HR2.out]
            exact ⟨t1, t2, rfl, rfl, rfl⟩
        · have h2 : fs.length = 2 := by omega
          have ex : (fs.map tB).getD 2 ByteArray.empty = ByteArray.empty := by
            rw [List.getD_eq_getElem?_getD, List.getElem?_eq_none (by simp; omega)]; rfl
          have HE' : Hid (entryOf s.data.toList = if rightOk a b t1.data.toList [] = true then some ⟨a, b, t1.data.toList, []⟩ else none) := Lib.hid (by rw [HE.out, HSP.out, ex]; rfl)
          have hn2 : decide ((fs.length : Int) > 2) = false := by simp; omega
          have hn2' : ¬ (2 : Int) < (fs.length : Int) := by omega
          clear ex h3 h2
          cases hr : rightOk a b t1.data.toList [] with
          | false =>
            have HRR := Lib.hid hr
            have HR2 : Hid (entryOf s.data.toList = none) := Lib.hid (by rw [HE'.out, hr]; rfl)
            clear hr
            go_wp2_with fail
            refine (span_some t0 a b _ (HM.out.below hB2) zs HSP.out).mono ?_
            rintro e w3 ⟨rfl, hb3⟩
            have hc1' : w3.cell? ⟨w.heap.size + 1, 1, none⟩ = some (.string t1) := (hb3.cell (World.block_lt_of_cell? wr _ hc1)).trans hc1
            go_wp2_with fail
            refine (right_true a b t1 ⟨#[]⟩ false _ z1 (by decide) HRR.out).mono ?_
            rintro e w4 ⟨rfl, hb4⟩
            go_wp2_with (go_at_call 24; refine (must_no _).mono ?_; rintro e w5 ⟨rfl, rfl⟩)
            exact ⟨rfl, entE_none HR2.out, (hB2.trans (hb3.mono hB2.size)).trans ((((Below.refl _ _).alloc (Nat.le_refl _) _).trans (hb4.mono (by simp))).mono (Nat.le_trans hB2.size hb3.size))⟩
          | true =>
            have HRR := Lib.hid hr
            have HR2 : Hid (entryOf s.data.toList = some ⟨a, b, t1.data.toList, []⟩) := Lib.hid (by rw [HE'.out, hr]; rfl)
            clear hr
            go_wp2_with fail
            refine (span_some t0 a b _ (HM.out.below hB2) zs HSP.out).mono ?_
            rintro e w3 ⟨rfl, hb3⟩
            have hc1' : w3.cell? ⟨w.heap.size + 1, 1, none⟩ = some (.string t1) := (hb3.cell (World.block_lt_of_cell? wr _ hc1)).trans hc1
            have hz3 : w.heap.size + 2 ≤ w3.heap.size := Nat.le_trans hq.out.2.1 hb3.size
            have HR3 := Lib.hid (hq.out.2.2.2.1.below hb3)
            go_wp2_with fail
            refine (right_true a b t1 ⟨#[]⟩ true _ z1 (by decide) HRR.out).mono ?_
            rintro e w4 ⟨rfl, hb4⟩
            have hbw : Below w3.heap.size w3 w4 := ((Below.refl _ _).alloc (Nat.le_refl _) _).trans (hb4.mono (by simp))
            have HBW := Lib.hid hbw
            obtain ⟨⟨r0, g0⟩, ⟨r1, g1⟩, ⟨r2, g2⟩, ⟨r3, g3⟩, f0, f1, f2, f3⟩ := (HR3.out.below hbw).four
            obtain ⟨hc, hf⟩ := bcell hb4
            clear hbw hb4
            go_wp2_with (go_at_call 24; refine (must_yes _).mono ?_; rintro e w5 ⟨rfl, rfl⟩)
            have hB5 : Below w.heap.size w (w4.put4 w.heap.size (.int .i64 a) (.int .i64 b) (.string t1) (.string ⟨#[]⟩)) :=
              (((((hB2.trans (hb3.mono hB2.size)).trans (HBW.out.mono (Nat.le_trans hB2.size hb3.size))).setCell (Nat.le_refl _) _).setCell (Nat.le_refl _) _).setCell (Nat.le_refl _) _).setCell (Nat.le_refl _) _
            have h4 := put4_cells (HR3.out.below HBW.out) (.int .i64 a) (.int .i64 b) (.string t1) (.string ⟨#[]⟩)
            change bodyPost _ _ _ _ _ (w4.put4 w.heap.size (.int .i64 a) (.int .i64 b) (.string t1) (.string ⟨#[]⟩))
            generalize w4.put4 w.heap.size (.int .i64 a) (.int .i64 b) (.string t1) (.string ⟨#[]⟩) = w5 at hB5 h4 ⊢
            obtain ⟨q0, q1, q2, q3⟩ := h4
            refine bodyPost_ret (v := entW a b t1 ⟨#[]⟩) (by simp [results, go_sem, entW, q0, q1, q2, q3]) rfl ⟨?_, hB5⟩
            unfold entE
            rw [HR2.out]
            exact ⟨t1, ⟨#[]⟩, rfl, rfl, rfl⟩
theorem entry_walk (s : ByteArray) (w : World) (hM : HasMax w) (hs : s.size < 4294967281) :
    Calls Tryz.prog 23 #[.string s] w fun e w' => entE s.data.toList e ∧ Below w.heap.size w w' :=
  (Decidable.em _).elim (entry_walk_most s w hM hs) (entry_walk_few s w hM hs)
end Go.Proofs.YtefjnpflpgilpaaGreatDoor
