/- The walk of ucd.Parse. Conditions: texts below 4294967281 bytes; the library's variable MaxLen holds an int. -/
import Derived.Test.YtefjnpflpgilpaaGreatDoorUcdJ
import Derived.Test.YtefjnpflpgilpaaGreatDoorUcdL
import Derived.Deep.Onto
namespace Go.Proofs.YtefjnpflpgilpaaGreatDoor
open Go.RowKit Go.Shelf
attribute [local go_sem] Oper.semAt_some

/-- the bytes of a slice -/
def BytesAt (w : World) (v : Value) (l : List UInt8) : Prop :=
  (v = .slice none 0 0 ∧ l = []) ∨ ∃ g o cap, v = .slice (some ⟨g, o, none⟩) l.length cap ∧ ∀ j (hj : j < l.length), w.cell? ((⟨g, o, none⟩ : Addr).add j) = some (.int .u8 (l[j].toNat : Int))
theorem addr_add (g o j : Nat) : (⟨g, o, none⟩ : Addr).add j = ⟨g, o + j, none⟩ := by unfold Addr.add; split <;> simp_all
theorem BytesAt.below {w w' : World} {v : Value} {l : List UInt8} (h : BytesAt w v l) (hb : Below w.heap.size w w') : BytesAt w' v l := by
  rcases h with h | ⟨g, o, cap, rfl, hc⟩
  · exact .inl h
  · refine .inr ⟨g, o, cap, rfl, fun j hj => ?_⟩
    have := hc j hj
    rw [addr_add] at this ⊢
    exact (hb.cell (World.block_lt_of_cell? w _ this)).trans this
theorem BytesAt.conv {w : World} {v : Value} {l : List UInt8} (h : BytesAt w v l) : (convert 28 9 v).run Tryz.prog w = .ok (.string (bL l)) w := by
  rcases h with ⟨rfl, rfl⟩ | ⟨g, o, cap, rfl, hc⟩
  · exact Lib.run_convert_nil_bytes w 28 9 5 0 (by kernel_rfl) (by kernel_rfl) (by kernel_rfl)
  · exact run_convert_bytes_back w 28 9 5 ⟨g, o, none⟩ cap l (by kernel_rfl) (by kernel_rfl) (by kernel_rfl) hc

/-- what Parse's own blocks hold between two rounds -/
structure PS (w0 : World) (L : Loop) (es : List Ent) (W : World) : Prop where
  row : ∃ v, W.cell? ⟨w0.heap.size, 0, none⟩ = some v ∧ W.ownsRow (w0.heap.size + 7) 27 4 v es.length (entsC es)
  fz : W.frozen? ⟨w0.heap.size, 0, none⟩ = false
  err : (∃ u, W.cell? ⟨w0.heap.size + 1, 0, none⟩ = some u) ∧ W.frozen? ⟨w0.heap.size + 1, 0, none⟩ = false
  bel : Below w0.heap.size w0 W
  blk : W.heap[w0.heap.size + 5]? = some (.deferred (some []))
  lp : W.heap[w0.heap.size + 6]? = some (.loop L)
  size : w0.heap.size + 7 ≤ W.heap.size
/-- what they hold behind a panic -/
structure PX (w0 : World) (W : World) : Prop where
  own : (∃ u, W.cell? ⟨w0.heap.size, 0, none⟩ = some u) ∧ W.frozen? ⟨w0.heap.size, 0, none⟩ = false
  err : (∃ u, W.cell? ⟨w0.heap.size + 1, 0, none⟩ = some u) ∧ W.frozen? ⟨w0.heap.size + 1, 0, none⟩ = false
  bel : Below w0.heap.size w0 W
  blk : W.heap[w0.heap.size + 5]? = some (.deferred (some []))

theorem Kept3.refl (B : Nat) (w : World) : Kept3 B w w := fun _ _ => ⟨rfl, rfl⟩
theorem Kept3.trans {B : Nat} {w w' w'' : World} (h : Kept3 B w w') (h' : Kept3 B w' w'') : Kept3 B w w'' := fun i hi => ⟨(h' i hi).1.trans (h i hi).1, (h' i hi).2.trans (h i hi).2⟩
theorem Kept3.below {B : Nat} {w w' : World} (hB : B + 3 ≤ w.heap.size) (h : Below w.heap.size w w') : Kept3 B w w' := fun i hi =>
  ⟨h.cell (p := ⟨B + i, 0, none⟩) (by show B + i < _; omega), h.frozen (p := ⟨B + i, 0, none⟩) (by show B + i < _; omega)⟩
theorem Kept3.set {B C : Nat} (w : World) (v : Value) (hC : ∀ i, i < 3 → C ≠ B + i) : Kept3 B w (w.setCell ⟨C, 0, none⟩ v) := fun i hi =>
  ⟨World.cell?_setCell_other w _ _ _ (fun e => hC i hi (by injection e)), World.frozen?_setCell w _ _ _⟩
theorem cell_put (w : World) (r : Nat) (o : Obj) (b : Nat) (h : b ≠ r) : (w.putObj r o).cell? ⟨b, 0, none⟩ = w.cell? ⟨b, 0, none⟩ :=
  World.cell?_of_block (World.putObj_heap_other h)
theorem frozen_put (w : World) (r : Nat) (o : Obj) (b : Nat) (h : b ≠ r) : (w.putObj r o).frozen? ⟨b, 0, none⟩ = w.frozen? ⟨b, 0, none⟩ :=
  World.frozen?_of_block (World.putObj_heap_other h)
theorem Kept3.put {B r : Nat} (w : World) (o : Obj) (hC : ∀ i, i < 3 → B + i ≠ r) : Kept3 B w (w.putObj r o) := fun i hi => ⟨cell_put w r o _ (hC i hi), frozen_put w r o _ (hC i hi)⟩

theorem below_put {m r : Nat} (w : World) (o : Obj) (h : m ≤ r) : Below m w (w.putObj r o) :=
  ⟨rfl, rfl, rfl, by simp, fun k hk => World.putObj_heap_other (by omega)⟩

theorem PS.put {w0 W : World} {L : Loop} {es : List Ent} (h : PS w0 L es W) (L' : Loop) : PS w0 L' es (W.putObj (w0.heap.size + 6) (.loop L')) := by
  obtain ⟨⟨v, hc, hr⟩, hf, ⟨⟨u, hu⟩, hg⟩, hb, hk, hl, hs⟩ := h
  refine ⟨⟨v, (cell_put _ _ _ _ (by omega)).trans hc, hr.kept (row := some (w0.heap.size + 6)) ⟨rfl, rfl, rfl, by simp, fun k _ hne => World.putObj_heap_other (fun e => hne (by rw [e]))⟩ ?_⟩,
    (frozen_put _ _ _ _ (by omega)).trans hf, ⟨⟨u, (cell_put _ _ _ _ (by omega)).trans hu⟩, (frozen_put _ _ _ _ (by omega)).trans hg⟩, hb.trans (below_put _ _ (by omega)),
    (World.putObj_heap_other (by omega)).trans hk, World.putObj_heap_same (by omega), by simpa using hs⟩
  right
  intro e
  have := (hr.lt _ e).1
  omega
theorem PS.below {w0 W W' : World} {L : Loop} {es : List Ent} (h : PS w0 L es W) (hb' : Below W.heap.size W W') : PS w0 L es W' := by
  obtain ⟨⟨v, hc, hr⟩, hf, ⟨⟨u, hu⟩, hg⟩, hb, hk, hl, hs⟩ := h
  have hg' : W.grownBy W' none := ⟨hb'.os, hb'.tape, hb'.output, hb'.size, fun k hk _ => hb'.block k hk⟩
  refine ⟨⟨v, (hb'.cell (p := ⟨_, 0, none⟩) (by show w0.heap.size < _; omega)).trans hc, hr.kept hg' (by cases v.ownBlock <;> simp)⟩, (hb'.frozen (p := ⟨_, 0, none⟩) (by show w0.heap.size < _; omega)).trans hf,
    ⟨⟨u, (hb'.cell (p := ⟨_, 0, none⟩) (by show w0.heap.size + 1 < _; omega)).trans hu⟩, (hb'.frozen (p := ⟨_, 0, none⟩) (by show w0.heap.size + 1 < _; omega)).trans hg⟩,
    hb.trans (hb'.mono (by omega)), (hb'.block _ (by omega)).trans hk, (hb'.block _ (by omega)).trans hl, Nat.le_trans hs hb'.size⟩
theorem PS.boxed {w0 W : World} {L : Loop} {es : List Ent} (h : PS w0 L es W) (t : ByteArray) : PS w0 L es (W.setCell ⟨w0.heap.size + 2, 0, none⟩ (.string t)) := by
  obtain ⟨⟨v, hc, hr⟩, hf, ⟨⟨u, hu⟩, hg⟩, hb, hk, hl, hs⟩ := h
  have hblk : ∀ k, k ≠ w0.heap.size + 2 → (W.setCell ⟨w0.heap.size + 2, 0, none⟩ (.string t)).heap[k]? = W.heap[k]? := fun k hk => heap_setCell_other W _ k _ hk
  have hsz : (W.setCell ⟨w0.heap.size + 2, 0, none⟩ (.string t)).heap.size = W.heap.size := by simp
  refine ⟨⟨v, (World.cell?_of_block (hblk _ (by show w0.heap.size ≠ _; omega))).trans hc, hr.kept (row := some (w0.heap.size + 2)) ⟨rfl, rfl, rfl, by simp, fun k _ hne => hblk k (fun e => hne (by rw [e]))⟩ ?_⟩,
    (World.frozen?_of_block (hblk _ (by show w0.heap.size ≠ _; omega))).trans hf, ⟨⟨u, (World.cell?_of_block (hblk _ (by show w0.heap.size + 1 ≠ _; omega))).trans hu⟩, (World.frozen?_of_block (hblk _ (by show w0.heap.size + 1 ≠ _; omega))).trans hg⟩,
    hb.setCell (by show w0.heap.size ≤ w0.heap.size + 2; omega) _, (hblk _ (by omega)).trans hk, (hblk _ (by omega)).trans hl, by rw [hsz]; exact hs⟩
  right
  intro e
  have := (hr.lt _ e).1
  omega
theorem PS.stop {w0 W : World} {L : Loop} {es : List Ent} (h : PS w0 L es W) : PX w0 W :=
  ⟨let ⟨v, hc, _⟩ := h.row; ⟨⟨v, hc⟩, h.fz⟩, h.err, h.bel, h.blk⟩
theorem round_go {P : Program} {w0 W : World} {L : Loop} {es : List Ent} (h : PS w0 { L with state := .busy } es W) (hs : L.state = .ready) (hp : L.pending = none) :
    (Instr.endRound (w0.heap.size + 6) none).run P W = .ok (.bool true) (W.putObj (w0.heap.size + 6) (.loop L)) := by
  rw [run_endRound none h.lp]
  cases L
  simp only at hs hp
  subst hs
  subst hp
  rfl
theorem splitSeq_at (s p : ByteArray) (w : World) (B : Nat) (h : w.heap.size = B + 2) :
    Calls Tryz.prog 20 #[.string s, .string p] w fun e w' => e = .returned (.func (.func 52) #[] #[.pointer (some ⟨B + 3, 0, none⟩), .pointer (some ⟨B + 2, 0, none⟩), .pointer (some ⟨B + 4, 0, none⟩)]) ∧
      Below w.heap.size w w' ∧ w'.heap.size = B + 5 ∧ w'.cell? ⟨B + 2, 0, none⟩ = some (.string s) ∧ w'.cell? ⟨B + 3, 0, none⟩ = some (.string p) ∧ w'.cell? ⟨B + 4, 0, none⟩ = some (.int .i64 0) ∧ w'.frozen? ⟨B + 2, 0, none⟩ = false := by
  refine (splitSeq1_walk s p w).mono ?_
  rintro e w' ⟨rfl, rfl⟩
  rw [h]
  refine ⟨rfl, (((Below.refl _ w).alloc (by omega) _).alloc (by simp; omega) _).alloc (by simp; omega) _, by simp; omega, ?_, ?_, ?_, ?_⟩
  · simp [go_sem, h]
  · simp [go_sem, h]
  · simp [go_sem, h]
  · simp [go_sem, h]
theorem entry_info : (Tryz.prog.info? 27).map (fun i => (i.zero, i.size, i.bytes)) = some (some (.agg #[.int .i64 0, .int .i64 0, .string ⟨#[]⟩, .string ⟨#[]⟩]), 4, 48) := by kernel_rfl
theorem append_entry (base : Nat) (v : Value) (es : List Ent) (E : Ent) (w : World) (hown : w.ownsRow base 27 4 v es.length (entsC es)) (hb : base ≤ w.heap.size) (hn : es.length ≤ 100000) :
    ∃ v' w', (Builtin.append_ #[22, 22] 22 #[v, .slice (some ⟨w.heap.size, 0, none⟩) 1 1]).run Tryz.prog (w.alloc (.cells #[.int .i64 E.a, .int .i64 E.b, .string (bL E.v), .string (bL E.x)] 27)) = .ok v' w' ∧
      w'.ownsRow base 27 4 v' (es ++ [E]).length (entsC (es ++ [E])) ∧ w.grownBy w' v.ownBlock := by
  obtain ⟨i0, hi, hz0, hz1, hz2⟩ := info_parts entry_info
  have hc : ∀ j u, (entC E)[j]? = some u → (w.alloc (.cells #[.int .i64 E.a, .int .i64 E.b, .string (bL E.v), .string (bL E.x)] 27)).cell? ((⟨w.heap.size, 0, none⟩ : Addr).add j) = some u := by
    intro j u hu
    rw [addr_add, Nat.zero_add, World.cell?_alloc_new]
    simpa [entC] using hu
  obtain ⟨v', w', h1, h2, h3, _⟩ := run_append_own (P := Tryz.prog) (w.alloc (.cells #[.int .i64 E.a, .int .i64 E.b, .string (bL E.v), .string (bL E.x)] 27)) base 22 22 27 i0 _ 4 48 (by kernel_rfl) hi hz0 hz1 hz2 rfl (by decide)
    v es.length (entsC es) (hown.alloc _) ⟨w.heap.size, 0, none⟩ 1 1 (entC E) rfl hc (by
      intro u hu
      simp only [entC, List.mem_cons, List.not_mem_nil, or_false] at hu
      rcases hu with rfl | rfl | rfl | rfl <;> rfl) (by simp only [maxLen]; omega) (by omega) (by simp; omega)
  refine ⟨v', w', h1, ?_, ?_⟩
  · rw [List.length_append, List.length_singleton]
    have : entsC (es ++ [E]) = entsC es ++ entC E := by simp [entsC]
    rw [this]
    exact h2
  · exact ⟨h3.os, h3.tape, h3.output, by have := h3.size; simp at this; omega, fun k hk hne => (h3.block k (by simp; omega) hne).trans (heap_alloc_old w _ hk)⟩

theorem wpIn_append1 {F : Fence} {n : Nat} {P : Program} {o : Oper} {a : Act} {w w' : World} {next : Act → World → Prop} {Q : Exit → Act → World → Prop} {v x' v' : Value} (s x : Operand) (t : TypeId)
    (hop : o.op = Op.call { callee := Callee.builtin Builtin.append, args := #[s, x], argTypes := #[t, t] }) (hs : a.eval s = v) (hx : a.eval x = x')
    (hrun : (Builtin.append_ #[t, t] o.type #[v, x']).run P w = .ok v' w') (h : next (a.put o.dst v') w') : o.wpIn F n P a w next Q := by
  unfold Oper.wpIn
  refine ⟨?_, ?_⟩
  · simp [Oper.about, hop, resolve, Target.leads, Sem.run_pure]
  · rw [Oper.semAt_plain F _ _ (by rw [hop]; intro c hc'; cases hc')]
    simp [execOp, hop, resolve, invoke, builtin, hs, hx, hrun, Result.andThen]
    exact h

theorem PS.append {w0 W W3 : World} {L : Loop} {es : List Ent} {v : Value} (h : PS w0 L es W) (E : Ent) (hn : es.length ≤ 100000) (hc : W.cell? ⟨w0.heap.size, 0, none⟩ = some v) (hr : W.ownsRow (w0.heap.size + 7) 27 4 v es.length (entsC es)) (hb : Below W.heap.size W W3) :
    ∃ v' w5, (Builtin.append_ #[22, 22] 22 #[v, .slice (some ⟨W3.heap.size, 0, none⟩) 1 1]).run Tryz.prog (W3.alloc (.cells #[.int .i64 E.a, .int .i64 E.b, .string (bL E.v), .string (bL E.x)] 27)) = .ok v' w5 ∧
      w0.heap.size < W3.heap.size ∧ W3.cell? ⟨w0.heap.size, 0, none⟩ = some v ∧ w5.cell? ⟨w0.heap.size, 0, none⟩ = some v ∧ w5.frozen? ⟨w0.heap.size, 0, none⟩ = false ∧
      (∃ cap, ∃ g, v' = .slice (some ⟨g, 0, none⟩) (es.length + 1 : Nat) cap) ∧ PS w0 L (es ++ [E]) (w5.setCell ⟨w0.heap.size, 0, none⟩ v') ∧ Kept3 (w0.heap.size + 2) W (w5.setCell ⟨w0.heap.size, 0, none⟩ v') := by
  have hsz := h.size
  have hsz3 := hb.size
  have h3 := h.below hb
  have hg3 : W.grownBy W3 none := ⟨hb.os, hb.tape, hb.output, hb.size, fun k hk _ => hb.block k hk⟩
  have hr3 : W3.ownsRow (w0.heap.size + 7) 27 4 v es.length (entsC es) := hr.kept hg3 (by cases v.ownBlock <;> simp)
  have hc3 : W3.cell? ⟨w0.heap.size, 0, none⟩ = some v := (hb.cell (p := ⟨_, 0, none⟩) (by show w0.heap.size < _; omega)).trans hc
  obtain ⟨v', w5, hrun, hown, hgr⟩ := append_entry (w0.heap.size + 7) v es E W3 hr3 (by omega) hn
  have hlow : ∀ k, k < w0.heap.size + 7 → w5.heap[k]? = W3.heap[k]? := fun k hk => hgr.block k (by omega) (fun e => by have := (hr3.lt k e.symm).1; omega)
  have hsz5 := hgr.size
  have hset : ∀ k, k ≠ w0.heap.size → (w5.setCell ⟨w0.heap.size, 0, none⟩ v').heap[k]? = w5.heap[k]? := fun k hk => heap_setCell_other w5 _ k _ hk
  have hc5 : w5.cell? ⟨w0.heap.size, 0, none⟩ = some v := (World.cell?_of_block (hlow _ (by show w0.heap.size < _; omega))).trans hc3
  have hf5 : w5.frozen? ⟨w0.heap.size, 0, none⟩ = false := (World.frozen?_of_block (hlow _ (by show w0.heap.size < _; omega))).trans h3.fz
  refine ⟨v', w5, hrun, by omega, hc3, hc5, hf5, ?_, ?_, ?_⟩
  · rcases hown.2 with ⟨_, h0⟩ | ⟨g, cap, _, rfl, _⟩
    · simp at h0
    · exact ⟨cap, g, by simp⟩
  · obtain ⟨⟨u, hu⟩, hg⟩ := h3.err
    refine ⟨⟨v', World.cell?_setCell_same w5 _ _ hc5, hown.kept (row := some w0.heap.size) ⟨rfl, rfl, rfl, by simp, fun k _ hne => hset k (fun e => hne (by rw [e]))⟩ ?_⟩, (World.frozen?_setCell _ _ _ _).trans hf5,
      ⟨⟨u, (World.cell?_of_block ((hset _ (by show w0.heap.size + 1 ≠ _; omega)).trans (hlow _ (by show w0.heap.size + 1 < _; omega)))).trans hu⟩, (World.frozen?_of_block ((hset _ (by show w0.heap.size + 1 ≠ _; omega)).trans (hlow _ (by show w0.heap.size + 1 < _; omega)))).trans hg⟩,
      ?_, ((hset _ (by omega)).trans (hlow _ (by omega))).trans h3.blk, ((hset _ (by omega)).trans (hlow _ (by omega))).trans h3.lp, by simp; omega⟩
    · right
      intro e
      have := (hown.lt _ e).1
      omega
    · refine Below.setCell (Below.trans h3.bel ⟨hgr.os, hgr.tape, hgr.output, hgr.size, fun k hk => hlow k (by omega)⟩) (Nat.le_refl _) _
  · intro i hi
    have hk : ∀ i, i < 3 → (w5.setCell ⟨w0.heap.size, 0, none⟩ v').heap[w0.heap.size + 2 + i]? = W.heap[w0.heap.size + 2 + i]? := fun i hi =>
      ((hset _ (by omega)).trans (hlow _ (by omega))).trans (hb.block _ (by omega))
    exact ⟨World.cell?_of_block (hk i hi), World.frozen?_of_block (hk i hi)⟩

theorem round_over {P : Program} {w0 W : World} {L : Loop} {es : List Ent} (h : PS w0 L es W) (hs : L.state = .ready) (hp : L.pending = none) :
    ∃ W4, (Instr.endLoop (w0.heap.size + 6)).run P W = .ok none W4 ∧ PS w0 { L with state := .exhausted } es W4 :=
  ⟨_, by rw [run_endLoop h.lp (by rw [hs]; simp)]; exact congrArg (fun p => Result.ok p _) hp, h.put _⟩

/-- what Parse hands back -/
def PE (w : World) (l : List UInt8) (e : Ending) (w' : World) : Prop := match parseL l with
  | none => e = .returned (.tuple #[.slice none 0 0, .int .i64 21])
  | some es => ∃ v, e = .returned (.tuple #[v, .int .i64 0]) ∧ w'.ownsRow w.heap.size 27 4 v es.length (entsC es)

set_option maxRecDepth 100000 in
theorem leave_ok {w0 W : World} {es : List Ent} {ad : Option Addr} {sn sc : Nat} {u : Value} {tmps : Array Value} {n : Nat} {R : Ending → World → Prop} (hb : Below w0.heap.size w0 W) (hk : W.heap[w0.heap.size + 5]? = some (.deferred (some [])))
    (hr : W.ownsRow (w0.heap.size + 7) 27 4 (.slice ad sn sc) es.length (entsC es)) (hc : W.cell? ⟨w0.heap.size, 0, none⟩ = some (.slice ad sn sc)) (hu : W.cell? ⟨w0.heap.size + 1, 0, none⟩ = some u)
    (hs : w0.heap.size + 7 ≤ W.heap.size) (h2 : tmps[2]?.getD undef = .pointer (some ⟨w0.heap.size, 0, none⟩)) (h3 : tmps[3]?.getD undef = .pointer (some ⟨w0.heap.size + 1, 0, none⟩))
    (hR : ∀ w', Below w0.heap.size w0 w' → w'.ownsRow w0.heap.size 27 4 (.slice ad sn sc) es.length (entsC es) → R (.returned (.tuple #[.slice ad sn sc, .int .i64 0])) w') :
    LeavesInM Fence.wide n Tryz.prog Tryz.f13 tmps R [{ target := .collected (w0.heap.size + 5), args := #[] }, { target := .fn (.func 19) #[.pointer (some ⟨w0.heap.size, 0, none⟩), .pointer (some ⟨w0.heap.size + 1, 0, none⟩)], args := #[] }]
      .returning ((W.setCell ⟨w0.heap.size, 0, none⟩ (.slice ad sn sc)).setCell ⟨w0.heap.size + 1, 0, none⟩ (.int .i64 0)) := by
  have ne : (⟨w0.heap.size, 0, none⟩ : Addr) ≠ ⟨w0.heap.size + 1, 0, none⟩ := by intro e; injection e; omega
  have hc1 := World.cell?_setCell_same W ⟨w0.heap.size, 0, none⟩ (.slice ad sn sc) hc
  have hu1 := (World.cell?_setCell_other W ⟨w0.heap.size, 0, none⟩ ⟨w0.heap.size + 1, 0, none⟩ (.slice ad sn sc) ne).trans hu
  have hb1 := hb.setCell (p := ⟨w0.heap.size, 0, none⟩) (Nat.le_refl _) (.slice ad sn sc)
  have hr1 : (W.setCell ⟨w0.heap.size, 0, none⟩ (.slice ad sn sc)).ownsRow (w0.heap.size + 7) 27 4 (.slice ad sn sc) es.length (entsC es) :=
    hr.kept (row := some w0.heap.size) ⟨rfl, rfl, rfl, by simp, fun k _ hne => heap_setCell_other W _ k _ (fun e => hne (by rw [e]))⟩ (.inr (fun e => by have := (hr.lt _ e).1; omega))
  have hk1 : (W.setCell ⟨w0.heap.size, 0, none⟩ (.slice ad sn sc)).heap[w0.heap.size + 5]? = some (.deferred (some [])) := (heap_setCell_other W _ _ _ (by show w0.heap.size + 5 ≠ w0.heap.size; omega)).trans hk
  have hs1 : w0.heap.size + 7 ≤ (W.setCell ⟨w0.heap.size, 0, none⟩ (.slice ad sn sc)).heap.size := by simpa using hs
  generalize W.setCell ⟨w0.heap.size, 0, none⟩ (.slice ad sn sc) = X at *
  have hc2 := (World.cell?_setCell_other X ⟨w0.heap.size + 1, 0, none⟩ ⟨w0.heap.size, 0, none⟩ (.int .i64 0) ne.symm).trans hc1
  have hu2 := World.cell?_setCell_same X ⟨w0.heap.size + 1, 0, none⟩ (.int .i64 0) hu1
  have hb2 := hb1.setCell (p := ⟨w0.heap.size + 1, 0, none⟩) (by show w0.heap.size ≤ w0.heap.size + 1; omega) (.int .i64 0)
  have hr2 : (X.setCell ⟨w0.heap.size + 1, 0, none⟩ (.int .i64 0)).ownsRow (w0.heap.size + 7) 27 4 (.slice ad sn sc) es.length (entsC es) :=
    hr1.kept (row := some (w0.heap.size + 1)) ⟨rfl, rfl, rfl, by simp, fun k _ hne => heap_setCell_other X _ k _ (fun e => hne (by rw [e]))⟩ (.inr (fun e => by have := (hr1.lt _ e).1; omega))
  have hk2 : (X.setCell ⟨w0.heap.size + 1, 0, none⟩ (.int .i64 0)).heap[w0.heap.size + 5]? = some (.deferred (some [])) := (heap_setCell_other X _ _ _ (by show w0.heap.size + 5 ≠ w0.heap.size + 1; omega)).trans hk1
  have hs2 : w0.heap.size + 7 ≤ (X.setCell ⟨w0.heap.size + 1, 0, none⟩ (.int .i64 0)).heap.size := by simpa using hs1
  generalize X.setCell ⟨w0.heap.size + 1, 0, none⟩ (.int .i64 0) = Y at *
  refine ⟨by simp, .inl ⟨_, _, rfl, run_takeDeferred hk2, ?_⟩⟩
  have hc3 := (cell_put Y (w0.heap.size + 5) (.deferred none) w0.heap.size (by omega)).trans hc2
  have hu3 := (cell_put Y (w0.heap.size + 5) (.deferred none) (w0.heap.size + 1) (by omega)).trans hu2
  have hb3 := hb2.trans (below_put Y (.deferred none) (show w0.heap.size ≤ w0.heap.size + 5 by omega))
  have hr3 : (Y.putObj (w0.heap.size + 5) (.deferred none)).ownsRow w0.heap.size 27 4 (.slice ad sn sc) es.length (entsC es) := by
    refine World.ownsRow.mono (hr2.kept (row := some (w0.heap.size + 5)) ⟨rfl, rfl, rfl, by simp, fun k _ hne => World.putObj_heap_other (fun e => hne (by rw [e]))⟩ (.inr (fun e => by have := (hr2.lt _ e).1; omega))) (by omega)
  generalize Y.putObj (w0.heap.size + 5) (.deferred none) = Z at *
  refine ⟨by simp, .inr ⟨by simp [Fence.wide], _, _, _, _, rfl, rfl, fun _ _ => trivial, ?_⟩⟩
  refine (idle_walk ⟨w0.heap.size, 0, none⟩ ⟨w0.heap.size + 1, 0, none⟩ Z).mono ?_
  rintro e u' w' ⟨rfl, rfl, rfl⟩
  refine ⟨.tuple #[.slice ad sn sc, .int .i64 0], ?_, hR _ hb3 hr3⟩
  simp only [results]
  simp [go_sem, Tryz.results13, h2, h3, hc3, hu3]

set_option maxRecDepth 100000 in
theorem leave_bad {w0 W : World} {tmps : Array Value} {n : Nat} {R : Ending → World → Prop} (hX : PX w0 W) (h2 : tmps[2]?.getD undef = .pointer (some ⟨w0.heap.size, 0, none⟩)) (h3 : tmps[3]?.getD undef = .pointer (some ⟨w0.heap.size + 1, 0, none⟩))
    (hR : ∀ w', Below w0.heap.size w0 w' → R (.returned (.tuple #[.slice none 0 0, .int .i64 21])) w') :
    LeavesInM Fence.wide n Tryz.prog Tryz.f13 tmps R [{ target := .collected (w0.heap.size + 5), args := #[] }, { target := .fn (.func 19) #[.pointer (some ⟨w0.heap.size, 0, none⟩), .pointer (some ⟨w0.heap.size + 1, 0, none⟩)], args := #[] }]
      (.panicking bad) W := by
  obtain ⟨⟨⟨v, hv⟩, hf⟩, ⟨⟨u, hu⟩, hg⟩, hb, hk⟩ := hX
  have ne : (⟨w0.heap.size, 0, none⟩ : Addr) ≠ ⟨w0.heap.size + 1, 0, none⟩ := by intro e; injection e; omega
  refine ⟨by simp, .inl ⟨_, _, rfl, run_takeDeferred hk, ?_⟩⟩
  have hv1 := (cell_put W (w0.heap.size + 5) (.deferred none) w0.heap.size (by omega)).trans hv
  have hf1 := (frozen_put W (w0.heap.size + 5) (.deferred none) w0.heap.size (by omega)).trans hf
  have hu1 := (cell_put W (w0.heap.size + 5) (.deferred none) (w0.heap.size + 1) (by omega)).trans hu
  have hg1 := (frozen_put W (w0.heap.size + 5) (.deferred none) (w0.heap.size + 1) (by omega)).trans hg
  have hb1 := hb.trans (below_put W (.deferred none) (show w0.heap.size ≤ w0.heap.size + 5 by omega))
  generalize W.putObj (w0.heap.size + 5) (.deferred none) = Z at *
  refine ⟨by simp, .inr ⟨by simp [Fence.wide], _, _, _, _, rfl, rfl, fun _ _ => trivial, ?_⟩⟩
  refine (rescue_walk ⟨w0.heap.size, 0, none⟩ ⟨w0.heap.size + 1, 0, none⟩ [] 29 (.int .i64 21) Z v u hv1 hf1 hu1 hg1 ne).mono ?_
  rintro e u' w' ⟨rfl, rfl, rfl⟩
  have hc1 := World.cell?_setCell_same Z ⟨w0.heap.size, 0, none⟩ (.slice none 0 0) hv1
  have hu2 := (World.cell?_setCell_other Z ⟨w0.heap.size, 0, none⟩ ⟨w0.heap.size + 1, 0, none⟩ (.slice none 0 0) ne).trans hu1
  have hb2 := hb1.setCell (p := ⟨w0.heap.size, 0, none⟩) (Nat.le_refl _) (.slice none 0 0)
  generalize Z.setCell ⟨w0.heap.size, 0, none⟩ (.slice none 0 0) = X at *
  have hc2 := (World.cell?_setCell_other X ⟨w0.heap.size + 1, 0, none⟩ ⟨w0.heap.size, 0, none⟩ (.int .i64 21) ne.symm).trans hc1
  have hu3 := World.cell?_setCell_same X ⟨w0.heap.size + 1, 0, none⟩ (.int .i64 21) hu2
  have hb3 := hb2.setCell (p := ⟨w0.heap.size + 1, 0, none⟩) (by show w0.heap.size ≤ w0.heap.size + 1; omega) (.int .i64 21)
  generalize X.setCell ⟨w0.heap.size + 1, 0, none⟩ (.int .i64 21) = Y at *
  refine ⟨.tuple #[.slice none 0 0, .int .i64 21], ?_, hR _ hb3⟩
  simp only [results]
  simp [go_sem, Tryz.results13, h2, h3, hc2, hu3]

set_option maxHeartbeats 2000000 in
set_option maxRecDepth 100000 in
theorem parse_walk (bv : Value) (l : List UInt8) (w : World) (hM : HasMax w) (hl : l.length < 4294967281) (hv : BytesAt w bv l) :
    Calls Tryz.prog 13 #[bv] w fun e w' => Below w.heap.size w w' ∧ PE w l e w' := by
  have HM := Lib.hid hM
  have hmf : ∀ (fn : Fn) (first cap : Array Value) (w : World), (Instr.makeFunc fn first cap).run Tryz.prog w = .ok (.func fn first cap) w := fun _ _ _ _ => rfl
  have hconv := (hv.below (((Below.refl w.heap.size w).alloc (Nat.le_refl _) (.cells #[.slice none 0 0] 22)).alloc (by simp) (.cells #[.int .i64 0] 29))).conv
  refine calls_of_wpAt (n := 8) Tryz.func13 rfl ?_
  simp only [Tryz.ntmps13, List.size_toArray, List.length_cons, List.length_nil, Nat.reduceAdd, Nat.reduceSub, Array.replicate_succ, Array.replicate_zero, List.push_toArray, List.append_toArray, List.nil_append, List.cons_append]
  apply wpAt_seq
  refine wpAt_of_wpIn (n := 8) ?_
  gi_wp2
  apply wpAt_seq
  refine wpAt_of_wpIn (n := 8) ?_
  gi_wp2
  apply wpAt_seq
  apply wpAt_seq
  refine wpAt_of_wpIn (n := 8) ?_
  gi_wp2_with (refine ⟨trivial, ?_⟩; gi_at_call 20; refine (callsIn_wide.2 (splitSeq_at (bL l) ⟨#[10]⟩ _ w.heap.size (by simp))).mono ?_; rintro e w1 ⟨rfl, hb1, hz1, d2, d3, d4, g2⟩)
  have hW1 : Below w.heap.size w w1 := (((Below.refl w.heap.size w).alloc (Nat.le_refl _) _).alloc (by simp) _).trans (hb1.mono (by simp; omega))
  have d0 : w1.cell? ⟨w.heap.size, 0, none⟩ = some (.slice none 0 0) := (hb1.cell (p := ⟨w.heap.size, 0, none⟩) (by simp; omega)).trans (by simp [go_sem])
  have g0 : w1.frozen? ⟨w.heap.size, 0, none⟩ = false := (hb1.frozen (p := ⟨w.heap.size, 0, none⟩) (by simp; omega)).trans (by simp [go_sem])
  have d1 : w1.cell? ⟨w.heap.size + 1, 0, none⟩ = some (.int .i64 0) := (hb1.cell (p := ⟨w.heap.size + 1, 0, none⟩) (by simp)).trans (by simp [go_sem])
  have g1 : w1.frozen? ⟨w.heap.size + 1, 0, none⟩ = false := (hb1.frozen (p := ⟨w.heap.size + 1, 0, none⟩) (by simp)).trans (by simp [go_sem])
  refine wpAt_block ?_
  refine wpAt_range (n := 8) (w.heap.size + 5) (w.heap.size + 6)
    { target := .fn (.func 52) #[.pointer (some ⟨w.heap.size + 3, 0, none⟩), .pointer (some ⟨w.heap.size + 2, 0, none⟩), .pointer (some ⟨w.heap.size + 4, 0, none⟩)], args := #[.func (.yield (w.heap.size + 6)) #[] #[]] } 52
    #[.func (.yield (w.heap.size + 6)) #[] #[], .pointer (some ⟨w.heap.size + 3, 0, none⟩), .pointer (some ⟨w.heap.size + 2, 0, none⟩), .pointer (some ⟨w.heap.size + 4, 0, none⟩)] hz1 rfl ?r1 ?r2 ?call
  case r1 =>
    intro W
    simp [resolve, go_sem]
  case r2 => exact fun _ => rfl
  intro L hL
  have hLs : L.state = .ready := by rw [hL]
  have hLp : L.pending = none := by rw [hL]
  have hLa : L.params.size = 1 := by rw [hL]; rfl
  have HL := Lib.hid hL
  clear hL
  refine (seq_walk 8 (w.heap.size + 6) (w.heap.size + 2) (by omega) (bL l) (by rw [bL_size]; exact hl) (fun pre W => ∃ es, foldE pre = some es ∧ PS w L es W) (fun chain W => chain = bad ∧ parseL l = none ∧ PX w W) ?hJ ?hY _ ?h0 ?c0 ?c1 ?c2 ?f0).mono ?post
  case hJ =>
    rintro pre W t ⟨es, h1, h2⟩
    exact ⟨es, h1, h2.boxed t⟩
  case h0 =>
    refine ⟨[], rfl, ⟨.slice none 0 0, by simp [go_sem, hz1, d0], World.ownsRow_nil _ _ _ _⟩, by simp [go_sem, hz1, g0], ⟨⟨.int .i64 0, by simp [go_sem, hz1, d1]⟩, by simp [go_sem, hz1, g1]⟩,
      (hW1.alloc (by omega) _).alloc (by simp; omega) _, ?_, ?_, by simp; omega⟩
    · show ((w1.heap.push _).push _)[w.heap.size + 5]? = _
      rw [Array.getElem?_push, if_neg (by simp; omega), Array.getElem?_push, if_pos (by simp [hz1])]
    · show ((w1.heap.push _).push _)[w.heap.size + 6]? = _
      rw [Array.getElem?_push, if_pos (by simp [hz1])]
  case c0 => simp [go_sem, hz1, d2]
  case c1 => simp [go_sem, hz1, d3]
  case c2 => simp [go_sem, hz1, d4]
  case f0 => simp [go_sem, hz1, g2]
  case hY =>
    rintro pre x post W ⟨es, hes, hP⟩ hsp hxs
    have hy := run_yield (P := Tryz.prog) (args := #[.string x]) hP.lp hLa.symm
    have hf : L.fn = 13 := by rw [HL.out]
    rw [hf] at hy
    obtain ⟨R, hR⟩ : ∃ R : Ending → World → Prop, R = fun e W' => (e = .returned (.bool true) ∧ (∃ es, foldE (pre ++ [x.data.toList]) = some es ∧ PS w L es W') ∧ Kept3 (w.heap.size + 2) W W') ∨
        ∃ chain, e = .panicked chain ∧ chain = bad ∧ parseL l = none ∧ PX w W' := ⟨_, rfl⟩
    refine ⟨_, _, _, _, hy, RoundIn.mono (R := R) (roundIn_of_wpIn_panics trivial Tryz.func13 ?_) (fun e W' h => by rw [hR] at h; exact h)⟩
    have HR := Lib.hid hR
    clear hR
    rw [HL.out]
    dsimp only
    have hbr := run_beginRound (P := Tryz.prog) hP.lp hLs
    have hP1 := hP.put { L with state := .busy }
    have hK1 : Kept3 (w.heap.size + 2) W (W.putObj (w.heap.size + 6) (.loop { L with state := .busy })) := Kept3.put _ _ (fun i hi => by omega)
    have hz : (W.putObj (w.heap.size + 6) (.loop { L with state := .busy })).heap.size = W.heap.size := World.putObj_size
    obtain ⟨W1, hW1'⟩ : ∃ W1, W1 = W.putObj (w.heap.size + 6) (.loop { L with state := .busy }) := ⟨_, rfl⟩
    rw [← hW1'] at hbr hP1 hK1 hz
    have HP := Lib.hid hP1
    have HK := Lib.hid hK1
    obtain ⟨cx, hcx⟩ : ∃ cx, cx = bL (x.data.toList.takeWhile (· != 35)) := ⟨_, rfl⟩
    obtain ⟨tx, htx⟩ : ∃ tx, tx = tB cx := ⟨_, rfl⟩
    have hlo : lineOf x.data.toList = tx.data.toList := by rw [htx, hcx, tB_data, bL_data]; rfl
    have hcut : Lib.cut x.data.toList (⟨#[35]⟩ : ByteArray).data.toList = (cx.data.toList, (bL (Lib.cut x.data.toList [35]).2.1).data.toList, (Lib.cut x.data.toList [35]).2.2) := by
      rw [hcx, bL_data, bL_data, ← cut_before]
    have scx : cx.size ≤ x.size := by
      rw [hcx, bL_size, Lib.size_eq x]
      exact (List.takeWhile_prefix _).length_le
    have hlx : x.size < 4294967281 := by
      rw [bL_size] at hxs
      omega
    obtain ⟨y2, hy2⟩ : ∃ y2, y2 = bL (Lib.cut x.data.toList [35]).2.1 := ⟨_, rfl⟩
    obtain ⟨b2, hb2⟩ : ∃ b2, b2 = (Lib.cut x.data.toList [35]).2.2 := ⟨_, rfl⟩
    rw [← hy2, ← hb2] at hcut
    have HC := Lib.hid hcut
    have HLO := Lib.hid hlo
    have HTX := Lib.hid htx
    have hM1 : Hid (HasMax W1) := Lib.hid (HM.out.below hP1.bel)
    have hs1 := hP1.size
    have scx' : cx.size ≤ 9223372036854775807 := by omega
    have stx : tx.size < 4294967281 := by
      rw [htx, Lib.size_eq, tB_data]
      have := trimS_le cx.data.toList [32, 9]
      rw [← Lib.size_eq] at this
      unfold trimB
      omega
    have HLs := Lib.hid hLs
    have HLp := Lib.hid hLp
    have HW := Lib.hid hW1'
    clear hlo hcut hy2 hb2 htx hcx hP1 hK1 hy hW1' hLs hLp hLa hf
    cases hem : tx.toList.isEmpty with
    | true =>
      gi_wp2_with (first
        | (refine ⟨trivial, ?_⟩; gi_at_call 21; refine (CallsIn.inRound (w.heap.size + 6) (callsIn_wide.2 (cut_walk x _ cx y2 b2 W1 hM1.out hlx HC.out))).mono ?_; rintro e w2 ⟨rfl, m, rfl⟩)
        | (refine ⟨trivial, ?_⟩; gi_at_call 22; refine (CallsIn.inRound (w.heap.size + 6) (callsIn_wide.2 (blanks_trim cx _ scx'))).mono ?_; rintro e w2 ⟨rfl, hb3⟩; rw [show (⟨(trimB cx.data.toList).toArray⟩ : ByteArray) = tx from HTX.out.symm]))
      have hnil : lineOf x.data.toList = [] := by
        rw [HLO.out, ← ByteArray.toList_eq]
        simpa using hem
      have hW3 : Below W1.heap.size W1 w2 := (below_drewN' W1 m).trans hb3
      have hP3 := HP.out.below hW3
      refine ⟨_, _, round_go hP3 HLs.out HLp.out, ?_⟩
      rw [HR.out]
      refine .inl ⟨rfl, ⟨es, by rw [foldE_snoc, hes]; exact stepE_skip es _ hnil, hP3.put L⟩, (HK.out.trans (Kept3.below (by omega) hW3)).trans (Kept3.put _ _ (fun i hi => by omega))⟩
    | false =>
      have hne : Hid (lineOf x.data.toList ≠ []) := Lib.hid (by
        rw [HLO.out, ← ByteArray.toList_eq]
        intro h
        rw [h] at hem
        exact Bool.noConfusion hem)
      have HFS := Lib.hid hes
      have HSP := Lib.hid hsp
      have hmix : Tryz.prog.follows .mixedOrders = true := by kernel_rfl
      gi_wp2_with (first
        | (refine ⟨trivial, ?_⟩; gi_at_call 21; refine (CallsIn.inRound (w.heap.size + 6) (callsIn_wide.2 (cut_walk x _ cx y2 b2 W1 hM1.out hlx HC.out))).mono ?_; rintro e w2 ⟨rfl, m, rfl⟩)
        | (refine ⟨trivial, ?_⟩; gi_at_call 22; refine (CallsIn.inRound (w.heap.size + 6) (callsIn_wide.2 (blanks_trim cx _ scx'))).mono ?_; rintro e w2 ⟨rfl, hb3⟩; rw [show (⟨(trimB cx.data.toList).toArray⟩ : ByteArray) = tx from HTX.out.symm]))
      have hW3 : Below W1.heap.size W1 w2 := (below_drewN' W1 m).trans hb3
      have HP3 := Lib.hid (HP.out.below hW3)
      have HK3 := Lib.hid (HK.out.trans (Kept3.below (by omega) hW3))
      obtain ⟨v, hcv, hrow⟩ := HP3.out.row
      have hfv := HP3.out.fz
      have hM2 : Hid (HasMax w2.drew) := Lib.hid (show HasMax w2 from hM1.out.below hW3)
      have HROW := Lib.hid hrow
      clear hb3 hW3 hrow hes hsp
      cases hen : entryOf tx.data.toList with
      | none =>
        have HEN := Lib.hid hen
        clear hen
        have hpl : parseL l = none := by
          have h1 := HSP.out
          rw [bL_data] at h1
          unfold parseL
          rw [h1]
          refine foldE_stop pre _ post ?_
          rw [foldE_snoc, HFS.out]
          refine stepE_bad es _ hne.out ?_
          rw [HLO.out]
          exact HEN.out
        have hpx : ∀ (tmps : Array Value) (w3 : World), Below w2.drew.heap.size w2.drew w3 → roundPostP Tryz.prog (w.heap.size + 6) R (.panic bad) { tmps := tmps, defers := [] } w3 := fun tmps w3 hb4 =>
          ⟨rfl, by rw [HR.out]; exact .inr ⟨bad, rfl, rfl, hpl, (HP3.out.below ((below_drewN' w2 1).trans hb4)).stop⟩⟩
        have HPX := Lib.hid hpx
        clear hpl hpx
        refine wpIn_region_any hmix ?_
        change wpAnyIn _ _ _ _ _ _ _ _ _ (World.drew _)
        refine wpAnyIn_ready (rs := [0, 1]) (by kernel_rfl) (by simp) (AllReadyIn.cons rfl (fun K hK => ?_) (AllReadyIn.cons rfl (fun K hK => ?_) AllReadyIn.nil))
        · go_simp
          refine hK _ _ ?_
          clear hK K
          refine wpAnyIn_ready (rs := [1]) (by kernel_rfl) (by simp) (AllReadyIn.cons rfl (fun K hK => ?_) AllReadyIn.nil)
          go_simp
          refine hK _ _ ?_
          clear hK K
          refine wpAnyIn_ready (rs := [2]) (by kernel_rfl) (by simp) (AllReadyIn.cons rfl (fun K hK => ?_) AllReadyIn.nil)
          go_simp
          gi_wp2_with (refine ⟨trivial, ?_⟩; gi_at_call 23; refine (CallsIn.inRound (w.heap.size + 6) (callsIn_wide.2 (entry_none tx _ hM2.out stx HEN.out))).mono ?_; rintro e w3 ⟨rfl, hb4⟩)
          exact HPX.out _ _ hb4
        · go_simp
          refine hK _ _ ?_
          clear hK K
          refine wpAnyIn_ready (rs := [0, 2]) (by kernel_rfl) (by simp) (AllReadyIn.cons rfl (fun K hK => ?_) (AllReadyIn.cons rfl (fun K hK => ?_) AllReadyIn.nil))
          · go_simp
            refine hK _ _ ?_
            clear hK K
            refine wpAnyIn_ready (rs := [2]) (by kernel_rfl) (by simp) (AllReadyIn.cons rfl (fun K hK => ?_) AllReadyIn.nil)
            go_simp
            gi_wp2_with (refine ⟨trivial, ?_⟩; gi_at_call 23; refine (CallsIn.inRound (w.heap.size + 6) (callsIn_wide.2 (entry_none tx _ hM2.out stx HEN.out))).mono ?_; rintro e w3 ⟨rfl, hb4⟩)
            exact HPX.out _ _ hb4
          · go_simp
            gi_wp2_with (refine ⟨trivial, ?_⟩; gi_at_call 23; refine (CallsIn.inRound (w.heap.size + 6) (callsIn_wide.2 (entry_none tx _ hM2.out stx HEN.out))).mono ?_; rintro e w3 ⟨rfl, hb4⟩)
            exact HPX.out _ _ hb4
      | some E =>
        have HEN := Lib.hid hen
        clear hen
        have hle := foldE_le pre es HFS.out
        have happ : Hid (∀ w3, Below w2.drew.heap.size w2.drew w3 → ∃ v' w5, (Builtin.append_ #[22, 22] 22 #[v, .slice (some ⟨w3.heap.size, 0, none⟩) 1 1]).run Tryz.prog (w3.alloc (.cells #[.int .i64 E.a, .int .i64 E.b, .string (bL E.v), .string (bL E.x)] 27)) = .ok v' w5 ∧
            w.heap.size < w3.heap.size ∧ w3.cell? ⟨w.heap.size, 0, none⟩ = some v ∧ w5.cell? ⟨w.heap.size, 0, none⟩ = some v ∧ w5.frozen? ⟨w.heap.size, 0, none⟩ = false ∧
            (∃ cap, ∃ g, v' = .slice (some ⟨g, 0, none⟩) (es.length + 1 : Nat) cap) ∧
            PS w { L with state := .busy } (es ++ [E]) (w5.setCell ⟨w.heap.size, 0, none⟩ v') ∧ Kept3 (w.heap.size + 2) W (w5.setCell ⟨w.heap.size, 0, none⟩ v')) := Lib.hid (fun w3 hb4 => by
          have hb5 : Below w2.heap.size w2 w3 := (below_drewN' w2 1).trans hb4
          obtain ⟨v', w5, h1, h2, h3, h4, h5, h6, h7, h8⟩ := PS.append HP3.out E (by omega) hcv HROW.out hb5
          exact ⟨v', w5, h1, h2, h3, h4, h5, h6, h7, HK3.out.trans h8⟩)
        by_cases hfull : es.length + 1 ≤ 600
        · have hcast : ((es.length + 1 : Nat) : Int) ≤ 600 := by omega
          have hcast' : (es.length : Int) + 1 ≤ 600 := by omega
          have HST : Hid (foldE (pre ++ [x.data.toList]) = some (es ++ [E])) := Lib.hid (by rw [foldE_snoc, HFS.out]; exact stepE_add es _ E hne.out (by rw [HLO.out]; exact HEN.out) hfull)
          clear hfull hle
          refine wpIn_region_any hmix ?_
          change wpAnyIn _ _ _ _ _ _ _ _ _ (World.drew _)
          refine wpAnyIn_ready (rs := [0, 1]) (by kernel_rfl) (by simp) (AllReadyIn.cons rfl (fun K hK => ?_) (AllReadyIn.cons rfl (fun K hK => ?_) (AllReadyIn.nil)))
          · go_simp
            refine hK _ _ ?_
            clear hK K
            refine wpAnyIn_ready (rs := [1]) (by kernel_rfl) (by simp) (AllReadyIn.cons rfl (fun K hK => ?_) (AllReadyIn.nil))
            go_simp
            refine hK _ _ ?_
            clear hK K
            refine wpAnyIn_ready (rs := [2]) (by kernel_rfl) (by simp) (AllReadyIn.cons rfl (fun K hK => ?_) (AllReadyIn.nil))
            go_simp
            gi_wp2_with (refine ⟨trivial, ?_⟩; gi_at_call 23; refine (CallsIn.inRound (w.heap.size + 6) (callsIn_wide.2 (entry_some tx E _ hM2.out stx HEN.out))).mono ?_; rintro e w3 ⟨rfl, hb4⟩; obtain ⟨v', w5, hrun, hlt3, hc3, hc5, hf5, ⟨cap, g, rfl⟩, hP5, hK5⟩ := happ.out w3 hb4)
            try (refine hK _ _ ?_)
            try clear hK K
            refine wpAnyIn_ready (rs := [3]) (by kernel_rfl) (by simp) (AllReadyIn.cons rfl (fun K hK => ?_) (AllReadyIn.nil))
            go_simp
            refine hK _ _ ?_
            clear hK K
            refine wpAnyIn_ready (rs := [4]) (by kernel_rfl) (by simp) (AllReadyIn.cons rfl (fun K hK => ?_) (AllReadyIn.nil))
            refine wpIn_append1 _ _ 22 rfl rfl rfl hrun ?_
            refine hK _ _ ?_
            clear hK K
            refine wpAnyIn_ready (rs := [5]) (by kernel_rfl) (by simp) (AllReadyIn.cons rfl (fun K hK => ?_) (AllReadyIn.nil))
            go_simp
            refine hK _ _ ?_
            clear hK K
            refine wpAnyIn_done (by kernel_rfl) ?_ _
            gi_wp2_with (refine ⟨trivial, ?_⟩; gi_at_call 24; refine (CallsIn.inRound (w.heap.size + 6) (callsIn_wide.2 (must_yes _))).mono ?_; rintro e w6 ⟨rfl, hw6⟩; obtain rfl := hw6.symm)
            exact ⟨_, _, round_go hP5 HLs.out HLp.out, by rw [HR.out]; exact .inl ⟨rfl, ⟨es ++ [E], HST.out, hP5.put L⟩, hK5.trans (Kept3.put _ _ (fun i hi => by omega))⟩⟩
          · go_simp
            refine hK _ _ ?_
            clear hK K
            refine wpAnyIn_ready (rs := [0, 2]) (by kernel_rfl) (by simp) (AllReadyIn.cons rfl (fun K hK => ?_) (AllReadyIn.cons rfl (fun K hK => ?_) (AllReadyIn.nil)))
            · go_simp
              refine hK _ _ ?_
              clear hK K
              refine wpAnyIn_ready (rs := [2]) (by kernel_rfl) (by simp) (AllReadyIn.cons rfl (fun K hK => ?_) (AllReadyIn.nil))
              go_simp
              gi_wp2_with (refine ⟨trivial, ?_⟩; gi_at_call 23; refine (CallsIn.inRound (w.heap.size + 6) (callsIn_wide.2 (entry_some tx E _ hM2.out stx HEN.out))).mono ?_; rintro e w3 ⟨rfl, hb4⟩; obtain ⟨v', w5, hrun, hlt3, hc3, hc5, hf5, ⟨cap, g, rfl⟩, hP5, hK5⟩ := happ.out w3 hb4)
              try (refine hK _ _ ?_)
              try clear hK K
              refine wpAnyIn_ready (rs := [3]) (by kernel_rfl) (by simp) (AllReadyIn.cons rfl (fun K hK => ?_) (AllReadyIn.nil))
              go_simp
              refine hK _ _ ?_
              clear hK K
              refine wpAnyIn_ready (rs := [4]) (by kernel_rfl) (by simp) (AllReadyIn.cons rfl (fun K hK => ?_) (AllReadyIn.nil))
              refine wpIn_append1 _ _ 22 rfl rfl rfl hrun ?_
              refine hK _ _ ?_
              clear hK K
              refine wpAnyIn_ready (rs := [5]) (by kernel_rfl) (by simp) (AllReadyIn.cons rfl (fun K hK => ?_) (AllReadyIn.nil))
              go_simp
              refine hK _ _ ?_
              clear hK K
              refine wpAnyIn_done (by kernel_rfl) ?_ _
              gi_wp2_with (refine ⟨trivial, ?_⟩; gi_at_call 24; refine (CallsIn.inRound (w.heap.size + 6) (callsIn_wide.2 (must_yes _))).mono ?_; rintro e w6 ⟨rfl, hw6⟩; obtain rfl := hw6.symm)
              exact ⟨_, _, round_go hP5 HLs.out HLp.out, by rw [HR.out]; exact .inl ⟨rfl, ⟨es ++ [E], HST.out, hP5.put L⟩, hK5.trans (Kept3.put _ _ (fun i hi => by omega))⟩⟩
            · go_simp
              gi_wp2_with (refine ⟨trivial, ?_⟩; gi_at_call 23; refine (CallsIn.inRound (w.heap.size + 6) (callsIn_wide.2 (entry_some tx E _ hM2.out stx HEN.out))).mono ?_; rintro e w3 ⟨rfl, hb4⟩; obtain ⟨v', w5, hrun, hlt3, hc3, hc5, hf5, ⟨cap, g, rfl⟩, hP5, hK5⟩ := happ.out w3 hb4)
              try (refine hK _ _ ?_)
              try clear hK K
              refine wpAnyIn_ready (rs := [0, 3]) (by kernel_rfl) (by simp) (AllReadyIn.cons rfl (fun K hK => ?_) (AllReadyIn.cons rfl (fun K hK => ?_) (AllReadyIn.nil)))
              · go_simp
                refine hK _ _ ?_
                clear hK K
                refine wpAnyIn_ready (rs := [3]) (by kernel_rfl) (by simp) (AllReadyIn.cons rfl (fun K hK => ?_) (AllReadyIn.nil))
                go_simp
                refine hK _ _ ?_
                clear hK K
                refine wpAnyIn_ready (rs := [4]) (by kernel_rfl) (by simp) (AllReadyIn.cons rfl (fun K hK => ?_) (AllReadyIn.nil))
                refine wpIn_append1 _ _ 22 rfl rfl rfl hrun ?_
                refine hK _ _ ?_
                clear hK K
                refine wpAnyIn_ready (rs := [5]) (by kernel_rfl) (by simp) (AllReadyIn.cons rfl (fun K hK => ?_) (AllReadyIn.nil))
                go_simp
                refine hK _ _ ?_
                clear hK K
                refine wpAnyIn_done (by kernel_rfl) ?_ _
                gi_wp2_with (refine ⟨trivial, ?_⟩; gi_at_call 24; refine (CallsIn.inRound (w.heap.size + 6) (callsIn_wide.2 (must_yes _))).mono ?_; rintro e w6 ⟨rfl, hw6⟩; obtain rfl := hw6.symm)
                exact ⟨_, _, round_go hP5 HLs.out HLp.out, by rw [HR.out]; exact .inl ⟨rfl, ⟨es ++ [E], HST.out, hP5.put L⟩, hK5.trans (Kept3.put _ _ (fun i hi => by omega))⟩⟩
              · go_simp
                refine hK _ _ ?_
                clear hK K
                refine wpAnyIn_ready (rs := [0]) (by kernel_rfl) (by simp) (AllReadyIn.cons rfl (fun K hK => ?_) (AllReadyIn.nil))
                go_simp
                refine hK _ _ ?_
                clear hK K
                refine wpAnyIn_ready (rs := [4]) (by kernel_rfl) (by simp) (AllReadyIn.cons rfl (fun K hK => ?_) (AllReadyIn.nil))
                refine wpIn_append1 _ _ 22 rfl rfl rfl hrun ?_
                refine hK _ _ ?_
                clear hK K
                refine wpAnyIn_ready (rs := [5]) (by kernel_rfl) (by simp) (AllReadyIn.cons rfl (fun K hK => ?_) (AllReadyIn.nil))
                go_simp
                refine hK _ _ ?_
                clear hK K
                refine wpAnyIn_done (by kernel_rfl) ?_ _
                gi_wp2_with (refine ⟨trivial, ?_⟩; gi_at_call 24; refine (CallsIn.inRound (w.heap.size + 6) (callsIn_wide.2 (must_yes _))).mono ?_; rintro e w6 ⟨rfl, hw6⟩; obtain rfl := hw6.symm)
                exact ⟨_, _, round_go hP5 HLs.out HLp.out, by rw [HR.out]; exact .inl ⟨rfl, ⟨es ++ [E], HST.out, hP5.put L⟩, hK5.trans (Kept3.put _ _ (fun i hi => by omega))⟩⟩
        · have hcast : (600 : Int) < ((es.length + 1 : Nat) : Int) := by omega
          have hcast' : decide ((es.length : Int) + 1 ≤ 600) = false := by simp; omega
          have HST : Hid (parseL l = none) := Lib.hid (by
            have h1 := HSP.out
            rw [bL_data] at h1
            unfold parseL
            rw [h1]
            refine foldE_stop pre _ post ?_
            rw [foldE_snoc, HFS.out]
            exact stepE_full es _ E hne.out (by rw [HLO.out]; exact HEN.out) hfull)
          clear hfull hle
          refine wpIn_region_any hmix ?_
          change wpAnyIn _ _ _ _ _ _ _ _ _ (World.drew _)
          refine wpAnyIn_ready (rs := [0, 1]) (by kernel_rfl) (by simp) (AllReadyIn.cons rfl (fun K hK => ?_) (AllReadyIn.cons rfl (fun K hK => ?_) (AllReadyIn.nil)))
          · go_simp
            refine hK _ _ ?_
            clear hK K
            refine wpAnyIn_ready (rs := [1]) (by kernel_rfl) (by simp) (AllReadyIn.cons rfl (fun K hK => ?_) (AllReadyIn.nil))
            go_simp
            refine hK _ _ ?_
            clear hK K
            refine wpAnyIn_ready (rs := [2]) (by kernel_rfl) (by simp) (AllReadyIn.cons rfl (fun K hK => ?_) (AllReadyIn.nil))
            go_simp
            gi_wp2_with (refine ⟨trivial, ?_⟩; gi_at_call 23; refine (CallsIn.inRound (w.heap.size + 6) (callsIn_wide.2 (entry_some tx E _ hM2.out stx HEN.out))).mono ?_; rintro e w3 ⟨rfl, hb4⟩; obtain ⟨v', w5, hrun, hlt3, hc3, hc5, hf5, ⟨cap, g, rfl⟩, hP5, hK5⟩ := happ.out w3 hb4)
            try (refine hK _ _ ?_)
            try clear hK K
            refine wpAnyIn_ready (rs := [3]) (by kernel_rfl) (by simp) (AllReadyIn.cons rfl (fun K hK => ?_) (AllReadyIn.nil))
            go_simp
            refine hK _ _ ?_
            clear hK K
            refine wpAnyIn_ready (rs := [4]) (by kernel_rfl) (by simp) (AllReadyIn.cons rfl (fun K hK => ?_) (AllReadyIn.nil))
            refine wpIn_append1 _ _ 22 rfl rfl rfl hrun ?_
            refine hK _ _ ?_
            clear hK K
            refine wpAnyIn_ready (rs := [5]) (by kernel_rfl) (by simp) (AllReadyIn.cons rfl (fun K hK => ?_) (AllReadyIn.nil))
            go_simp
            refine hK _ _ ?_
            clear hK K
            refine wpAnyIn_done (by kernel_rfl) ?_ _
            gi_wp2_with (refine ⟨trivial, ?_⟩; gi_at_call 24; refine (CallsIn.inRound (w.heap.size + 6) (callsIn_wide.2 (must_no _))).mono ?_; rintro e w6 ⟨rfl, hw6⟩; obtain rfl := hw6.symm)
            exact ⟨rfl, by rw [HR.out]; exact .inr ⟨bad, rfl, rfl, HST.out, hP5.stop⟩⟩
          · go_simp
            refine hK _ _ ?_
            clear hK K
            refine wpAnyIn_ready (rs := [0, 2]) (by kernel_rfl) (by simp) (AllReadyIn.cons rfl (fun K hK => ?_) (AllReadyIn.cons rfl (fun K hK => ?_) (AllReadyIn.nil)))
            · go_simp
              refine hK _ _ ?_
              clear hK K
              refine wpAnyIn_ready (rs := [2]) (by kernel_rfl) (by simp) (AllReadyIn.cons rfl (fun K hK => ?_) (AllReadyIn.nil))
              go_simp
              gi_wp2_with (refine ⟨trivial, ?_⟩; gi_at_call 23; refine (CallsIn.inRound (w.heap.size + 6) (callsIn_wide.2 (entry_some tx E _ hM2.out stx HEN.out))).mono ?_; rintro e w3 ⟨rfl, hb4⟩; obtain ⟨v', w5, hrun, hlt3, hc3, hc5, hf5, ⟨cap, g, rfl⟩, hP5, hK5⟩ := happ.out w3 hb4)
              try (refine hK _ _ ?_)
              try clear hK K
              refine wpAnyIn_ready (rs := [3]) (by kernel_rfl) (by simp) (AllReadyIn.cons rfl (fun K hK => ?_) (AllReadyIn.nil))
              go_simp
              refine hK _ _ ?_
              clear hK K
              refine wpAnyIn_ready (rs := [4]) (by kernel_rfl) (by simp) (AllReadyIn.cons rfl (fun K hK => ?_) (AllReadyIn.nil))
              refine wpIn_append1 _ _ 22 rfl rfl rfl hrun ?_
              refine hK _ _ ?_
              clear hK K
              refine wpAnyIn_ready (rs := [5]) (by kernel_rfl) (by simp) (AllReadyIn.cons rfl (fun K hK => ?_) (AllReadyIn.nil))
              go_simp
              refine hK _ _ ?_
              clear hK K
              refine wpAnyIn_done (by kernel_rfl) ?_ _
              gi_wp2_with (refine ⟨trivial, ?_⟩; gi_at_call 24; refine (CallsIn.inRound (w.heap.size + 6) (callsIn_wide.2 (must_no _))).mono ?_; rintro e w6 ⟨rfl, hw6⟩; obtain rfl := hw6.symm)
              exact ⟨rfl, by rw [HR.out]; exact .inr ⟨bad, rfl, rfl, HST.out, hP5.stop⟩⟩
            · go_simp
              gi_wp2_with (refine ⟨trivial, ?_⟩; gi_at_call 23; refine (CallsIn.inRound (w.heap.size + 6) (callsIn_wide.2 (entry_some tx E _ hM2.out stx HEN.out))).mono ?_; rintro e w3 ⟨rfl, hb4⟩; obtain ⟨v', w5, hrun, hlt3, hc3, hc5, hf5, ⟨cap, g, rfl⟩, hP5, hK5⟩ := happ.out w3 hb4)
              try (refine hK _ _ ?_)
              try clear hK K
              refine wpAnyIn_ready (rs := [0, 3]) (by kernel_rfl) (by simp) (AllReadyIn.cons rfl (fun K hK => ?_) (AllReadyIn.cons rfl (fun K hK => ?_) (AllReadyIn.nil)))
              · go_simp
                refine hK _ _ ?_
                clear hK K
                refine wpAnyIn_ready (rs := [3]) (by kernel_rfl) (by simp) (AllReadyIn.cons rfl (fun K hK => ?_) (AllReadyIn.nil))
                go_simp
                refine hK _ _ ?_
                clear hK K
                refine wpAnyIn_ready (rs := [4]) (by kernel_rfl) (by simp) (AllReadyIn.cons rfl (fun K hK => ?_) (AllReadyIn.nil))
                refine wpIn_append1 _ _ 22 rfl rfl rfl hrun ?_
                refine hK _ _ ?_
                clear hK K
                refine wpAnyIn_ready (rs := [5]) (by kernel_rfl) (by simp) (AllReadyIn.cons rfl (fun K hK => ?_) (AllReadyIn.nil))
                go_simp
                refine hK _ _ ?_
                clear hK K
                refine wpAnyIn_done (by kernel_rfl) ?_ _
                gi_wp2_with (refine ⟨trivial, ?_⟩; gi_at_call 24; refine (CallsIn.inRound (w.heap.size + 6) (callsIn_wide.2 (must_no _))).mono ?_; rintro e w6 ⟨rfl, hw6⟩; obtain rfl := hw6.symm)
                exact ⟨rfl, by rw [HR.out]; exact .inr ⟨bad, rfl, rfl, HST.out, hP5.stop⟩⟩
              · go_simp
                refine hK _ _ ?_
                clear hK K
                refine wpAnyIn_ready (rs := [0]) (by kernel_rfl) (by simp) (AllReadyIn.cons rfl (fun K hK => ?_) (AllReadyIn.nil))
                go_simp
                refine hK _ _ ?_
                clear hK K
                refine wpAnyIn_ready (rs := [4]) (by kernel_rfl) (by simp) (AllReadyIn.cons rfl (fun K hK => ?_) (AllReadyIn.nil))
                refine wpIn_append1 _ _ 22 rfl rfl rfl hrun ?_
                refine hK _ _ ?_
                clear hK K
                refine wpAnyIn_ready (rs := [5]) (by kernel_rfl) (by simp) (AllReadyIn.cons rfl (fun K hK => ?_) (AllReadyIn.nil))
                go_simp
                refine hK _ _ ?_
                clear hK K
                refine wpAnyIn_done (by kernel_rfl) ?_ _
                gi_wp2_with (refine ⟨trivial, ?_⟩; gi_at_call 24; refine (CallsIn.inRound (w.heap.size + 6) (callsIn_wide.2 (must_no _))).mono ?_; rintro e w6 ⟨rfl, hw6⟩; obtain rfl := hw6.symm)
                exact ⟨rfl, by rw [HR.out]; exact .inr ⟨bad, rfl, rfl, HST.out, hP5.stop⟩⟩
  case post =>
    rintro e W' (⟨⟨v0, rfl⟩, es, hes, hP⟩ | ⟨chain, rfl, rfl, hpl, hX⟩)
    · obtain ⟨W4, hend, hP4⟩ := round_over (P := Tryz.prog) hP hLs hLp
      refine ⟨none, W4, hend, ?_⟩
      obtain ⟨⟨v, hc, hr⟩, hf, ⟨⟨u, hu⟩, hg⟩, hb, hk, hlp, hs⟩ := hP4
      have hsl : ∃ ad n c, v = .slice ad n c := by
        rcases hr.2 with ⟨rfl, _⟩ | ⟨g, cap, _, rfl, _⟩
        · exact ⟨_, _, _, rfl⟩
        · exact ⟨_, _, _, rfl⟩
      obtain ⟨ad, sn, sc, rfl⟩ := hsl
      have hu2 : (W4.setCell ⟨w.heap.size, 0, none⟩ (.slice ad sn sc)).cell? ⟨w.heap.size + 1, 0, none⟩ = some u := (World.cell?_setCell_other W4 _ _ _ (by intro e; injection e; omega)).trans hu
      have HRR := Lib.hid hr
      have HES := Lib.hid hes
      have HBB := Lib.hid hb
      have HKK := Lib.hid hk
      clear HL hmf hconv hM hv hb1 hz1 d0 d1 d2 d3 d4 g0 g1 g2 hW1 hLs hLp hLa hP hlp hr hes hb hk hend
      refine wpAt_of_wpIn (n := 8) ?_
      gi_wp2
      refine leave_ok HBB.out HKK.out HRR.out hc hu (by omega) rfl rfl ?_
      intro w' hb' hr'
      refine ⟨hb', ?_⟩
      unfold PE parseL
      have h1 := HES.out
      rw [bL_data] at h1
      rw [h1]
      exact ⟨_, rfl, hr'⟩
    · refine leave_bad hX rfl rfl ?_
      intro w' hb'
      refine ⟨hb', ?_⟩
      unfold PE
      rw [hpl]
end Go.Proofs.YtefjnpflpgilpaaGreatDoor
