/- The walk of ucd.Text. Conditions: strings below 2^63 bytes; one cell of the library's table. -/
import Derived.Test.YtefjnpflpgilpaaGreatDoorUcdO
import Derived.Test.YtefjnpflpgilpaaGreatDoorUcdC
import Derived.Test.YtefjnpflpgilpaaGreatDoorUcdG
import Derived.Lib.AppendStr
import Derived.Lib.UnsafeStr
import Derived.OwnWalk
namespace Go.Proofs.YtefjnpflpgilpaaGreatDoor
open Go.RowKit

/-- an entry, as a call may hand it -/
structure RE where
  a : Int
  b : Int
  v : ByteArray
  x : ByteArray
def RE.ok (E : RE) : Bool := rightOk E.a E.b E.v.data.toList E.x.data.toList
/-- a right entry's line -/
def RE.line (E : RE) : List UInt8 := figL E.a.toNat ++ ((if E.a < E.b then [46, 46] ++ figL E.b.toNat else []) ++ ([32, 59, 32] ++ (E.v.data.toList ++ ((if E.x.data.toList = [] then [] else [32, 59, 32] ++ E.x.data.toList) ++ [10]))))
def RE.cells (E : RE) : List Value := [.int .i64 E.a, .int .i64 E.b, .string E.v, .string E.x]
/-- what ucd.Text makes of entries -/
def textR (es : List RE) : Option (List UInt8) := if es.length ≤ 600 ∧ ∀ E ∈ es, E.ok = true then some (es.flatMap RE.line) else none
/-- a slice's entries in memory -/
def EntsAt (w : World) (val : Value) (es : List RE) : Prop :=
  (es = [] ∧ ∃ ad c, val = .slice ad 0 c) ∨ ∃ g o c, val = .slice (some ⟨g, o, none⟩) es.length c ∧
    ∀ i (h : i < es.length), w.cell? ⟨g, o + i * 4, none⟩ = some (.int .i64 es[i].a) ∧ w.cell? ⟨g, o + i * 4 + 1, none⟩ = some (.int .i64 es[i].b) ∧ w.cell? ⟨g, o + i * 4 + 2, none⟩ = some (.string es[i].v) ∧ w.cell? ⟨g, o + i * 4 + 3, none⟩ = some (.string es[i].x)
theorem EntsAt.below {w w' : World} {val : Value} {es : List RE} (h : EntsAt w val es) (hb : Below w.heap.size w w') : EntsAt w' val es := by
  rcases h with h | ⟨g, o, c, rfl, h⟩
  · exact .inl h
  · refine .inr ⟨g, o, c, rfl, fun i hi => ?_⟩
    obtain ⟨h0, h1, h2, h3⟩ := h i hi
    exact ⟨(hb.cell (World.block_lt_of_cell? w _ h0)).trans h0, (hb.cell (World.block_lt_of_cell? w _ h1)).trans h1, (hb.cell (World.block_lt_of_cell? w _ h2)).trans h2, (hb.cell (World.block_lt_of_cell? w _ h3)).trans h3⟩
theorem figL_length (u : Nat) (h : u < 4294967296) : (figL u).length ≤ 8 := by
  have := hexS_length 7 u (by simpa using h)
  simp [figL, upper_length]
  omega
theorem RE.ok_parts {E : RE} (h : E.ok = true) : 0 ≤ E.a ∧ E.a ≤ E.b ∧ E.b ≤ 1114111 ∧ E.v.size ≤ 16 ∧ E.x.size ≤ 16 := by
  unfold RE.ok rightOk at h
  simp only [Bool.and_eq_true, decide_eq_true_eq, Bool.or_eq_true] at h
  obtain ⟨h1, h2, h3, h4, h5⟩ := h
  refine ⟨h1, h2, h3, ?_, ?_⟩
  · unfold wordOk at h4
    simp only [Bool.and_eq_true, decide_eq_true_eq] at h4
    rw [Lib.size_eq]
    exact h4.2.2
  · rw [Lib.size_eq]
    rcases h5 with h5 | h5
    · rw [List.isEmpty_iff.1 h5]; simp
    · unfold wordOk at h5
      simp only [Bool.and_eq_true, decide_eq_true_eq] at h5
      exact h5.2.2
theorem RE.line_length {E : RE} (h : E.ok = true) : E.line.length ≤ 60 := by
  obtain ⟨h1, h2, h3, h4, h5⟩ := E.ok_parts h
  have f1 := figL_length E.a.toNat (by omega)
  have f2 := figL_length E.b.toNat (by omega)
  have h6 := h4
  have h7 := h5
  rw [Lib.size_eq] at h6 h7
  unfold RE.line
  simp only [List.length_append]
  split <;> split <;> simp <;> omega
theorem ownsRow_below {W W' : World} {base : Nat} {e : TypeId} {size : Nat} {v : Value} {n : Nat} {xs : List Value} (h : W.ownsRow base e size v n xs) (hb : Below W.heap.size W W') : W'.ownsRow base e size v n xs :=
  h.kept (row := none) ⟨hb.os, hb.tape, hb.output, hb.size, fun k hk _ => hb.block k hk⟩ (by cases v.ownBlock <;> simp)
theorem lines_length (es : List RE) (h : ∀ E ∈ es, E.ok = true) : (es.flatMap RE.line).length ≤ 60 * es.length := by
  induction es with
  | nil => simp
  | cons E es ih =>
    have h1 := RE.line_length (h E (List.mem_cons_self ..))
    have h2 := ih (fun F hF => h F (List.mem_cons_of_mem _ hF))
    rw [List.flatMap_cons, List.length_append, List.length_cons]
    omega

/-- an entry in a block of its own -/
def Loc (w : World) (B : Nat) (E : RE) : Prop := w.cell? ⟨B, 0, none⟩ = some (.int .i64 E.a) ∧ w.cell? ⟨B, 1, none⟩ = some (.int .i64 E.b) ∧ w.cell? ⟨B, 2, none⟩ = some (.string E.v) ∧ w.cell? ⟨B, 3, none⟩ = some (.string E.x)
theorem Loc.new (w : World) (E : RE) (t : TypeId) : Loc (w.alloc (.cells #[.int .i64 E.a, .int .i64 E.b, .string E.v, .string E.x] t)) w.heap.size E := by
  unfold Loc
  simp only [World.cell?_alloc_new]
  exact ⟨rfl, rfl, rfl, rfl⟩
theorem Loc.below {w w' : World} {B : Nat} {E : RE} (h : Loc w B E) (hb : Below w.heap.size w w') : Loc w' B E := by
  obtain ⟨h0, h1, h2, h3⟩ := h
  exact ⟨(hb.cell (World.block_lt_of_cell? w _ h0)).trans h0, (hb.cell (World.block_lt_of_cell? w _ h1)).trans h1, (hb.cell (World.block_lt_of_cell? w _ h2)).trans h2, (hb.cell (World.block_lt_of_cell? w _ h3)).trans h3⟩
theorem uint8_info : (Tryz.prog.info? 5).map (fun i => (i.zero, i.size, i.bytes)) = some (some (.int .u8 0), 1, 1) := by kernel_rfl
theorem below_grown {m : Nat} {w W W' : World} {row : Option Nat} (h : Below m w W) (hm : m ≤ W.heap.size) (hg : W.grownBy W' row) (hr : ∀ k, row = some k → m ≤ k) : Below m w W' :=
  h.trans ⟨hg.os, hg.tape, hg.output, hg.size, fun k hk => hg.block k (by omega) (fun e => by have := hr k e.symm; omega)⟩
theorem strCells_bytes (s : ByteArray) : Lib.strCells s = Lib.byteCells s.data.toList := by simp [Lib.strCells, Lib.byteCells]
theorem figured_at (u : Nat) (f : ByteArray) (w : World) (hT : HasTab w) (hu : u < 4294967296) (hf : f.data.toList = figL u) :
    Calls Tryz.prog 18 #[.int .i64 u] w fun e w' => e = .returned (.string f) ∧ Below w.heap.size w w' := by
  have := figured_walk u w hT hu
  rw [← hf] at this
  exact this

/-- what Text hands back -/
def TE (w : World) (es : List RE) (e : Ending) (w' : World) : Prop := match textR es with
  | none => e = .returned (.tuple #[.slice none 0 0, .int .i64 21])
  | some l => ∃ v, e = .returned (.tuple #[v, .int .i64 0]) ∧ w'.ownsRow w.heap.size 5 1 v l.length (Lib.byteCells l)
theorem TE.stop {w w' : World} {es : List RE} (h : textR es = none) : TE w es (.returned (.tuple #[.slice none 0 0, .int .i64 21])) w' := by unfold TE; rw [h]
theorem textR_bad {es : List RE} (i : Nat) (hi : i < es.length) (h : es[i].ok = false) : textR es = none := by
  unfold textR
  rw [if_neg]
  rintro ⟨_, h2⟩
  rw [h2 _ (List.getElem_mem hi)] at h
  exact Bool.noConfusion h

set_option maxRecDepth 100000 in
set_option maxHeartbeats 2000000 in
theorem text_walk (val : Value) (es : List RE) (w : World) (hT : HasTab w) (hE : EntsAt w val es) (hs : ∀ E ∈ es, E.v.size ≤ 9223372036854775807 ∧ E.x.size ≤ 9223372036854775807) (hlen : es.length ≤ 9223372036854775807) :
    Calls Tryz.prog 11 #[val] w fun e w' => Below w.heap.size w w' ∧ TE w es e w' := by
  obtain ⟨ad, c, rfl⟩ : ∃ ad c, val = .slice ad es.length c := by
    rcases hE with ⟨rfl, ad, c, rfl⟩ | ⟨g, o, c, rfl, _⟩
    · exact ⟨ad, c, rfl⟩
    · exact ⟨_, c, rfl⟩
  have HE := Lib.hid hE
  have HT := Lib.hid hT
  have HS := Lib.hid hs
  clear hE hT hs
  by_cases hbig : 600 < es.length
  · have k1 : (600 : Int) < (es.length : Int) := by omega
    have HR := Lib.hid (show textR es = none by unfold textR; rw [if_neg]; rintro ⟨h, _⟩; omega)
    go_enter Tryz.func11, Tryz.ntmps11
    go_wp2_with fail
    go_ret2
    exact ⟨Below.refl _ _, TE.stop HR.out⟩
  · have k1 : (es.length : Int) ≤ 600 := by omega
    go_enter Tryz.func11, Tryz.ntmps11
    go_wp2_with fail
    go_loopw [4, 13] (fun vo vi wr => ∃ k : Nat, vi = .int .i64 k ∧ k ≤ es.length ∧ Hid ((∀ E ∈ es.take k, E.ok = true) ∧ Below w.heap.size w wr ∧ wr.ownsRow w.heap.size 5 1 vo ((es.take k).flatMap RE.line).length (Lib.byteCells ((es.take k).flatMap RE.line)))) (fun _ vi _ => es.length - (intOf vi).toNat)
    case atStart => exact ⟨0, rfl, by omega, Lib.hid ⟨by simp, Below.refl _ _, World.ownsRow_nil _ _ _ _⟩⟩
    case round =>
      obtain ⟨k, rfl, hk, hh⟩ := hrel
      by_cases hkn : k < es.length
      · have hB := hh.out.2.1
        obtain ⟨g, o, c', hval, hc⟩ := (HE.out.below hB).resolve_left (by rintro ⟨h, _⟩; rw [h] at hkn; exact absurd hkn (Nat.not_lt_zero k))
        injection hval with had _ hcc
        subst had
        subst hcc
        obtain ⟨c0, c1, c2, c3⟩ := hc k hkn
        have hsz := HS.out es[k] (List.getElem_mem hkn)
        obtain ⟨E, hE⟩ : ∃ E, E = es[k] := ⟨_, rfl⟩
        rw [← hE] at c0 c1 c2 c3 hsz
        have HEK := Lib.hid hE
        clear hE hc
        obtain ⟨a, b, v, x⟩ := E
        simp only at c0 c1 c2 c3 hsz
        obtain ⟨hv, hx⟩ := hsz
        cases hr : rightOk a b v.data.toList x.data.toList with
        | false =>
          have HRR := Lib.hid hr
          have HST := Lib.hid (show textR es = none from textR_bad k hkn (by rw [← HEK.out]; exact hr))
          clear hr
          go_wp2_with fail
          refine (right_true a b v x false _ hv hx HRR.out).mono ?_
          rintro e w1 ⟨rfl, hb1⟩
          go_wp2_with fail
          go_ret2
          exact ⟨(hB.alloc hB.size _).trans (hb1.mono (by have := hB.size; simp; omega)), TE.stop HST.out⟩
        | true =>
          have HRR := Lib.hid hr
          obtain ⟨p1, p2, p3, p4, p5⟩ := RE.ok_parts (E := ⟨a, b, v, x⟩) hr
          simp only at p1 p2 p3 p4 p5
          obtain ⟨na, rfl⟩ := Int.eq_ofNat_of_zero_le p1
          obtain ⟨nb, rfl⟩ := Int.eq_ofNat_of_zero_le (Int.le_trans p1 p2)
          have hna : na < 4294967296 := by omega
          have hnb : nb < 4294967296 := by omega
          obtain ⟨fa, hfa⟩ : ∃ fa : ByteArray, fa.data.toList = figL na := ⟨⟨(figL na).toArray⟩, by simp⟩
          obtain ⟨fb, hfb⟩ : ∃ fb : ByteArray, fb.data.toList = figL nb := ⟨⟨(figL nb).toArray⟩, by simp⟩
          have sfa : fa.size ≤ 8 := by rw [Lib.size_eq, hfa]; exact figL_length na hna
          have sfb : fb.size ≤ 8 := by rw [Lib.size_eq, hfb]; exact figL_length nb hnb
          have HFA := Lib.hid hfa
          have HFB := Lib.hid hfb
          have hbs := hB.size
          have HT1 := Lib.hid (HT.out.below hB)
          clear hr p1 hfa hfb
          obtain ⟨i0, hi, hz0, hz1, hz2⟩ := info_parts uint8_info
          have HI0 := Lib.hid hi
          have HI1 := Lib.hid hz0
          have HI2 := Lib.hid hz1
          have HI3 := Lib.hid hz2
          clear hi hz0 hz1 hz2
          have hlines := lines_length (es.take k) hh.out.1
          have htk : (es.take k).length ≤ 600 := by rw [List.length_take]; omega
          have hnl : ((es.take k).flatMap RE.line).length ≤ 36000 := by omega
          obtain ⟨old, hold⟩ : ∃ old, old = (es.take k).flatMap RE.line := ⟨_, rfl⟩
          rw [← hold] at hnl
          have HOLD := Lib.hid hold
          have HOO := Lib.hid (show wr.ownsRow w.heap.size 5 1 u4 old.length (Lib.byteCells old) by rw [hold]; exact hh.out.2.2)
          have hstep : Hid (∀ (s : ByteArray) (vo' : Value) (W W' : World), s.data.toList = RE.line ⟨na, nb, v, x⟩ → Below w.heap.size w W → W.ownsRow w.heap.size 5 1 u4 old.length (Lib.byteCells old) →
              ∀ n' : Nat, W'.ownsRow w.heap.size 5 1 vo' n' (Lib.byteCells old ++ Lib.strCells s) → W.grownBy W' u4.ownBlock →
              (∀ F ∈ es.take (k + 1), F.ok = true) ∧ Below w.heap.size w W' ∧ W'.ownsRow w.heap.size 5 1 vo' ((es.take (k + 1)).flatMap RE.line).length (Lib.byteCells ((es.take (k + 1)).flatMap RE.line))) := Lib.hid (by
            intro s vo' W W' hsd hbw how n' how' hgr
            have hn' : n' = old.length + s.size := by
              have := how'.1
              rw [List.length_append, Lib.byteCells_length, Lib.strCells_length] at this
              omega
            rw [hn'] at how'
            rw [hold] at how how'
            have e1 : es.take (k + 1) = es.take k ++ [⟨na, nb, v, x⟩] := by rw [List.take_add_one, List.getElem?_eq_getElem hkn, ← HEK.out]; rfl
            have e2 : (es.take (k + 1)).flatMap RE.line = (es.take k).flatMap RE.line ++ s.data.toList := by rw [e1, List.flatMap_append, hsd]; simp
            refine ⟨fun F hF => ?_, below_grown hbw hbw.size hgr (fun j hj => (how.lt j hj).1), ?_⟩
            · rw [e1] at hF
              rcases List.mem_append.1 hF with h | h
              · exact hh.out.1 F h
              · rw [List.mem_singleton.1 h]; exact HRR.out
            · rw [e2, List.length_append, ← Lib.size_eq]
              have e3 : Lib.byteCells ((es.take k).flatMap RE.line ++ s.data.toList) = Lib.byteCells ((es.take k).flatMap RE.line) ++ Lib.strCells s := by rw [strCells_bytes]; simp [Lib.byteCells]
              rw [e3]
              exact how')
          have e46 : (⟨#[46, 46]⟩ : ByteArray).size = 2 := rfl
          have e32 : (⟨#[32, 59, 32]⟩ : ByteArray).size = 3 := rfl
          have e10 : (⟨#[10]⟩ : ByteArray).size = 1 := rfl
          clear hold hlines htk
          go_wp2_with fail
          refine (right_true na nb v x true _ hv hx HRR.out).mono ?_
          rintro e w1 ⟨rfl, hb1⟩
          have L1 := (Loc.new wr ⟨na, nb, v, x⟩ 27).below hb1
          have HB1 := Lib.hid ((hB.alloc hB.size (.cells #[.int .i64 na, .int .i64 nb, .string v, .string x] 27)).trans (hb1.mono (by simp; omega)))
          have HL1 := Lib.hid L1
          obtain ⟨y0, y1, y2, y3⟩ := L1
          have HT2 := Lib.hid (HT.out.below HB1.out)
          have hw1 : wr.heap.size < w1.heap.size := by have := hb1.size; simp at this; omega
          have HO1 := Lib.hid (ownsRow_below (ownsRow_below HOO.out ((Below.refl _ _).alloc (Nat.le_refl _) (.cells #[.int .i64 na, .int .i64 nb, .string v, .string x] 27))) hb1)
          clear hb1
          simp only at y0 y1 y2 y3
          go_wp2_with fail
          refine (figured_at na fa _ HT2.out hna HFA.out).mono ?_
          rintro e w2 ⟨rfl, hb2⟩
          have L2 := HL1.out.below hb2
          have HL2 := Lib.hid L2
          obtain ⟨z0, z1, z2, z3⟩ := L2
          simp only at z0 z1 z2 z3
          have HB2 := Lib.hid (HB1.out.trans (hb2.mono HB1.out.size))
          have HO2 := Lib.hid (ownsRow_below HO1.out hb2)
          have HT3 := Lib.hid (HT.out.below HB2.out)
          have hbs2 := HB2.out.size
          clear hb2 c0 c1 c2 c3 y0 y1 y2 y3
          by_cases hab : na < nb
          · have kab : (na : Int) < (nb : Int) := by omega
            go_wp2_with fail
            refine (figured_at nb fb _ HT3.out hnb HFB.out).mono ?_
            rintro e w3 ⟨rfl, hb3⟩
            have L3 := HL2.out.below hb3
            obtain ⟨q0, q1, q2, q3⟩ := L3
            simp only at q0 q1 q2 q3
            have HB3 := Lib.hid (HB2.out.trans (hb3.mono hbs2))
            have HO3 := Lib.hid (ownsRow_below HO2.out hb3)
            have hbs3 := HB3.out.size
            clear hb3 z0 z1 z2 z3
            cases hxe : x.toList.isEmpty with
            | true =>
              have hx0 : x.data.toList = [] := by rw [← ByteArray.toList_eq]; simpa using hxe
              have HX0 := Lib.hid hx0
              clear hx0
              go_wp2_with (at_builtin; refine Lib.wpList_append_own_string _ rfl _ _ 28 9 rfl w.heap.size 5 i0 Tryz.underlying28 Tryz.underlying9 HI0.out HI1.out HI2.out HI3.out _ _ _ rfl HO3.out _ rfl ?_ ?_ ?_ ?_)
              · simp only [maxLen, ByteArray.size_append]; omega
              · simp only [ByteArray.size_append]; omega
              · omega
              intro vo' w9 hown9 hgr9 _
              have HN := Lib.hid (hstep.out _ vo' _ w9 (by simp [RE.line, HFA.out, HFB.out, hab, HX0.out]) HB3.out HO3.out _ hown9 hgr9)
              clear hown9 hgr9
              go_wp2_with fail
              exact ⟨⟨k + 1, by simp, by omega, HN⟩, by simp [intOf]; omega⟩
            | false =>
              have hx0 : x.data.toList ≠ [] := by rw [← ByteArray.toList_eq]; intro h; rw [h] at hxe; exact Bool.noConfusion hxe
              have HX0 := Lib.hid hx0
              clear hx0
              go_wp2_with (at_builtin; refine Lib.wpList_append_own_string _ rfl _ _ 28 9 rfl w.heap.size 5 i0 Tryz.underlying28 Tryz.underlying9 HI0.out HI1.out HI2.out HI3.out _ _ _ rfl HO3.out _ rfl ?_ ?_ ?_ ?_)
              · simp only [maxLen, ByteArray.size_append]; omega
              · simp only [ByteArray.size_append]; omega
              · omega
              intro vo' w9 hown9 hgr9 _
              have HN := Lib.hid (hstep.out _ vo' _ w9 (by simp [RE.line, HFA.out, HFB.out, hab, HX0.out]) HB3.out HO3.out _ hown9 hgr9)
              clear hown9 hgr9
              go_wp2_with fail
              exact ⟨⟨k + 1, by simp, by omega, HN⟩, by simp [intOf]; omega⟩
          · have kab : ¬ (na : Int) < (nb : Int) := by omega
            cases hxe : x.toList.isEmpty with
            | true =>
              have hx0 : x.data.toList = [] := by rw [← ByteArray.toList_eq]; simpa using hxe
              have HX0 := Lib.hid hx0
              clear hx0
              go_wp2_with (at_builtin; refine Lib.wpList_append_own_string _ rfl _ _ 28 9 rfl w.heap.size 5 i0 Tryz.underlying28 Tryz.underlying9 HI0.out HI1.out HI2.out HI3.out _ _ _ rfl HO2.out _ rfl ?_ ?_ ?_ ?_)
              · simp only [maxLen, ByteArray.size_append]; omega
              · simp only [ByteArray.size_append]; omega
              · omega
              intro vo' w9 hown9 hgr9 _
              have HN := Lib.hid (hstep.out _ vo' _ w9 (by simp [RE.line, HFA.out, hab, HX0.out]) HB2.out HO2.out _ hown9 hgr9)
              clear hown9 hgr9
              go_wp2_with fail
              exact ⟨⟨k + 1, by simp, by omega, HN⟩, by simp [intOf]; omega⟩
            | false =>
              have hx0 : x.data.toList ≠ [] := by rw [← ByteArray.toList_eq]; intro h; rw [h] at hxe; exact Bool.noConfusion hxe
              have HX0 := Lib.hid hx0
              clear hx0
              go_wp2_with (at_builtin; refine Lib.wpList_append_own_string _ rfl _ _ 28 9 rfl w.heap.size 5 i0 Tryz.underlying28 Tryz.underlying9 HI0.out HI1.out HI2.out HI3.out _ _ _ rfl HO2.out _ rfl ?_ ?_ ?_ ?_)
              · simp only [maxLen, ByteArray.size_append]; omega
              · simp only [ByteArray.size_append]; omega
              · omega
              intro vo' w9 hown9 hgr9 _
              have HN := Lib.hid (hstep.out _ vo' _ w9 (by simp [RE.line, HFA.out, hab, HX0.out]) HB2.out HO2.out _ hown9 hgr9)
              clear hown9 hgr9
              go_wp2_with fail
              exact ⟨⟨k + 1, by simp, by omega, HN⟩, by simp [intOf]; omega⟩
      · have hkk : k = es.length := by omega
        subst hkk
        have HT2 := Lib.hid (show textR es = some (es.flatMap RE.line) by
          have h1 := hh.out.1
          rw [List.take_length] at h1
          unfold textR
          rw [if_pos ⟨by omega, h1⟩])
        go_wp2_with fail
        go_ret2
        refine ⟨hh.out.2.1, ?_⟩
        unfold TE
        rw [HT2.out]
        have h1 := hh.out.2.2
        rw [List.take_length] at h1
        exact ⟨_, rfl, h1⟩
end Go.Proofs.YtefjnpflpgilpaaGreatDoor
