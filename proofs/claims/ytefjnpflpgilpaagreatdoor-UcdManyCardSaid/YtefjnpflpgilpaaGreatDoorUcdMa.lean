/- The walk of UcdMany. Conditions: the library's variable MaxLen holds an int; one cell of the library's table; strings below 2^63 bytes. -/
import Derived.Test.YtefjnpflpgilpaaGreatDoorUcdNb
namespace Go.Proofs.YtefjnpflpgilpaaGreatDoor
open Go.RowKit

/-- more right entries' lines than may be are no table's -/
theorem parse_over (es : List RE) (hok : ∀ E ∈ es, E.ok = true) (hn : 600 < es.length) : parseL (es.flatMap RE.line) = none := by
  have key : ∀ (es : List RE), (∀ E ∈ es, E.ok = true) → ∀ acc : List Ent, acc.length ≤ 600 → 600 < acc.length + es.length → (splitL 10 (es.flatMap RE.line)).foldl stepE (some acc) = none := by
    intro es
    induction es with
    | nil => intro _ acc h1 h2; simp at h2; omega
    | cons E es ih =>
      intro hok acc h1 h2
      have hE := hok E (List.mem_cons_self ..)
      have e1 : (E :: es).flatMap RE.line = E.body ++ 10 :: es.flatMap RE.line := by
        rw [List.flatMap_cons, RE.line_body]
        simp
      rw [e1, splitL_skip 10 _ _ (body_no hE 10 (by unfold Good; decide) (by decide) (by decide)), List.foldl_cons]
      simp only [List.length_cons] at h2
      by_cases h3 : acc.length + 1 ≤ 600
      · rw [stepE_add acc E.body E.ent (by rw [lineOf_body hE]; exact body_ne E) (by rw [lineOf_body hE]; exact entry_body hE) h3]
        exact ih (fun F hF => hok F (List.mem_cons_of_mem _ hF)) (acc ++ [E.ent]) (by simp; omega) (by simp; omega)
      · rw [stepE_full acc E.body E.ent (by rw [lineOf_body hE]; exact body_ne E) (by rw [lineOf_body hE]; exact entry_body hE) h3]
        exact foldE_none _
  exact key es hok [] (by simp) (by simpa using hn)
def many (k : Nat) (F : Ent) : List Ent := List.replicate k F
theorem many_succ (k : Nat) (F : Ent) : many (k + 1) F = many k F ++ [F] := by simp [many, List.replicate_succ']
theorem many_length (k : Nat) (F : Ent) : (many k F).length = k := by simp [many]
theorem many_ok {k : Nat} {F : Ent} (h : F.re.ok = true) : ∀ E ∈ (many k F).map Ent.re, E.ok = true := by
  intro E hE
  obtain ⟨G, hG, rfl⟩ := List.mem_map.1 hE
  rw [List.eq_of_mem_replicate hG]
  exact h
/-- what the loop of UcdMany holds on to -/
structure ML (w wr : World) (F : Ent) (k : Nat) (vl : Value) (s : ByteArray) : Prop where
  bel : Below w.heap.size w wr
  loc : Loc wr w.heap.size F.re
  own : wr.ownsRow (w.heap.size + 1) 27 4 vl (many k F).length (entsC (many k F))
  txt : s.data.toList = ((many k F).map Ent.re).flatMap RE.line
  siz : w.heap.size < wr.heap.size
theorem ML.grow {w wr w9 : World} {F : Ent} {k : Nat} {vl v' : Value} {s : ByteArray} {X : Array Value} {t : TypeId} (h : ML w wr F k vl s) (ho : w9.ownsRow (w.heap.size + 1) 27 4 v' ((many k F).length + 1) (entsC (many k F) ++ entC F)) (hg : (wr.alloc (.cells X t)).grownBy w9 vl.ownBlock) :
    Below w.heap.size w w9 ∧ Loc w9 w.heap.size F.re ∧ w9.ownsRow (w.heap.size + 1) 27 4 v' (many (k + 1) F).length (entsC (many (k + 1) F)) ∧ w.heap.size < w9.heap.size := by
  have hsz := h.siz
  have hs9 := hg.size
  simp only [World.size_alloc] at hs9
  have hlow : ∀ i, i < w.heap.size + 1 → w9.heap[i]? = wr.heap[i]? := fun i hi =>
    (hg.block i (by simp; omega) (fun e => by have := (h.own.lt i e.symm).1; omega)).trans (heap_alloc_old wr _ (by omega))
  refine ⟨h.bel.trans ⟨hg.os, hg.tape, hg.output, by omega, fun i hi => hlow i (by omega)⟩, ?_, ?_, by omega⟩
  · obtain ⟨c0, c1, c2, c3⟩ := h.loc
    have e : ∀ o, w9.cell? ⟨w.heap.size, o, none⟩ = wr.cell? ⟨w.heap.size, o, none⟩ := fun o => World.cell?_of_block (hlow _ (by show w.heap.size < _; omega))
    exact ⟨(e 0).trans c0, (e 1).trans c1, (e 2).trans c2, (e 3).trans c3⟩
  · have e1 : entsC (many (k + 1) F) = entsC (many k F) ++ entC F := by rw [many_succ]; simp [entsC]
    have e2 : (many (k + 1) F).length = (many k F).length + 1 := by rw [many_length, many_length]
    rw [e1, e2]
    exact ho
theorem bL_of (s : ByteArray) : bL s.data.toList = s := by simp [bL]
theorem parse_goodn (bv : Value) (l : List UInt8) (es : List Ent) (n : Nat) (w : World) (hM : HasMax w) (hl : l.length < 4294967281) (hv : BytesAt w bv l) (h : parseL l = some es) (hn : es.length = n) :
    Calls Tryz.prog 13 #[bv] w fun e w' => ∃ ad c, e = .returned (.tuple #[.slice ad n c, .int .i64 0]) ∧ Below w.heap.size w w' :=
  (parse_good bv l es w hM hl hv h).mono fun e w' ⟨ad, c, he, hb, _⟩ => ⟨ad, c, by rw [← hn]; exact he, hb⟩
theorem text_goods (val : Value) (es : List RE) (s : ByteArray) (w : World) (hT : HasTab w) (hE : EntsAt w val es) (hs : ∀ E ∈ es, E.v.size ≤ 9223372036854775807 ∧ E.x.size ≤ 9223372036854775807) (hlen : es.length ≤ 9223372036854775807) (h : textR es = some s.data.toList) :
    Calls Tryz.prog 11 #[val] w fun e w' => ∃ v, e = .returned (.tuple #[v, .int .i64 0]) ∧ Below w.heap.size w w' ∧ BytesAt w' v s.data.toList :=
  (text_good val es _ w hT hE hs hlen h).mono fun _ _ ⟨_, _, he, hb, hy⟩ => ⟨_, he, hb, hy⟩
theorem ML.slice {w wr : World} {F : Ent} {k : Nat} {vl : Value} {s : ByteArray} (h : ML w wr F k vl s) (hk : 0 < k) : ∃ ad c, vl = .slice ad k c := by
  have hl := many_length k F
  rcases h.own.2 with ⟨_, h0⟩ | ⟨g, cap, cur, rfl, _⟩
  · rw [hl] at h0; omega
  · exact ⟨_, cap, by rw [hl]⟩
theorem and_three (x : Int) : ∃ j : Nat, j ≤ 3 ∧ bits BinOp.and IntKind.i64 x 3 = (j : Int) := by
  refine ⟨(BitVec.ofInt 64 x &&& BitVec.ofInt 64 3).toNat, ?_, ?_⟩
  · rw [BitVec.toNat_and]
    exact Nat.and_le_right
  · have h : (BitVec.ofInt 64 x &&& BitVec.ofInt 64 3).toNat ≤ 3 := by
      rw [BitVec.toNat_and]
      exact Nat.and_le_right
    show IntKind.i64.wrap ((BitVec.ofInt 64 x &&& BitVec.ofInt 64 3).toNat : Int) = _
    have := IntWalk.i64_in ((BitVec.ofInt 64 x &&& BitVec.ofInt 64 3).toNat : Int) (by omega)
    exact this
set_option maxRecDepth 100000 in
set_option maxHeartbeats 1000000 in
theorem many_walk (E : RE) (more : Int) (w : World) (hM : HasMax w) (hT : HasTab w) (hv : E.v.size ≤ 9223372036854775807) (hx : E.x.size ≤ 9223372036854775807) :
    Calls Tryz.prog 6 #[.agg #[.int .i64 E.a, .int .i64 E.b, .string E.v, .string E.x], .int .i64 more] w fun e w' => e = .returned (.bool true) ∧ Below w.heap.size w w' := by
  have HM := Lib.hid hM
  have HT := Lib.hid hT
  clear hM hT
  have hb0 : Below w.heap.size w (w.alloc (.cells #[.int .i64 E.a, .int .i64 E.b, .string E.v, .string E.x] 27)) := (Below.refl _ _).alloc (Nat.le_refl _) _
  have HB0 := Lib.hid hb0
  clear hb0
  cases hr : E.ok with
  | false =>
    have hr' : rightOk E.a E.b E.v.data.toList E.x.data.toList = false := hr
    have HR := Lib.hid hr'
    clear hr hr'
    go_enter Tryz.func6, Tryz.ntmps6
    go_wp2_with fail
    refine (refRight_at _ _ _ _ false _ hv hx HR.out).mono ?_
    rintro e w1 ⟨rfl, hb1⟩
    have HB1 := Lib.hid (HB0.out.trans (hb1.mono HB0.out.size))
    clear hb1
    go_wp2_with fail
    refine (alive_walk _ (HM.out.below HB1.out) (HT.out.below HB1.out)).mono ?_
    rintro e w2 ⟨rfl, hb2⟩
    go_wp2_with fail
    go_ret
    exact ⟨rfl, HB1.out.trans (hb2.mono HB1.out.size)⟩
  | true =>
    obtain ⟨F, rfl⟩ : ∃ F : Ent, E = F.re := ⟨E.ent, (ent_re hr).symm⟩
    have hr' : rightOk F.re.a F.re.b F.re.v.data.toList F.re.x.data.toList = true := hr
    have HR := Lib.hid hr'
    have HOK := Lib.hid hr
    have L0 := Loc.new w F.re 27
    have HL0 := Lib.hid L0
    obtain ⟨j, hj3, hj⟩ := and_three more
    have hsz60 := RE.line_length hr
    obtain ⟨lb, hlb⟩ : ∃ lb : ByteArray, lb.data.toList = F.re.line := ⟨⟨F.re.line.toArray⟩, by simp⟩
    have hlbs : lb.size ≤ 60 := by rw [Lib.size_eq, hlb]; exact hsz60
    have HLB := Lib.hid hlb
    clear hr hr' L0 hsz60 hlb
    go_enter Tryz.func6, Tryz.ntmps6
    go_wp2_with fail
    refine (refRight_at _ _ _ _ true _ hv hx HR.out).mono ?_
    rintro e w1 ⟨rfl, hb1⟩
    have HB1 := Lib.hid (HB0.out.trans (hb1.mono HB0.out.size))
    have hz1 : w.heap.size < w1.heap.size := by have := hb1.size; simp at this; omega
    have HL1 := Lib.hid (HL0.out.below hb1)
    have HZ1 := Lib.hid hz1
    clear hb1 hz1
    go_wp2_with fail
    clear hj
    go_loopw [7, 8, 9] (fun vl vs vi wr => ∃ (k : Nat) (s : ByteArray), vi = .int .i64 k ∧ vs = .string s ∧ k ≤ 598 + j ∧ s.size ≤ 60 * k ∧ Hid (ML w wr F k vl s)) (fun _ _ vi _ => 598 + j - (intOf vi).toNat)
    case atStart => exact ⟨0, ⟨#[]⟩, rfl, rfl, by omega, by simp [ByteArray.size], Lib.hid ⟨HB1.out, HL1.out, World.ownsRow_nil _ _ _ _, rfl, HZ1.out⟩⟩
    case round =>
      obtain ⟨k, s, rfl, rfl, hk, hsz, hh⟩ := hrel
      by_cases hkn : k < 598 + j
      · have hkn' : (k : Int) < 598 + (j : Int) := by omega
        obtain ⟨c0, c1, c2, c3⟩ := hh.out.loc
        obtain ⟨i0, hi, hz0, hz1, hz2⟩ := info_parts entry_info
        have HI0 := Lib.hid hi
        have HI1 := Lib.hid hz0
        have HI2 := Lib.hid hz1
        have HI3 := Lib.hid hz2
        clear hi hz0 hz1 hz2
        have hlen : (many k F).length ≤ 601 := by rw [many_length]; omega
        have hbase := hh.out.siz
        have hcc : ∀ j u, (entC F)[j]? = some u → (wr.alloc (.cells #[.int .i64 F.re.a, .int .i64 F.re.b, .string F.re.v, .string F.re.x] 27)).cell? ((⟨wr.heap.size, 0, none⟩ : Addr).add j) = some u := by
          intro j u hu
          rw [addr_add, Nat.zero_add, World.cell?_alloc_new]
          simpa [entC, Ent.re] using hu
        have hone : ∀ u ∈ entC F, u.oneCell' = true := by
          intro u hu
          simp only [entC, List.mem_cons, List.not_mem_nil, or_false] at hu
          rcases hu with rfl | rfl | rfl | rfl <;> rfl
        have HCC := Lib.hid hcc
        have HONE := Lib.hid hone
        have hlenm : (many k F).length + 1 ≤ maxLen := by simp only [maxLen]; omega
        have hlenb : ((many k F).length + 1) * 48 ≤ 140737488355328 := by omega
        have hbase' : w.heap.size + 1 ≤ (wr.alloc (.cells #[.int .i64 F.re.a, .int .i64 F.re.b, .string F.re.v, .string F.re.x] 27)).heap.size := by simp; omega
        have HM1 := Lib.hid hlenm
        have HM2 := Lib.hid hlenb
        have HM3 := Lib.hid hbase'
        clear hcc hone hlenm hlenb hbase' hlen
        go_wp2_with (at_builtin; refine wpList_append_own _ rfl _ _ 22 rfl (w.heap.size + 1) 27 i0 _ 4 48 Tryz.underlying22 HI0.out HI1.out HI2.out HI3.out rfl (by decide) _ _ _ rfl (hh.out.own.alloc _) _ 1 1 (entC F) rfl rfl HCC.out HONE.out HM1.out HM2.out HM3.out ?_)
        intro v' w9 hown9 hgr9 _
        obtain ⟨g1, g2, g3, g4⟩ := hh.out.grow hown9 hgr9
        have G1 := Lib.hid g1
        have G2 := Lib.hid g2
        have G3 := Lib.hid g3
        have G4 := Lib.hid g4
        clear hown9 hgr9 g1 g3 g4 c0 c1 c2 c3
        obtain ⟨d0, d1, d2, d3⟩ := g2
        go_wp2_with fail
        refine (line_walk F.re lb _ HOK.out HLB.out).mono ?_
        rintro e w10 ⟨rfl, hb10⟩
        have HN : Hid (ML w w10 F (k + 1) v' (s ++ lb)) := Lib.hid ⟨G1.out.trans (hb10.mono G1.out.size), G2.out.below hb10, ownsRow_below G3.out hb10, by
          rw [many_succ, List.map_append, List.flatMap_append, ← hh.out.txt, ByteArray.data_append, Array.toList_append, HLB.out]
          simp, by have := G4.out; have := hb10.size; omega⟩
        clear hb10
        go_wp2_with fail
        exact ⟨⟨k + 1, _, by simp, rfl, by omega, by simp only [ByteArray.size_append]; omega, HN⟩, by simp [intOf]; omega⟩
      · have hkk : k = 598 + j := by omega
        subst hkk
        obtain ⟨g1, _, g3, g4, _⟩ := hh.out
        have hE := entsAt_row g3
        have hl := many_length (598 + j) F
        obtain ⟨es, hes⟩ : ∃ es, es = (many (598 + j) F).map Ent.re := ⟨_, rfl⟩
        have hel : es.length = 598 + j := by rw [hes, List.length_map, hl]
        have hok : ∀ E ∈ es, E.ok = true := by rw [hes]; exact many_ok HOK.out
        have hss : ∀ E ∈ es, E.v.size ≤ 9223372036854775807 ∧ E.x.size ≤ 9223372036854775807 := by
          intro E hE
          obtain ⟨_, _, _, p4, p5⟩ := RE.ok_parts (hok E hE)
          exact ⟨by omega, by omega⟩
        rw [← hes] at hE g4
        obtain ⟨ad, cp0, rfl⟩ := hh.out.slice (by omega)
        have hsl : s.data.toList.length < 4294967281 := by rw [← Lib.size_eq]; omega
        have HSL := Lib.hid hsl
        obtain ⟨w2, cp, hcv, hb2, hy2⟩ := conv_new wr s
        have HB2 := Lib.hid (g1.trans (hb2.mono g1.size))
        have HY2 := Lib.hid hy2
        have HE2 := Lib.hid (hE.below hb2)
        have HSS := Lib.hid hss
        have hla : es.length ≤ 9223372036854775807 := by omega
        have HLA := Lib.hid hla
        by_cases hov : 600 < 598 + j
        · have hov' : (600 : Int) < 598 + (j : Int) := by omega
          have HP := Lib.hid (show parseL s.data.toList = none by rw [g4]; exact parse_over es hok (by omega))
          have HX := Lib.hid (show textR es = none by unfold textR; rw [if_neg]; rintro ⟨h, _⟩; omega)
          clear hb2 hy2 hE hss hla hok g1 g3 g4 hes hl hel hsl hh
          go_wp2_with fail
          refine (parse_bad _ _ _ (HM.out.below HB2.out) HSL.out HY2.out HP.out).mono ?_
          rintro e w3 ⟨rfl, hb3⟩
          have HB3 := Lib.hid (HB2.out.trans (hb3.mono HB2.out.size))
          have HE3 := Lib.hid (HE2.out.below hb3)
          clear hb3
          go_wp2_with fail
          refine (text_bad _ es _ (HT.out.below HB3.out) HE3.out HSS.out HLA.out HX.out).mono ?_
          rintro e w4 ⟨rfl, hb4⟩
          have HB4 := Lib.hid (HB3.out.trans (hb4.mono HB3.out.size))
          clear hb4
          go_wp2_with fail
          refine (alive_walk _ (HM.out.below HB4.out) (HT.out.below HB4.out)).mono ?_
          rintro e w5 ⟨rfl, hb5⟩
          have HB5 := Lib.hid (HB4.out.trans (hb5.mono HB4.out.size))
          clear hb5
          go_wp2_with fail
          go_ret
          exact ⟨rfl, HB5.out⟩
        · have hov' : ¬ (600 : Int) < 598 + (j : Int) := by omega
          have HP := Lib.hid (show parseL s.data.toList = some (es.map RE.ent) by rw [g4]; exact parse_lines es hok (by omega))
          have HX := Lib.hid (show textR es = some s.data.toList by unfold textR; rw [if_pos ⟨by omega, hok⟩, ← g4])
          have HPL := Lib.hid (show (es.map RE.ent).length = 598 + j by rw [List.length_map, hel])
          clear hb2 hy2 hE hss hla hok g1 g3 g4 hes hl hel hsl hh
          go_wp2_with fail
          refine (parse_goodn _ _ _ (598 + j) _ (HM.out.below HB2.out) HSL.out HY2.out HP.out HPL.out).mono ?_
          rintro e w3 ⟨ad3, c3, rfl, hb3⟩
          have HB3 := Lib.hid (HB2.out.trans (hb3.mono HB2.out.size))
          have HE3 := Lib.hid (HE2.out.below hb3)
          clear hb3
          go_wp2_with fail
          refine (text_goods _ es s _ (HT.out.below HB3.out) HE3.out HSS.out HLA.out HX.out).mono ?_
          rintro e w4 ⟨v4, rfl, hb4, hy4⟩
          have HB4 := Lib.hid (HB3.out.trans (hb4.mono HB3.out.size))
          have HY4 := Lib.hid hy4
          clear hb4 hy4
          go_wp2_with fail
          refine (alive_walk _ (HM.out.below HB4.out) (HT.out.below HB4.out)).mono ?_
          rintro e w5 ⟨rfl, hb5⟩
          have HB5 := Lib.hid (HB4.out.trans (hb5.mono HB4.out.size))
          have hc5 := (HY4.out.below hb5).conv
          rw [bL_of s] at hc5
          clear hb5
          go_wp2_with fail
          go_ret
          exact ⟨rfl, HB5.out⟩
end Go.Proofs.YtefjnpflpgilpaaGreatDoor
