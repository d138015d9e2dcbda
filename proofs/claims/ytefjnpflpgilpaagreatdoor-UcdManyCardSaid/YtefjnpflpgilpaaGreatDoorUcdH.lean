/- A round that panics: its law; the walk of strings.SplitSeq's iterator at a newline. Conditions: none. -/
import Derived.Test.YtefjnpflpgilpaaGreatDoorUcdG
import Derived.RangeFuncNested
import Derived.RangeFuncBound
import Derived.RangeFuncCalls
import Derived.RangeFuncLeaves
import Derived.RangeFuncRecord
import Derived.Shelf.Abstract
import Derived.Shelf.RegionOpen
import Derived.WalkKit
import Derived.OwnWalkIn
import Derived.TacticsInMore
import Derived.LoopNIn
import Derived.LoopIn
namespace Go.Proofs.YtefjnpflpgilpaaGreatDoor
open Go.RowKit Go.Shelf
attribute [local go_sem] Oper.semAt_some

/-- at a round's end: as in the kit, and a panic goes to the caller -/
def roundPostP (P : Program) (l : Nat) (R : Ending → World → Prop) : Exit → Act → World → Prop
  | .panic chain, a, w => a.defers = [] ∧ R (.panicked chain) w
  | e, a, w => roundPost P l R e a w

section
variable {F : Fence} {n : Nat} {P : Program}
theorem roundIn_of_wpIn_panics {l : Nat} {f : FuncId} {fn : Func} {tmps : Array Value} {assign body : Code} {w : World} {R : Ending → World → Prop} (hF : F.fn f) (hfn : P.funcs[f]? = some fn)
    (h : assign.wpIn (F.inRound l) n P (Exit.then (fun a₁ w₁ => ∃ w₂, (Instr.beginRound l).run P w₁ = .ok () w₂ ∧ body.wpIn (F.inRound l) n P (roundPostP P l R) a₁ w₂) (fun _ _ _ => False))
      { tmps := tmps, defers := [] } w) :
    RoundIn F n P l f tmps assign body w R := by
  refine ⟨hF, fun c cs hr => ?_⟩
  let b : Frame := { (default : Frame) with fn := f, kind := .normal, roundOf := some l }
  have hb0 : Frame.round l f tmps assign body .normal = b.atR { tmps := tmps, defers := [] } [.code assign, .beginRound, .code body] := by
    simp [Frame.round, Frame.atR, b]
  have hr' : (F.inRound l).room ((c :: cs).length + 1 + n) := hr
  have hF' : (F.inRound l).fn b.fn := hF
  obtain ⟨e, a₁, w₁, hq, harr⟩ := h b [.beginRound, .code body] (c :: cs) rfl hF' hr'
  rw [← hb0] at harr
  cases e with
  | normal =>
    obtain ⟨w₂, hbr, hbody⟩ := hq
    have s1 : StepsIn (Machine.fenced P (F.inRound l)) P (lone (b.atR a₁ [.beginRound, .code body]) (c :: cs) w₁) (lone (b.atR a₁ [.code body]) (c :: cs) w₂) :=
      .one (fenced_calm (fr := b.atR a₁ [.beginRound, .code body]) hF' hr' rfl) (stepR_beginRound rfl hbr)
    obtain ⟨e₂, a₂, w₃, hq₂, harr₂⟩ := hbody b [] (c :: cs) rfl hF' hr'
    cases e₂ with
    | normal =>
      obtain ⟨v, w₄, hend, hR⟩ := hq₂
      exact ⟨.returned v, w₄, hR, (StepsIn.trans harr s1).trans (StepsIn.trans harr₂ (.one (fenced_calm (fr := b.atR a₂ []) hF' hr' rfl) (stepR_round_end rfl rfl hend)))⟩
    | ret =>
      obtain ⟨v, w₄, hend, hR⟩ := hq₂
      obtain ⟨k₁, hs⟩ := harr₂.2 rfl
      exact ⟨.returned v, w₄, hR, (StepsIn.trans harr s1).trans (StepsIn.trans hs (.one (fenced_calm (fr := b.atR a₂ (.code .ret :: k₁)) hF' hr' rfl) (stepR_round_ret rfl rfl hend)))⟩
    | exit id =>
      obtain ⟨v, w₄, hend, hR⟩ := hq₂
      obtain ⟨k₁, hk, hs⟩ := harr₂.2 rfl rfl
      exact ⟨.returned v, w₄, hR, (StepsIn.trans harr s1).trans (StepsIn.trans hs (.one (fenced_calm (fr := b.atR a₂ (.code (.exit id) :: k₁)) hF' hr' rfl) (stepR_round_exit rfl rfl hk hend)))⟩
    | goto t =>
      obtain ⟨v, w₄, hend, hR⟩ := hq₂
      obtain ⟨k₁, hk, hs⟩ := harr₂.2 rfl rfl
      exact ⟨.returned v, w₄, hR, (StepsIn.trans harr s1).trans (StepsIn.trans hs (.one (fenced_calm (fr := b.atR a₂ (.code (.goto t) :: k₁)) hF' hr' rfl) (stepR_round_goto rfl rfl hk hend)))⟩
    | panic chain =>
      obtain ⟨hd, hR⟩ := hq₂
      obtain ⟨todo, hs⟩ := harr₂
      have hl : ({ b.atR a₂ todo with mode := .panicking chain } : Frame).leaving P w₃ (.panicked chain) := ⟨rfl, hd, fn, hfn⟩
      exact ⟨.panicked chain, w₃, hR, (StepsIn.trans harr s1).trans (StepsIn.trans hs (.one (fenced_leaving hF' hr' hl) (step_leave_panicked hl)))⟩
    | outgrown => exact hq₂.elim
  | exit id => exact hq.elim
  | goto t => exact hq.elim
  | ret => exact hq.elim
  | panic chain => exact hq.elim
  | outgrown => exact hq.elim
end

/-- three cells at blocks B, B+1, B+2 lie as they lay -/
def Kept3 (B : Nat) (w w' : World) : Prop := ∀ i, i < 3 → w'.cell? ⟨B + i, 0, none⟩ = w.cell? ⟨B + i, 0, none⟩ ∧ w'.frozen? ⟨B + i, 0, none⟩ = w.frozen? ⟨B + i, 0, none⟩
def restOf (B : Nat) (w : World) : Nat := match w.cell? ⟨B, 0, none⟩ with
  | some (.string t) => t.size + 1
  | _ => 0

set_option maxRecDepth 100000 in
set_option maxHeartbeats 1000000 in
theorem seq_walk (n l B : Nat) (h1 : 1 ≤ n) (s : ByteArray) (hs : s.size < 4294967281) (J : List (List UInt8) → World → Prop) (Jx : List PanicEntry → World → Prop)
    (hJ : ∀ pre w (t : ByteArray), J pre w → J pre (w.setCell ⟨B, 0, none⟩ (.string t)))
    (hY : ∀ pre x post w, J pre w → splitL 10 s.data.toList = pre ++ x.data.toList :: post → x.size ≤ s.size → YieldAt Fence.wide (n - 1) Tryz.prog l #[.string x] w fun e w' =>
      (e = .returned (.bool true) ∧ J (pre ++ [x.data.toList]) w' ∧ Kept3 B w w') ∨ (∃ chain, e = .panicked chain ∧ Jx chain w'))
    (w : World) (h0 : J [] w) (c0 : w.cell? ⟨B, 0, none⟩ = some (.string s)) (c1 : w.cell? ⟨B + 1, 0, none⟩ = some (.string ⟨#[10]⟩)) (c2 : w.cell? ⟨B + 2, 0, none⟩ = some (.int .i64 0)) (f0 : w.frozen? ⟨B, 0, none⟩ = false) :
    CallsIn Fence.wide n Tryz.prog 52 #[.func (.yield l) #[] #[], .pointer (some ⟨B + 1, 0, none⟩), .pointer (some ⟨B, 0, none⟩), .pointer (some ⟨B + 2, 0, none⟩)] w fun e w' =>
      ((∃ v, e = .returned v) ∧ J (splitL 10 s.data.toList) w') ∨ (∃ chain, e = .panicked chain ∧ Jx chain w') := by
  refine callsIn_of_wp Tryz.func52 rfl trivial ?_ rfl
  simp only [Tryz.ntmps52, List.size_toArray, List.length_cons, List.length_nil, Nat.reduceAdd, Nat.reduceSub, Array.replicate_succ, Array.replicate_zero, List.push_toArray, List.append_toArray, List.nil_append, List.cons_append]
  have HJ := Lib.hid hJ
  have HY := Lib.hid hY
  clear hJ hY
  gi_wp2
  gi_loopw [] (fun wr => ∃ (pre : List (List UInt8)) (r : ByteArray), wr.cell? ⟨B, 0, none⟩ = some (.string r) ∧ r.size ≤ s.size ∧ wr.cell? ⟨B + 1, 0, none⟩ = some (.string ⟨#[10]⟩) ∧ wr.cell? ⟨B + 2, 0, none⟩ = some (.int .i64 0) ∧ wr.frozen? ⟨B, 0, none⟩ = false ∧
    Hid (splitL 10 s.data.toList = pre ++ splitL 10 r.data.toList ∧ J pre wr)) (fun wr => restOf B wr)
  case atStart => exact ⟨[], s, c0, Nat.le_refl _, c1, c2, f0, Lib.hid ⟨rfl, h0⟩⟩
  case round =>
    obtain ⟨pre, r, g0, hr, g1, g2, g3, hh⟩ := hrel
    rcases splitL_index 10 r.data.toList with ⟨hi, hsp⟩ | ⟨i, hi, hsp⟩
    · have HI := Lib.hid hi
      have HE : Hid (splitL 10 s.data.toList = pre ++ [r.data.toList]) := Lib.hid (by rw [hh.out.1, hsp])
      obtain ⟨fn, tmps, assign, body, hy, hR⟩ := HY.out pre r [] wr hh.out.2 (by rw [hh.out.1, hsp]) hr
      gi_wp2_with (refine ⟨trivial, ?_⟩; gi_at_call 54; refine (callsIn_wide.2 (Tryz.strings_Index_one r 10 _)).mono ?_; rintro e w1 ⟨rfl, hw⟩; obtain rfl := hw.symm; rw [HI.out])
      refine hR.mono ?_
      rintro e w2 (⟨rfl, hJ2, hk2⟩ | ⟨chain, rfl, hx2⟩)
      · gi_wp2
        refine bodyPost_end (results_none rfl _ _ _) rfl (.inl ⟨⟨_, rfl⟩, ?_⟩)
        rw [HE.out]; exact hJ2
      · gi_wp2
        exact ⟨rfl, .inr ⟨chain, rfl, hx2⟩⟩
    · have hb := (Lib.indexByte_some hi).1
      have hil : i < r.size := by
        have := (List.getElem?_eq_some_iff.1 hb).1
        simpa using this
      have HI := Lib.hid hi
      have ex : (r.extract 0 i).data.toList = r.data.toList.take i := by simp
      have ey : (r.extract (i + 1) r.size).data.toList = r.data.toList.drop (i + 1) := by
        simp only [ByteArray.data_extract, Array.toList_extract, List.extract_eq_take_drop]
        rw [List.take_of_length_le (by simp)]
      have sx : (r.extract 0 i).size ≤ s.size := by simp; omega
      have sy : (r.extract (i + 1) r.size).size = r.size - (i + 1) := by simp
      have HE : Hid (splitL 10 s.data.toList = pre ++ (r.extract 0 i).data.toList :: splitL 10 (r.extract (i + 1) r.size).data.toList) := Lib.hid (by rw [hh.out.1, hsp, ex, ey])
      obtain ⟨fn, tmps, assign, body, hyy, hR⟩ := HY.out pre (r.extract 0 i) _ wr hh.out.2 HE.out sx
      have hir : (i : Int) ≤ (r.size : Int) := by omega
      have hir0 : ¬ ((i : Int) < 0) := by omega
      clear hi hsp hb hh
      gi_wp2_with (refine ⟨trivial, ?_⟩; gi_at_call 54; refine (callsIn_wide.2 (Tryz.strings_Index_one r 10 _)).mono ?_; rintro e w1 ⟨rfl, hw⟩; obtain rfl := hw.symm; rw [HI.out])
      refine hR.mono ?_
      rintro e w2 (⟨rfl, hJ2, hk2⟩ | ⟨chain, rfl, hx2⟩)
      · have q0 : w2.cell? ⟨B, 0, none⟩ = some (.string r) := (hk2 0 (by omega)).1.trans g0
        have q1 : w2.cell? ⟨B + 1, 0, none⟩ = some (.string ⟨#[10]⟩) := (hk2 1 (by omega)).1.trans g1
        have q2 : w2.cell? ⟨B + 2, 0, none⟩ = some (.int .i64 0) := (hk2 2 (by omega)).1.trans g2
        have q3 : w2.frozen? ⟨B, 0, none⟩ = false := (hk2 0 (by omega)).2.trans g3
        have wr1 : IntKind.i64.wrap ((i : Int) + 1) = ((i + 1 : Nat) : Int) := IntWalk.i64_in _ (by omega)
        have hb1 : ((i + 1 : Nat) : Int) ≤ (r.size : Int) := by omega
        have ne : ∀ j, j ≠ 0 → (⟨B + j, 0, none⟩ : Addr) ≠ ⟨B, 0, none⟩ := fun j hj e => by injection e; omega
        have p0 : (w2.setCell ⟨B, 0, none⟩ (.string (r.extract (i + 1) r.size))).cell? ⟨B, 0, none⟩ = some (.string (r.extract (i + 1) r.size)) := World.cell?_setCell_same w2 _ _ q0
        have p1 : (w2.setCell ⟨B, 0, none⟩ (.string (r.extract (i + 1) r.size))).cell? ⟨B + 1, 0, none⟩ = some (.string ⟨#[10]⟩) := (World.cell?_setCell_other w2 _ _ _ (ne 1 (by decide)).symm).trans q1
        have p2 : (w2.setCell ⟨B, 0, none⟩ (.string (r.extract (i + 1) r.size))).cell? ⟨B + 2, 0, none⟩ = some (.int .i64 0) := (World.cell?_setCell_other w2 _ _ _ (ne 2 (by decide)).symm).trans q2
        have p3 : (w2.setCell ⟨B, 0, none⟩ (.string (r.extract (i + 1) r.size))).frozen? ⟨B, 0, none⟩ = false := by rw [World.frozen?_setCell]; exact q3
        have pm : restOf B (w2.setCell ⟨B, 0, none⟩ (.string (r.extract (i + 1) r.size))) < restOf B wr := by
          unfold restOf
          rw [p0, g0]
          simp only [sy]
          omega
        have HJ3 := Lib.hid (HJ.out _ _ (r.extract (i + 1) r.size) hJ2)
        gi_wp2
        refine ⟨⟨pre ++ [(r.extract 0 i).data.toList], r.extract (i + 1) r.size, p0, by omega, p1, p2, p3, Lib.hid ⟨by rw [HE.out]; simp, HJ3.out⟩⟩, pm⟩
      · gi_wp2
        exact ⟨rfl, .inr ⟨chain, rfl, hx2⟩⟩
end Go.Proofs.YtefjnpflpgilpaaGreatDoor
