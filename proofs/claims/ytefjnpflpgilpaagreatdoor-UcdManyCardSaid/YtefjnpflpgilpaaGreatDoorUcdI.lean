/- The walk of ucd.Parse's parts: strings.SplitSeq; the deferred function; one round. Conditions: none. -/
import Derived.Test.YtefjnpflpgilpaaGreatDoorUcdH
import Derived.RecoverIn
import Derived.Laws.IdiomStrings
import Derived.Lib.BufferRead
namespace Go.Proofs.YtefjnpflpgilpaaGreatDoor
open Go.RowKit Go.Shelf
attribute [local go_sem] Oper.semAt_some
variable {n : Nat}

theorem splitSeq_walk (s p : ByteArray) (k : Int) (w : World) :
    Calls Tryz.prog 30 #[.string s, .string p, .int .i64 k] w fun e w' => e = .returned (.func (.func 52) #[] #[.pointer (some ⟨w.heap.size + 1, 0, none⟩), .pointer (some ⟨w.heap.size, 0, none⟩), .pointer (some ⟨w.heap.size + 2, 0, none⟩)]) ∧
      w' = ((w.alloc (.cells #[.string s] 9)).alloc (.cells #[.string p] 9)).alloc (.cells #[.int .i64 k] 3) := by
  go_enter Tryz.func30, Tryz.ntmps30
  go_wp2_with fail
  go_ret
  exact ⟨by simp, rfl⟩
theorem splitSeq1_walk (s p : ByteArray) (w : World) :
    Calls Tryz.prog 20 #[.string s, .string p] w fun e w' => e = .returned (.func (.func 52) #[] #[.pointer (some ⟨w.heap.size + 1, 0, none⟩), .pointer (some ⟨w.heap.size, 0, none⟩), .pointer (some ⟨w.heap.size + 2, 0, none⟩)]) ∧
      w' = ((w.alloc (.cells #[.string s] 9)).alloc (.cells #[.string p] 9)).alloc (.cells #[.int .i64 0] 3) := by
  go_enter Tryz.func20, Tryz.ntmps20
  go_wp2_with (go_at_call 30; refine (splitSeq_walk s p 0 _).mono ?_; rintro e w1 ⟨rfl, rfl⟩)
  go_ret
  exact ⟨rfl, rfl⟩

theorem rescue_walk (p q : Addr) (older : List PanicEntry) (u : TypeId) (pv : Value) (w : World) (x y : Value) (hc : w.cell? p = some x) (hz : w.frozen? p = false)
    (hd : w.cell? q = some y) (hy : w.frozen? q = false) (hpq : p ≠ q) :
    CallsDIn Fence.wide n Tryz.prog 19 #[.pointer (some p), .pointer (some q)] (.panicking ({ v := .iface u pv, recovered := false } :: older)) w fun e u' w' =>
      e = .returned (.tuple #[]) ∧ u' = .panicking ({ v := .iface u pv, recovered := true } :: older) ∧ w' = (w.setCell p (.slice none 0 0)).setCell q (.int .i64 21) := by
  refine callsDIn_of_wpSIn Tryz.func19 rfl trivial fun c₀ cs hu => ?_
  have hd' : (w.setCell p (.slice none 0 0)).cell? q = some y := (World.cell?_setCell_other w _ _ _ hpq).trans hd
  apply wpSIn_seq
  apply wpSIn_region
  simp [wpOpsSIn, go_sem, recoverD, hu, Tryz.ntmps19, Exit.thenS, Fence.wide]
  refine wpSIn_cond (t := true) (by simp [Act.eval, Array.replicate]) ?_
  simp only [if_true]
  apply wpSIn_region
  simp [wpOpsSIn, go_sem, hc, hz, hd', hy, World.frozen?_setCell, bodyPostS, results, Tryz.results19]

theorem idle_walk (p q : Addr) (w : World) :
    CallsDIn Fence.wide n Tryz.prog 19 #[.pointer (some p), .pointer (some q)] .returning w fun e u' w' => e = .returned (.tuple #[]) ∧ u' = .returning ∧ w' = w := by
  refine callsDIn_of_wpSIn Tryz.func19 rfl trivial fun c₀ cs hu => ?_
  apply wpSIn_seq
  apply wpSIn_region
  simp [wpOpsSIn, go_sem, recoverD, hu, Tryz.ntmps19, Exit.thenS, Fence.wide]
  refine wpSIn_cond (t := false) (by simp [Act.eval, Array.replicate]) ?_
  simp only [Bool.false_eq_true, if_false]
  refine wpSIn_of_wpIn rfl (wpIn_skip ?_)
  cases c₀
  simp_all [bodyPostS, results, Tryz.results19]
end Go.Proofs.YtefjnpflpgilpaaGreatDoor
