/- The walk of ucd.figured. Conditions: a number from 0 to 4294967295; one cell of the library's table. -/
import Derived.Test.YtefjnpflpgilpaaGreatDoorUcdN
import Derived.Test.YtefjnpflpgilpaaGreatDoorUcdC
namespace Go.Proofs.YtefjnpflpgilpaaGreatDoor
open Go.RowKit

theorem dig_ascii (d : Nat) (h : d < 16) : (dig d).toNat < 128 := by
  revert d
  decide
theorem hexS_length (k : Nat) : ∀ u, u < 16 ^ (k + 1) → (hexS u).length ≤ k + 1 := by
  induction k with
  | zero => intro u h; rw [hexS_low (by simpa using h)]; simp
  | succ k ih =>
    intro u h
    by_cases hlt : u < 16
    · rw [hexS_low hlt]; simp
    · rw [hexS_high hlt, List.length_append]
      have := ih (u / 16) (by rw [Nat.div_lt_iff_lt_mul (by decide)]; rw [Nat.pow_succ] at h; exact h)
      simp
      omega
theorem hexS_ascii (u : Nat) : ∀ b ∈ hexS u, b.toNat < 128 := by
  induction u using Nat.strongRecOn with
  | _ u ih =>
    intro b hb
    by_cases hlt : u < 16
    · rw [hexS_low hlt] at hb
      rw [List.mem_singleton.1 hb]
      exact dig_ascii u hlt
    · rw [hexS_high hlt] at hb
      rcases List.mem_append.1 hb with h | h
      · exact ih (u / 16) (by omega) b h
      · rw [List.mem_singleton.1 h]
        exact dig_ascii _ (by omega)

theorem format_walk (u : Nat) (w : World) (hT : HasTab w) (hu : u < 4294967296) :
    Calls Tryz.prog 48 #[.int .i64 u, .int .i64 16] w fun e w' => e = .returned (.string ⟨(hexS u).toArray⟩) ∧ Below w.heap.size w w' := by
  have h0 : ¬ ((u : Int) < 0) := by omega
  have hw : IntKind.u64.wrap (u : Int) = (u : Int) := by rw [IntKind.wrap_u64]; omega
  go_enter Tryz.func48, Tryz.ntmps48
  go_wp2_with (go_at_call 73; refine (bits_walk u _ hT hu).mono ?_; rintro e w1 ⟨rfl, hb⟩)
  go_ret
  exact ⟨rfl, hb⟩
theorem format1_walk (u : Nat) (w : World) (hT : HasTab w) (hu : u < 4294967296) :
    Calls Tryz.prog 28 #[.int .i64 u, .int .i64 16] w fun e w' => e = .returned (.string ⟨(hexS u).toArray⟩) ∧ Below w.heap.size w w' := by
  go_enter Tryz.func28, Tryz.ntmps28
  go_wp2_with (go_at_call 48; refine (format_walk u _ hT hu).mono ?_; rintro e w1 ⟨rfl, hb⟩)
  go_ret
  exact ⟨rfl, hb⟩

/-- a number with its figures -/
def upper (u : Nat) : List UInt8 := Lib.toUpperA (hexS u)
def figL (u : Nat) : List UInt8 := List.replicate (4 - (upper u).length) 48 ++ upper u
theorem upper_length (u : Nat) : (upper u).length = (hexS u).length := by simp [upper, Lib.toUpperA]

theorem repeat48 (c : Nat) : (⟨(Lib.repeatL (⟨#[48]⟩ : ByteArray).data.toList c).toArray⟩ : ByteArray).data.toList = List.replicate c 48 := by
  have : ∀ c, Lib.repeatL [48] c = List.replicate c 48 := by
    intro c
    induction c with
    | zero => rfl
    | succ c ih => rw [Lib.repeatL, ih]; rfl
  exact this c
set_option maxRecDepth 100000 in
theorem figured_walk (u : Nat) (w : World) (hT : HasTab w) (hu : u < 4294967296) :
    Calls Tryz.prog 18 #[.int .i64 u] w fun e w' => e = .returned (.string ⟨(figL u).toArray⟩) ∧ Below w.heap.size w w' := by
  have hl := hexS_length 7 u (by simpa using hu)
  have hA := hexS_ascii u
  obtain ⟨s, hs⟩ : ∃ s : ByteArray, s = ⟨(hexS u).toArray⟩ := ⟨_, rfl⟩
  have hsd : s.data.toList = hexS u := by rw [hs]
  have ha : ∀ (j : Nat) (b : UInt8), s.data.toList[j]? = some b → b.toNat < 128 := fun j b hj => by
    rw [hsd] at hj
    exact hA b (List.mem_of_getElem? hj)
  have hsz : s.size ≤ 8 := by rw [Lib.size_eq, hsd]; exact hl
  obtain ⟨U, hU⟩ : ∃ U : ByteArray, U = ⟨(upper u).toArray⟩ := ⟨_, rfl⟩
  have hUs : U.size = (upper u).length := by rw [hU, Lib.size_eq]
  have hU8 : (upper u).length ≤ 8 := by rw [upper_length]; exact hl
  have HS := Lib.hid hs
  have HU := Lib.hid hU
  have HA := Lib.hid ha
  have HSD := Lib.hid hsd
  have eU : (⟨(Lib.toUpperA s.data.toList).toArray⟩ : ByteArray) = U := by rw [hsd, hU]; rfl
  have HEU := Lib.hid eU
  have HUS := Lib.hid hUs
  have hU9 : U.size ≤ 8 := by omega
  have fin : ∀ r : ByteArray, r.data.toList = List.replicate (4 - (upper u).length) 48 → r ++ U = ⟨(figL u).toArray⟩ := fun r hr => by
    apply ByteArray.ext
    apply Array.toList_inj.1
    rw [ByteArray.data_append, Array.toList_append, hr, hU]
    simp [figL]
  have FIN := Lib.hid fin
  clear fin eU hs hU ha hsd hA hUs hU8 hl
  go_enter Tryz.func18, Tryz.ntmps18
  go_wp2_with fail
  refine (format1_walk u _ hT hu).mono ?_
  rintro e w1 ⟨rfl, hb⟩
  rw [← HS.out]
  go_wp2_with (go_at_call 27; refine (Tryz.strings_ToUpper_ascii s _ (by omega) HA.out).mono ?_; rintro e w2 ⟨rfl, hb2⟩; rw [HEU.out])
  rw [show max (4 - (U.size : Int)) 0 = ((4 - U.size : Nat) : Int) by omega]
  refine (Tryz.strings_Repeat ⟨#[48]⟩ (4 - U.size) _ (by omega) (by show 1 * (4 - U.size) ≤ _; omega)).mono ?_
  rintro e w3 ⟨rfl, hb3⟩
  obtain ⟨R, hR⟩ : ∃ R : ByteArray, R = ⟨(Lib.repeatL (⟨#[48]⟩ : ByteArray).data.toList (4 - U.size)).toArray⟩ := ⟨_, rfl⟩
  rw [← hR]
  have hRd : R.data.toList = List.replicate (4 - U.size) 48 := by rw [hR]; exact repeat48 _
  have hR4 : R.size ≤ 4 := by rw [Lib.size_eq, hRd, List.length_replicate]; omega
  rw [HUS.out] at hRd
  have HRD := Lib.hid hRd
  clear hR hRd
  go_wp2_with fail
  go_ret
  refine ⟨?_, (hb.trans (hb2.mono hb.size)).trans (hb3.mono (Nat.le_trans hb.size hb2.size))⟩
  rw [FIN.out R HRD.out]
  rfl
end Go.Proofs.YtefjnpflpgilpaaGreatDoor
