/- Colours: three numbers in a block, and each, which maps them by a function, whatever function it is. -/
import Derived.Test.YtmilljlkcbljpaaSv
import Derived.OneCell
namespace Go.Proofs.Ytmilljlkcbljpaa
open Go.RowKit

/-- A colour, as a value. -/
def col (c : Nat → Int) : Value := .agg #[.int .i64 (c 0), .int .i64 (c 1), .int .i64 (c 2)]

/-- Three numbers in a block. -/
def Tri (t : TypeId) (w : World) (b : Nat) (c : Nat → Int) : Prop := w.heap[b]? = some (.cells #[.int .i64 (c 0), .int .i64 (c 1), .int .i64 (c 2)] t (0, 0))
theorem Tri.c0 {t : TypeId} {w : World} {b : Nat} {c : Nat → Int} (h : Tri t w b c) : w.cell? ⟨b, 0, none⟩ = some (.int .i64 (c 0)) := by simp [World.cell?, show w.heap[b]? = _ from h]
theorem Tri.c1 {t : TypeId} {w : World} {b : Nat} {c : Nat → Int} (h : Tri t w b c) : w.cell? ⟨b, 1, none⟩ = some (.int .i64 (c 1)) := by simp [World.cell?, show w.heap[b]? = _ from h]
theorem Tri.c2 {t : TypeId} {w : World} {b : Nat} {c : Nat → Int} (h : Tri t w b c) : w.cell? ⟨b, 2, none⟩ = some (.int .i64 (c 2)) := by simp [World.cell?, show w.heap[b]? = _ from h]
theorem Tri.free {t : TypeId} {w : World} {b : Nat} {c : Nat → Int} (h : Tri t w b c) (j : Nat) : w.frozen? ⟨b, j, none⟩ = false := frozen_of_row w b j _ _ h
theorem Tri.lt {t : TypeId} {w : World} {b : Nat} {c : Nat → Int} (h : Tri t w b c) : b < w.heap.size := (Array.getElem?_eq_some_iff.1 h).1
theorem Tri.below {t : TypeId} {w w' : World} {b B : Nat} {c : Nat → Int} (h : Tri t w b c) (hb : Below B w w') (hB : b < B) : Tri t w' b c := (hb.block b hB).trans h
theorem Tri.on {t : TypeId} {w w' : World} {b : Nat} {c : Nat → Int} (h : Tri t w b c) (hb : Below w.heap.size w w') : Tri t w' b c := h.below hb h.lt
theorem Tri.keep {t : TypeId} {w : World} {b b' j : Nat} {c : Nat → Int} {v : Value} (h : Tri t w b c) (hb : b ≠ b') : Tri t (w.setCell ⟨b', j, none⟩ v) b c := (Below.heap_setCell w ⟨b', j, none⟩ v b hb).trans h
theorem Tri.congr {t : TypeId} {w : World} {b : Nat} {c d : Nat → Int} (h : Tri t w b c) (h0 : d 0 = c 0) (h1 : d 1 = c 1) (h2 : d 2 = c 2) : Tri t w b d := by unfold Tri; rw [h0, h1, h2]; exact h
theorem Tri.set {t : TypeId} {w : World} {b j : Nat} {c d : Nat → Int} {v : Int} (h : Tri t w b c) (hj : j < 3) (hv : d j = v) (ho : ∀ i, i ≠ j → d i = c i) : Tri t (w.setCell ⟨b, j, none⟩ (.int .i64 v)) b d := by
  have h1 := heap_setCell_same w b j _ _ (.int .i64 v) h
  unfold Tri
  rw [h1]
  subst hv
  rcases j with _ | _ | _ | j
  · simp [ho 1 (by omega), ho 2 (by omega)]
  · simp [ho 0 (by omega), ho 2 (by omega)]
  · simp [ho 0 (by omega), ho 1 (by omega)]
  · omega
theorem Tri.new (w : World) (c : Nat → Int) (t : TypeId) : Tri t (w.alloc (.cells #[.int .i64 (c 0), .int .i64 (c 1), .int .i64 (c 2)] t)) w.heap.size c := heap_alloc_new w _

theorem set3_below {B b : Nat} {w w0 : World} (h : Below B w w0) (hb : B ≤ b) (x0 x1 x2 : Value) : Below B w (((w0.setCell ⟨b, 0, none⟩ x0).setCell ⟨b, 1, none⟩ x1).setCell ⟨b, 2, none⟩ x2) :=
  ((h.setCell (p := ⟨b, 0, none⟩) hb _).setCell (p := ⟨b, 1, none⟩) hb _).setCell (p := ⟨b, 2, none⟩) hb _
theorem Tri.cell {t : TypeId} {w : World} {b : Nat} {c : Nat → Int} (h : Tri t w b c) (j : Nat) (hj : j < 3) : w.cell? ⟨b, j, none⟩ = some (.int .i64 (c j)) := by
  obtain rfl | rfl | rfl : j = 0 ∨ j = 1 ∨ j = 2 := by omega
  · exact h.c0
  · exact h.c1
  · exact h.c2

theorem index_0 (x0 x1 x2 : Value) (w : World) : (Instr.index 28 (.agg #[x0, x1, x2]) (.int .i64 0)).run Try.prog w = .ok x0 w := by kernel_rfl
theorem index_1 (x0 x1 x2 : Value) (w : World) : (Instr.index 28 (.agg #[x0, x1, x2]) (.int .i64 1)).run Try.prog w = .ok x1 w := by kernel_rfl
theorem index_2 (x0 x1 x2 : Value) (w : World) : (Instr.index 28 (.agg #[x0, x1, x2]) (.int .i64 2)).run Try.prog w = .ok x2 w := by kernel_rfl

/-- The numbers after k rounds of each. -/
def eachV (c r : Nat → Int) (k i : Nat) : Int := if i < k then r i else c i

set_option maxHeartbeats 1000000 in
theorem each_clamped {b1 b2 : Value} {c r : Nat → Int} {w : World}
    (hf : ∀ i : Nat, i < 3 → ∀ W, Below w.heap.size w W → Calls Try.prog 89 #[.int .i64 i, .int .i64 (c i), b1, b2] W fun e W' => e = .returned (.int .i64 (r i)) ∧ Below W.heap.size W W') :
    Calls Try.prog 58 #[col c, .func (.func 89) #[] #[b1, b2]] w fun e w' => e = .returned (col r) ∧ Below w.heap.size w w' := by
  have HF := Lib.hid hf
  clear hf
  unfold col
  have i0 := index_0
  have i1 := index_1
  have i2 := index_2
  go_enter Try.func58, Try.ntmps58
  go_wp2
  have T1 := (Tri.new w c 28).below (((Below.refl _ _).alloc (Nat.le_refl _) (.cells #[.int .i64 0, .int .i64 0, .int .i64 0] 28))) (by simp)
  have T2 := Tri.new (w.alloc (.cells #[.int .i64 (c 0), .int .i64 (c 1), .int .i64 (c 2)] 28)) (fun _ => 0) 28
  rw [World.size_alloc] at T2
  have B1 : Below w.heap.size w ((w.alloc (.cells #[.int .i64 (c 0), .int .i64 (c 1), .int .i64 (c 2)] 28)).alloc (.cells #[.int .i64 0, .int .i64 0, .int .i64 0] 28)) := ((Below.refl _ w).alloc (Nat.le_refl _) _).alloc (by simp) _
  go_loopw [8] (fun i wr => ∃ k : Nat, k ≤ 3 ∧ i = .int .i64 k ∧ Tri 28 wr w.heap.size (eachV c r k) ∧ Tri 28 wr (w.heap.size + 1) (fun _ => 0) ∧ Below w.heap.size w wr) (fun i _ => 3 - (intOf i).toNat)
  case atStart => exact ⟨0, by omega, rfl, T1, T2, B1⟩
  case round =>
    obtain ⟨k, hk, rfl, t1, t2, hb⟩ := hrel
    obtain rfl | rfl | rfl | rfl : k = 0 ∨ k = 1 ∨ k = 2 ∨ k = 3 := by omega
    · have hF := HF.out 0 (by omega)
      have hT := Lib.hid t1
      have hT2 := Lib.hid t2
      have hc : wr.cell? ⟨w.heap.size, 0, none⟩ = some (.int .i64 (c 0)) := t1.c0
      have HF' := Lib.hid hF
      clear hF t1 t2
      have hsz := hb.size
      go_wp2_with fail
      refine (HF'.out wr hb).mono ?_
      rintro e w1 ⟨rfl, hb1⟩
      have t1 := hT.out.on hb1
      have t2 := hT2.out.on hb1
      have hc' := t1.c0
      have hfr := t1.free 0
      have HS := Lib.hid (t1.set (j := 0) (d := eachV c r 1) (v := r 0) (by omega) (by simp [eachV]) (fun i hi => by unfold eachV; by_cases h : i < 0 <;> simp [h] <;> omega))
      have HK := Lib.hid (t2.keep (b' := w.heap.size) (j := 0) (v := .int .i64 (r 0)) (by omega))
      have hb2 := hb.trans (hb1.mono hsz)
      clear t1 t2
      go_wp2
      go_roundw
      case rel => exact ⟨1, by omega, rfl, HS.out, HK.out, hb2.setCell (by simp) _⟩
      case measure => simp [intOf]
    · have hF := HF.out 1 (by omega)
      have hT := Lib.hid t1
      have hT2 := Lib.hid t2
      have hc : wr.cell? ⟨w.heap.size, 1, none⟩ = some (.int .i64 (c 1)) := t1.c1
      have HF' := Lib.hid hF
      clear hF t1 t2
      have hsz := hb.size
      go_wp2_with fail
      refine (HF'.out wr hb).mono ?_
      rintro e w1 ⟨rfl, hb1⟩
      have t1 := hT.out.on hb1
      have t2 := hT2.out.on hb1
      have hc' := t1.c1
      have hfr := t1.free 1
      have HS := Lib.hid (t1.set (j := 1) (d := eachV c r 2) (v := r 1) (by omega) (by simp [eachV]) (fun i hi => by unfold eachV; by_cases h : i < 1 <;> simp [h] <;> omega))
      have HK := Lib.hid (t2.keep (b' := w.heap.size) (j := 1) (v := .int .i64 (r 1)) (by omega))
      have hb2 := hb.trans (hb1.mono hsz)
      clear t1 t2
      go_wp2
      go_roundw
      case rel => exact ⟨2, by omega, rfl, HS.out, HK.out, hb2.setCell (by simp) _⟩
      case measure => simp [intOf]
    · have hF := HF.out 2 (by omega)
      have hT := Lib.hid t1
      have hT2 := Lib.hid t2
      have hc : wr.cell? ⟨w.heap.size, 2, none⟩ = some (.int .i64 (c 2)) := t1.c2
      have HF' := Lib.hid hF
      clear hF t1 t2
      have hsz := hb.size
      go_wp2_with fail
      refine (HF'.out wr hb).mono ?_
      rintro e w1 ⟨rfl, hb1⟩
      have t1 := hT.out.on hb1
      have t2 := hT2.out.on hb1
      have hc' := t1.c2
      have hfr := t1.free 2
      have HS := Lib.hid (t1.set (j := 2) (d := eachV c r 3) (v := r 2) (by omega) (by simp [eachV]) (fun i hi => by unfold eachV; by_cases h : i < 2 <;> simp [h] <;> omega))
      have HK := Lib.hid (t2.keep (b' := w.heap.size) (j := 2) (v := .int .i64 (r 2)) (by omega))
      have hb2 := hb.trans (hb1.mono hsz)
      clear t1 t2
      go_wp2
      go_roundw
      case rel => exact ⟨3, by omega, rfl, HS.out, HK.out, hb2.setCell (by simp) _⟩
      case measure => simp [intOf]
    · have d0 := t1.c0
      have d1 : wr.cell? ⟨w.heap.size, 1, none⟩ = some (.int .i64 (r 1)) := t1.c1
      have d2 : wr.cell? ⟨w.heap.size, 2, none⟩ = some (.int .i64 (r 2)) := t1.c2
      have x0 := t2.c0
      have x1 := t2.c1
      have x2 := t2.c2
      have y0 := t2.free 0
      have y1 := t2.free 1
      have y2 := t2.free 2
      clear t1 t2
      go_wp2
      refine bodyPost_ret (v := .agg #[.int .i64 (r 0), .int .i64 (r 1), .int .i64 (r 2)]) (by simp [results, Try.results58, go_sem, eachV, *]) rfl ?_
      refine ⟨rfl, ?_⟩
      first | exact hb | exact ((hb.setCell (p := ⟨w.heap.size + 1, 0, none⟩) (by simp) _).setCell (p := ⟨w.heap.size + 1, 1, none⟩) (by simp) _).setCell (p := ⟨w.heap.size + 1, 2, none⟩) (by simp) _


end Go.Proofs.Ytmilljlkcbljpaa
