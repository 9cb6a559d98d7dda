/- Texts of this proof, one behind another: Ea Eb Cf Cg Ch Qt Ci Eq Cj. -/
import Derived.Test.YtmilljlkcbljpaaZ1
import Derived.StillTailTactics
import Derived.Deep.QuietTactic
import Derived.BigQuiet
import Derived.StillTail
import Derived.Lib.QuietBelow
import Derived.Laws.StructEq
/- each, at its closures. -/
namespace Go.Proofs.Ytmilljlkcbljpaa
open Go.RowKit

set_option maxHeartbeats 1000000 in
theorem each_clip {b1 b2 b3 : Value} {c r : Nat → Int} {w : World}
    (hf : ∀ i : Nat, i < 3 → ∀ W, Below w.heap.size w W → Calls Try.prog 59 #[.int .i64 i, .int .i64 (c i), b1, b2, b3] W fun e W' => e = .returned (.int .i64 (r i)) ∧ Below W.heap.size W W') :
    Calls Try.prog 58 #[col c, .func (.func 59) #[] #[b1, b2, b3]] w fun e w' => e = .returned (col r) ∧ Below w.heap.size w w' := by
  have HF := Lib.hid hf
  clear hf
  unfold col
  have i0 := index_0
  have i1 := index_1
  have i2 := index_2
  go_enter Try.func58, Try.ntmps58
  go_wp2
  have T1 := (Tri.new w c 28).below (((Below.refl _ _).alloc (Nat.le_refl _) (.cells #[.int .i64 0, .int .i64 0, .int .i64 0] 28))) (by simp)
  have T2 := Tri.new (w.alloc (.cells #[.int .i64 (c 0), .int .i64 (c 1), .int .i64 (c 2)] 28)) (fun _ => 0) 28
  rw [World.size_alloc] at T2
  have B1 : Below w.heap.size w ((w.alloc (.cells #[.int .i64 (c 0), .int .i64 (c 1), .int .i64 (c 2)] 28)).alloc (.cells #[.int .i64 0, .int .i64 0, .int .i64 0] 28)) := ((Below.refl _ w).alloc (Nat.le_refl _) _).alloc (by simp) _
  go_loopw [8] (fun i wr => ∃ k : Nat, k ≤ 3 ∧ i = .int .i64 k ∧ Tri 28 wr w.heap.size (eachV c r k) ∧ Tri 28 wr (w.heap.size + 1) (fun _ => 0) ∧ Below w.heap.size w wr) (fun i _ => 3 - (intOf i).toNat)
  case atStart => exact ⟨0, by omega, rfl, T1, T2, B1⟩
  case round =>
    obtain ⟨k, hk, rfl, t1, t2, hb⟩ := hrel
    obtain rfl | rfl | rfl | rfl : k = 0 ∨ k = 1 ∨ k = 2 ∨ k = 3 := by omega
    · have hF := HF.out 0 (by omega)
      have hT := Lib.hid t1
      have hT2 := Lib.hid t2
      have hc : wr.cell? ⟨w.heap.size, 0, none⟩ = some (.int .i64 (c 0)) := t1.c0
      have HF' := Lib.hid hF
      clear hF t1 t2
      have hsz := hb.size
      go_wp2_with fail
      refine (HF'.out wr hb).mono ?_
      rintro e w1 ⟨rfl, hb1⟩
      have t1 := hT.out.on hb1
      have t2 := hT2.out.on hb1
      have hc' := t1.c0
      have hfr := t1.free 0
      have HS := Lib.hid (t1.set (j := 0) (d := eachV c r 1) (v := r 0) (by omega) (by simp [eachV]) (fun i hi => by unfold eachV; by_cases h : i < 0 <;> simp [h] <;> omega))
      have HK := Lib.hid (t2.keep (b' := w.heap.size) (j := 0) (v := .int .i64 (r 0)) (by omega))
      have hb2 := hb.trans (hb1.mono hsz)
      clear t1 t2
      go_wp2
      go_roundw
      case rel => exact ⟨1, by omega, rfl, HS.out, HK.out, hb2.setCell (by simp) _⟩
      case measure => simp [intOf]
    · have hF := HF.out 1 (by omega)
      have hT := Lib.hid t1
      have hT2 := Lib.hid t2
      have hc : wr.cell? ⟨w.heap.size, 1, none⟩ = some (.int .i64 (c 1)) := t1.c1
      have HF' := Lib.hid hF
      clear hF t1 t2
      have hsz := hb.size
      go_wp2_with fail
      refine (HF'.out wr hb).mono ?_
      rintro e w1 ⟨rfl, hb1⟩
      have t1 := hT.out.on hb1
      have t2 := hT2.out.on hb1
      have hc' := t1.c1
      have hfr := t1.free 1
      have HS := Lib.hid (t1.set (j := 1) (d := eachV c r 2) (v := r 1) (by omega) (by simp [eachV]) (fun i hi => by unfold eachV; by_cases h : i < 1 <;> simp [h] <;> omega))
      have HK := Lib.hid (t2.keep (b' := w.heap.size) (j := 1) (v := .int .i64 (r 1)) (by omega))
      have hb2 := hb.trans (hb1.mono hsz)
      clear t1 t2
      go_wp2
      go_roundw
      case rel => exact ⟨2, by omega, rfl, HS.out, HK.out, hb2.setCell (by simp) _⟩
      case measure => simp [intOf]
    · have hF := HF.out 2 (by omega)
      have hT := Lib.hid t1
      have hT2 := Lib.hid t2
      have hc : wr.cell? ⟨w.heap.size, 2, none⟩ = some (.int .i64 (c 2)) := t1.c2
      have HF' := Lib.hid hF
      clear hF t1 t2
      have hsz := hb.size
      go_wp2_with fail
      refine (HF'.out wr hb).mono ?_
      rintro e w1 ⟨rfl, hb1⟩
      have t1 := hT.out.on hb1
      have t2 := hT2.out.on hb1
      have hc' := t1.c2
      have hfr := t1.free 2
      have HS := Lib.hid (t1.set (j := 2) (d := eachV c r 3) (v := r 2) (by omega) (by simp [eachV]) (fun i hi => by unfold eachV; by_cases h : i < 2 <;> simp [h] <;> omega))
      have HK := Lib.hid (t2.keep (b' := w.heap.size) (j := 2) (v := .int .i64 (r 2)) (by omega))
      have hb2 := hb.trans (hb1.mono hsz)
      clear t1 t2
      go_wp2
      go_roundw
      case rel => exact ⟨3, by omega, rfl, HS.out, HK.out, hb2.setCell (by simp) _⟩
      case measure => simp [intOf]
    · have d0 := t1.c0
      have d1 : wr.cell? ⟨w.heap.size, 1, none⟩ = some (.int .i64 (r 1)) := t1.c1
      have d2 : wr.cell? ⟨w.heap.size, 2, none⟩ = some (.int .i64 (r 2)) := t1.c2
      have x0 := t2.c0
      have x1 := t2.c1
      have x2 := t2.c2
      have y0 := t2.free 0
      have y1 := t2.free 1
      have y2 := t2.free 2
      clear t1 t2
      go_wp2
      refine bodyPost_ret (v := .agg #[.int .i64 (r 0), .int .i64 (r 1), .int .i64 (r 2)]) (by simp [results, Try.results58, go_sem, eachV, *]) rfl ?_
      refine ⟨rfl, ?_⟩
      first | exact hb | exact ((hb.setCell (p := ⟨w.heap.size + 1, 0, none⟩) (by simp) _).setCell (p := ⟨w.heap.size + 1, 1, none⟩) (by simp) _).setCell (p := ⟨w.heap.size + 1, 2, none⟩) (by simp) _


set_option maxHeartbeats 1000000 in
theorem each_narrow {c r : Nat → Int} {w : World}
    (hf : ∀ i : Nat, i < 3 → ∀ W, Below w.heap.size w W → Calls Try.prog 76 #[.int .i64 i, .int .i64 (c i)] W fun e W' => e = .returned (.int .i64 (r i)) ∧ Below W.heap.size W W') :
    Calls Try.prog 58 #[col c, .func (.func 76) #[] #[]] w fun e w' => e = .returned (col r) ∧ Below w.heap.size w w' := by
  have HF := Lib.hid hf
  clear hf
  unfold col
  have i0 := index_0
  have i1 := index_1
  have i2 := index_2
  go_enter Try.func58, Try.ntmps58
  go_wp2
  have T1 := (Tri.new w c 28).below (((Below.refl _ _).alloc (Nat.le_refl _) (.cells #[.int .i64 0, .int .i64 0, .int .i64 0] 28))) (by simp)
  have T2 := Tri.new (w.alloc (.cells #[.int .i64 (c 0), .int .i64 (c 1), .int .i64 (c 2)] 28)) (fun _ => 0) 28
  rw [World.size_alloc] at T2
  have B1 : Below w.heap.size w ((w.alloc (.cells #[.int .i64 (c 0), .int .i64 (c 1), .int .i64 (c 2)] 28)).alloc (.cells #[.int .i64 0, .int .i64 0, .int .i64 0] 28)) := ((Below.refl _ w).alloc (Nat.le_refl _) _).alloc (by simp) _
  go_loopw [8] (fun i wr => ∃ k : Nat, k ≤ 3 ∧ i = .int .i64 k ∧ Tri 28 wr w.heap.size (eachV c r k) ∧ Tri 28 wr (w.heap.size + 1) (fun _ => 0) ∧ Below w.heap.size w wr) (fun i _ => 3 - (intOf i).toNat)
  case atStart => exact ⟨0, by omega, rfl, T1, T2, B1⟩
  case round =>
    obtain ⟨k, hk, rfl, t1, t2, hb⟩ := hrel
    obtain rfl | rfl | rfl | rfl : k = 0 ∨ k = 1 ∨ k = 2 ∨ k = 3 := by omega
    · have hF := HF.out 0 (by omega)
      have hT := Lib.hid t1
      have hT2 := Lib.hid t2
      have hc : wr.cell? ⟨w.heap.size, 0, none⟩ = some (.int .i64 (c 0)) := t1.c0
      have HF' := Lib.hid hF
      clear hF t1 t2
      have hsz := hb.size
      go_wp2_with fail
      refine (HF'.out wr hb).mono ?_
      rintro e w1 ⟨rfl, hb1⟩
      have t1 := hT.out.on hb1
      have t2 := hT2.out.on hb1
      have hc' := t1.c0
      have hfr := t1.free 0
      have HS := Lib.hid (t1.set (j := 0) (d := eachV c r 1) (v := r 0) (by omega) (by simp [eachV]) (fun i hi => by unfold eachV; by_cases h : i < 0 <;> simp [h] <;> omega))
      have HK := Lib.hid (t2.keep (b' := w.heap.size) (j := 0) (v := .int .i64 (r 0)) (by omega))
      have hb2 := hb.trans (hb1.mono hsz)
      clear t1 t2
      go_wp2
      go_roundw
      case rel => exact ⟨1, by omega, rfl, HS.out, HK.out, hb2.setCell (by simp) _⟩
      case measure => simp [intOf]
    · have hF := HF.out 1 (by omega)
      have hT := Lib.hid t1
      have hT2 := Lib.hid t2
      have hc : wr.cell? ⟨w.heap.size, 1, none⟩ = some (.int .i64 (c 1)) := t1.c1
      have HF' := Lib.hid hF
      clear hF t1 t2
      have hsz := hb.size
      go_wp2_with fail
      refine (HF'.out wr hb).mono ?_
      rintro e w1 ⟨rfl, hb1⟩
      have t1 := hT.out.on hb1
      have t2 := hT2.out.on hb1
      have hc' := t1.c1
      have hfr := t1.free 1
      have HS := Lib.hid (t1.set (j := 1) (d := eachV c r 2) (v := r 1) (by omega) (by simp [eachV]) (fun i hi => by unfold eachV; by_cases h : i < 1 <;> simp [h] <;> omega))
      have HK := Lib.hid (t2.keep (b' := w.heap.size) (j := 1) (v := .int .i64 (r 1)) (by omega))
      have hb2 := hb.trans (hb1.mono hsz)
      clear t1 t2
      go_wp2
      go_roundw
      case rel => exact ⟨2, by omega, rfl, HS.out, HK.out, hb2.setCell (by simp) _⟩
      case measure => simp [intOf]
    · have hF := HF.out 2 (by omega)
      have hT := Lib.hid t1
      have hT2 := Lib.hid t2
      have hc : wr.cell? ⟨w.heap.size, 2, none⟩ = some (.int .i64 (c 2)) := t1.c2
      have HF' := Lib.hid hF
      clear hF t1 t2
      have hsz := hb.size
      go_wp2_with fail
      refine (HF'.out wr hb).mono ?_
      rintro e w1 ⟨rfl, hb1⟩
      have t1 := hT.out.on hb1
      have t2 := hT2.out.on hb1
      have hc' := t1.c2
      have hfr := t1.free 2
      have HS := Lib.hid (t1.set (j := 2) (d := eachV c r 3) (v := r 2) (by omega) (by simp [eachV]) (fun i hi => by unfold eachV; by_cases h : i < 2 <;> simp [h] <;> omega))
      have HK := Lib.hid (t2.keep (b' := w.heap.size) (j := 2) (v := .int .i64 (r 2)) (by omega))
      have hb2 := hb.trans (hb1.mono hsz)
      clear t1 t2
      go_wp2
      go_roundw
      case rel => exact ⟨3, by omega, rfl, HS.out, HK.out, hb2.setCell (by simp) _⟩
      case measure => simp [intOf]
    · have d0 := t1.c0
      have d1 : wr.cell? ⟨w.heap.size, 1, none⟩ = some (.int .i64 (r 1)) := t1.c1
      have d2 : wr.cell? ⟨w.heap.size, 2, none⟩ = some (.int .i64 (r 2)) := t1.c2
      have x0 := t2.c0
      have x1 := t2.c1
      have x2 := t2.c2
      have y0 := t2.free 0
      have y1 := t2.free 1
      have y2 := t2.free 2
      clear t1 t2
      go_wp2
      refine bodyPost_ret (v := .agg #[.int .i64 (r 0), .int .i64 (r 1), .int .i64 (r 2)]) (by simp [results, Try.results58, go_sem, eachV, *]) rfl ?_
      refine ⟨rfl, ?_⟩
      first | exact hb | exact ((hb.setCell (p := ⟨w.heap.size + 1, 0, none⟩) (by simp) _).setCell (p := ⟨w.heap.size + 1, 1, none⟩) (by simp) _).setCell (p := ⟨w.heap.size + 1, 2, none⟩) (by simp) _


set_option maxHeartbeats 1000000 in
theorem each_apply {b1 b2 : Value} {c r : Nat → Int} {w : World}
    (hf : ∀ i : Nat, i < 3 → ∀ W, Below w.heap.size w W → Calls Try.prog 109 #[.int .i64 i, .int .i64 (c i), b1, b2] W fun e W' => e = .returned (.int .i64 (r i)) ∧ Below W.heap.size W W') :
    Calls Try.prog 58 #[col c, .func (.func 109) #[] #[b1, b2]] w fun e w' => e = .returned (col r) ∧ Below w.heap.size w w' := by
  have HF := Lib.hid hf
  clear hf
  unfold col
  have i0 := index_0
  have i1 := index_1
  have i2 := index_2
  go_enter Try.func58, Try.ntmps58
  go_wp2
  have T1 := (Tri.new w c 28).below (((Below.refl _ _).alloc (Nat.le_refl _) (.cells #[.int .i64 0, .int .i64 0, .int .i64 0] 28))) (by simp)
  have T2 := Tri.new (w.alloc (.cells #[.int .i64 (c 0), .int .i64 (c 1), .int .i64 (c 2)] 28)) (fun _ => 0) 28
  rw [World.size_alloc] at T2
  have B1 : Below w.heap.size w ((w.alloc (.cells #[.int .i64 (c 0), .int .i64 (c 1), .int .i64 (c 2)] 28)).alloc (.cells #[.int .i64 0, .int .i64 0, .int .i64 0] 28)) := ((Below.refl _ w).alloc (Nat.le_refl _) _).alloc (by simp) _
  go_loopw [8] (fun i wr => ∃ k : Nat, k ≤ 3 ∧ i = .int .i64 k ∧ Tri 28 wr w.heap.size (eachV c r k) ∧ Tri 28 wr (w.heap.size + 1) (fun _ => 0) ∧ Below w.heap.size w wr) (fun i _ => 3 - (intOf i).toNat)
  case atStart => exact ⟨0, by omega, rfl, T1, T2, B1⟩
  case round =>
    obtain ⟨k, hk, rfl, t1, t2, hb⟩ := hrel
    obtain rfl | rfl | rfl | rfl : k = 0 ∨ k = 1 ∨ k = 2 ∨ k = 3 := by omega
    · have hF := HF.out 0 (by omega)
      have hT := Lib.hid t1
      have hT2 := Lib.hid t2
      have hc : wr.cell? ⟨w.heap.size, 0, none⟩ = some (.int .i64 (c 0)) := t1.c0
      have HF' := Lib.hid hF
      clear hF t1 t2
      have hsz := hb.size
      go_wp2_with fail
      refine (HF'.out wr hb).mono ?_
      rintro e w1 ⟨rfl, hb1⟩
      have t1 := hT.out.on hb1
      have t2 := hT2.out.on hb1
      have hc' := t1.c0
      have hfr := t1.free 0
      have HS := Lib.hid (t1.set (j := 0) (d := eachV c r 1) (v := r 0) (by omega) (by simp [eachV]) (fun i hi => by unfold eachV; by_cases h : i < 0 <;> simp [h] <;> omega))
      have HK := Lib.hid (t2.keep (b' := w.heap.size) (j := 0) (v := .int .i64 (r 0)) (by omega))
      have hb2 := hb.trans (hb1.mono hsz)
      clear t1 t2
      go_wp2
      go_roundw
      case rel => exact ⟨1, by omega, rfl, HS.out, HK.out, hb2.setCell (by simp) _⟩
      case measure => simp [intOf]
    · have hF := HF.out 1 (by omega)
      have hT := Lib.hid t1
      have hT2 := Lib.hid t2
      have hc : wr.cell? ⟨w.heap.size, 1, none⟩ = some (.int .i64 (c 1)) := t1.c1
      have HF' := Lib.hid hF
      clear hF t1 t2
      have hsz := hb.size
      go_wp2_with fail
      refine (HF'.out wr hb).mono ?_
      rintro e w1 ⟨rfl, hb1⟩
      have t1 := hT.out.on hb1
      have t2 := hT2.out.on hb1
      have hc' := t1.c1
      have hfr := t1.free 1
      have HS := Lib.hid (t1.set (j := 1) (d := eachV c r 2) (v := r 1) (by omega) (by simp [eachV]) (fun i hi => by unfold eachV; by_cases h : i < 1 <;> simp [h] <;> omega))
      have HK := Lib.hid (t2.keep (b' := w.heap.size) (j := 1) (v := .int .i64 (r 1)) (by omega))
      have hb2 := hb.trans (hb1.mono hsz)
      clear t1 t2
      go_wp2
      go_roundw
      case rel => exact ⟨2, by omega, rfl, HS.out, HK.out, hb2.setCell (by simp) _⟩
      case measure => simp [intOf]
    · have hF := HF.out 2 (by omega)
      have hT := Lib.hid t1
      have hT2 := Lib.hid t2
      have hc : wr.cell? ⟨w.heap.size, 2, none⟩ = some (.int .i64 (c 2)) := t1.c2
      have HF' := Lib.hid hF
      clear hF t1 t2
      have hsz := hb.size
      go_wp2_with fail
      refine (HF'.out wr hb).mono ?_
      rintro e w1 ⟨rfl, hb1⟩
      have t1 := hT.out.on hb1
      have t2 := hT2.out.on hb1
      have hc' := t1.c2
      have hfr := t1.free 2
      have HS := Lib.hid (t1.set (j := 2) (d := eachV c r 3) (v := r 2) (by omega) (by simp [eachV]) (fun i hi => by unfold eachV; by_cases h : i < 2 <;> simp [h] <;> omega))
      have HK := Lib.hid (t2.keep (b' := w.heap.size) (j := 2) (v := .int .i64 (r 2)) (by omega))
      have hb2 := hb.trans (hb1.mono hsz)
      clear t1 t2
      go_wp2
      go_roundw
      case rel => exact ⟨3, by omega, rfl, HS.out, HK.out, hb2.setCell (by simp) _⟩
      case measure => simp [intOf]
    · have d0 := t1.c0
      have d1 : wr.cell? ⟨w.heap.size, 1, none⟩ = some (.int .i64 (r 1)) := t1.c1
      have d2 : wr.cell? ⟨w.heap.size, 2, none⟩ = some (.int .i64 (r 2)) := t1.c2
      have x0 := t2.c0
      have x1 := t2.c1
      have x2 := t2.c2
      have y0 := t2.free 0
      have y1 := t2.free 1
      have y2 := t2.free 2
      clear t1 t2
      go_wp2
      refine bodyPost_ret (v := .agg #[.int .i64 (r 0), .int .i64 (r 1), .int .i64 (r 2)]) (by simp [results, Try.results58, go_sem, eachV, *]) rfl ?_
      refine ⟨rfl, ?_⟩
      first | exact hb | exact ((hb.setCell (p := ⟨w.heap.size + 1, 0, none⟩) (by simp) _).setCell (p := ⟨w.heap.size + 1, 1, none⟩) (by simp) _).setCell (p := ⟨w.heap.size + 1, 2, none⟩) (by simp) _


end Go.Proofs.Ytmilljlkcbljpaa

/- each, at its closures. -/
namespace Go.Proofs.Ytmilljlkcbljpaa
open Go.RowKit

set_option maxHeartbeats 1000000 in
theorem each_to {b1 : Value} {c r : Nat → Int} {w : World}
    (hf : ∀ i : Nat, i < 3 → ∀ W, Below w.heap.size w W → Calls Try.prog 96 #[.int .i64 i, .int .i64 (c i), b1] W fun e W' => e = .returned (.int .i64 (r i)) ∧ Below W.heap.size W W') :
    Calls Try.prog 58 #[col c, .func (.func 96) #[] #[b1]] w fun e w' => e = .returned (col r) ∧ Below w.heap.size w w' := by
  have HF := Lib.hid hf
  clear hf
  unfold col
  have i0 := index_0
  have i1 := index_1
  have i2 := index_2
  go_enter Try.func58, Try.ntmps58
  go_wp2
  have T1 := (Tri.new w c 28).below (((Below.refl _ _).alloc (Nat.le_refl _) (.cells #[.int .i64 0, .int .i64 0, .int .i64 0] 28))) (by simp)
  have T2 := Tri.new (w.alloc (.cells #[.int .i64 (c 0), .int .i64 (c 1), .int .i64 (c 2)] 28)) (fun _ => 0) 28
  rw [World.size_alloc] at T2
  have B1 : Below w.heap.size w ((w.alloc (.cells #[.int .i64 (c 0), .int .i64 (c 1), .int .i64 (c 2)] 28)).alloc (.cells #[.int .i64 0, .int .i64 0, .int .i64 0] 28)) := ((Below.refl _ w).alloc (Nat.le_refl _) _).alloc (by simp) _
  go_loopw [8] (fun i wr => ∃ k : Nat, k ≤ 3 ∧ i = .int .i64 k ∧ Tri 28 wr w.heap.size (eachV c r k) ∧ Tri 28 wr (w.heap.size + 1) (fun _ => 0) ∧ Below w.heap.size w wr) (fun i _ => 3 - (intOf i).toNat)
  case atStart => exact ⟨0, by omega, rfl, T1, T2, B1⟩
  case round =>
    obtain ⟨k, hk, rfl, t1, t2, hb⟩ := hrel
    obtain rfl | rfl | rfl | rfl : k = 0 ∨ k = 1 ∨ k = 2 ∨ k = 3 := by omega
    · have hF := HF.out 0 (by omega)
      have hT := Lib.hid t1
      have hT2 := Lib.hid t2
      have hc : wr.cell? ⟨w.heap.size, 0, none⟩ = some (.int .i64 (c 0)) := t1.c0
      have HF' := Lib.hid hF
      clear hF t1 t2
      have hsz := hb.size
      go_wp2_with fail
      refine (HF'.out wr hb).mono ?_
      rintro e w1 ⟨rfl, hb1⟩
      have t1 := hT.out.on hb1
      have t2 := hT2.out.on hb1
      have hc' := t1.c0
      have hfr := t1.free 0
      have HS := Lib.hid (t1.set (j := 0) (d := eachV c r 1) (v := r 0) (by omega) (by simp [eachV]) (fun i hi => by unfold eachV; by_cases h : i < 0 <;> simp [h] <;> omega))
      have HK := Lib.hid (t2.keep (b' := w.heap.size) (j := 0) (v := .int .i64 (r 0)) (by omega))
      have hb2 := hb.trans (hb1.mono hsz)
      clear t1 t2
      go_wp2
      go_roundw
      case rel => exact ⟨1, by omega, rfl, HS.out, HK.out, hb2.setCell (by simp) _⟩
      case measure => simp [intOf]
    · have hF := HF.out 1 (by omega)
      have hT := Lib.hid t1
      have hT2 := Lib.hid t2
      have hc : wr.cell? ⟨w.heap.size, 1, none⟩ = some (.int .i64 (c 1)) := t1.c1
      have HF' := Lib.hid hF
      clear hF t1 t2
      have hsz := hb.size
      go_wp2_with fail
      refine (HF'.out wr hb).mono ?_
      rintro e w1 ⟨rfl, hb1⟩
      have t1 := hT.out.on hb1
      have t2 := hT2.out.on hb1
      have hc' := t1.c1
      have hfr := t1.free 1
      have HS := Lib.hid (t1.set (j := 1) (d := eachV c r 2) (v := r 1) (by omega) (by simp [eachV]) (fun i hi => by unfold eachV; by_cases h : i < 1 <;> simp [h] <;> omega))
      have HK := Lib.hid (t2.keep (b' := w.heap.size) (j := 1) (v := .int .i64 (r 1)) (by omega))
      have hb2 := hb.trans (hb1.mono hsz)
      clear t1 t2
      go_wp2
      go_roundw
      case rel => exact ⟨2, by omega, rfl, HS.out, HK.out, hb2.setCell (by simp) _⟩
      case measure => simp [intOf]
    · have hF := HF.out 2 (by omega)
      have hT := Lib.hid t1
      have hT2 := Lib.hid t2
      have hc : wr.cell? ⟨w.heap.size, 2, none⟩ = some (.int .i64 (c 2)) := t1.c2
      have HF' := Lib.hid hF
      clear hF t1 t2
      have hsz := hb.size
      go_wp2_with fail
      refine (HF'.out wr hb).mono ?_
      rintro e w1 ⟨rfl, hb1⟩
      have t1 := hT.out.on hb1
      have t2 := hT2.out.on hb1
      have hc' := t1.c2
      have hfr := t1.free 2
      have HS := Lib.hid (t1.set (j := 2) (d := eachV c r 3) (v := r 2) (by omega) (by simp [eachV]) (fun i hi => by unfold eachV; by_cases h : i < 2 <;> simp [h] <;> omega))
      have HK := Lib.hid (t2.keep (b' := w.heap.size) (j := 2) (v := .int .i64 (r 2)) (by omega))
      have hb2 := hb.trans (hb1.mono hsz)
      clear t1 t2
      go_wp2
      go_roundw
      case rel => exact ⟨3, by omega, rfl, HS.out, HK.out, hb2.setCell (by simp) _⟩
      case measure => simp [intOf]
    · have d0 := t1.c0
      have d1 : wr.cell? ⟨w.heap.size, 1, none⟩ = some (.int .i64 (r 1)) := t1.c1
      have d2 : wr.cell? ⟨w.heap.size, 2, none⟩ = some (.int .i64 (r 2)) := t1.c2
      have x0 := t2.c0
      have x1 := t2.c1
      have x2 := t2.c2
      have y0 := t2.free 0
      have y1 := t2.free 1
      have y2 := t2.free 2
      clear t1 t2
      go_wp2
      refine bodyPost_ret (v := .agg #[.int .i64 (r 0), .int .i64 (r 1), .int .i64 (r 2)]) (by simp [results, Try.results58, go_sem, eachV, *]) rfl ?_
      refine ⟨rfl, ?_⟩
      first | exact hb | exact ((hb.setCell (p := ⟨w.heap.size + 1, 0, none⟩) (by simp) _).setCell (p := ⟨w.heap.size + 1, 1, none⟩) (by simp) _).setCell (p := ⟨w.heap.size + 1, 2, none⟩) (by simp) _


set_option maxHeartbeats 1000000 in
theorem each_from {b1 : Value} {c r : Nat → Int} {w : World}
    (hf : ∀ i : Nat, i < 3 → ∀ W, Below w.heap.size w W → Calls Try.prog 99 #[.int .i64 i, .int .i64 (c i), b1] W fun e W' => e = .returned (.int .i64 (r i)) ∧ Below W.heap.size W W') :
    Calls Try.prog 58 #[col c, .func (.func 99) #[] #[b1]] w fun e w' => e = .returned (col r) ∧ Below w.heap.size w w' := by
  have HF := Lib.hid hf
  clear hf
  unfold col
  have i0 := index_0
  have i1 := index_1
  have i2 := index_2
  go_enter Try.func58, Try.ntmps58
  go_wp2
  have T1 := (Tri.new w c 28).below (((Below.refl _ _).alloc (Nat.le_refl _) (.cells #[.int .i64 0, .int .i64 0, .int .i64 0] 28))) (by simp)
  have T2 := Tri.new (w.alloc (.cells #[.int .i64 (c 0), .int .i64 (c 1), .int .i64 (c 2)] 28)) (fun _ => 0) 28
  rw [World.size_alloc] at T2
  have B1 : Below w.heap.size w ((w.alloc (.cells #[.int .i64 (c 0), .int .i64 (c 1), .int .i64 (c 2)] 28)).alloc (.cells #[.int .i64 0, .int .i64 0, .int .i64 0] 28)) := ((Below.refl _ w).alloc (Nat.le_refl _) _).alloc (by simp) _
  go_loopw [8] (fun i wr => ∃ k : Nat, k ≤ 3 ∧ i = .int .i64 k ∧ Tri 28 wr w.heap.size (eachV c r k) ∧ Tri 28 wr (w.heap.size + 1) (fun _ => 0) ∧ Below w.heap.size w wr) (fun i _ => 3 - (intOf i).toNat)
  case atStart => exact ⟨0, by omega, rfl, T1, T2, B1⟩
  case round =>
    obtain ⟨k, hk, rfl, t1, t2, hb⟩ := hrel
    obtain rfl | rfl | rfl | rfl : k = 0 ∨ k = 1 ∨ k = 2 ∨ k = 3 := by omega
    · have hF := HF.out 0 (by omega)
      have hT := Lib.hid t1
      have hT2 := Lib.hid t2
      have hc : wr.cell? ⟨w.heap.size, 0, none⟩ = some (.int .i64 (c 0)) := t1.c0
      have HF' := Lib.hid hF
      clear hF t1 t2
      have hsz := hb.size
      go_wp2_with fail
      refine (HF'.out wr hb).mono ?_
      rintro e w1 ⟨rfl, hb1⟩
      have t1 := hT.out.on hb1
      have t2 := hT2.out.on hb1
      have hc' := t1.c0
      have hfr := t1.free 0
      have HS := Lib.hid (t1.set (j := 0) (d := eachV c r 1) (v := r 0) (by omega) (by simp [eachV]) (fun i hi => by unfold eachV; by_cases h : i < 0 <;> simp [h] <;> omega))
      have HK := Lib.hid (t2.keep (b' := w.heap.size) (j := 0) (v := .int .i64 (r 0)) (by omega))
      have hb2 := hb.trans (hb1.mono hsz)
      clear t1 t2
      go_wp2
      go_roundw
      case rel => exact ⟨1, by omega, rfl, HS.out, HK.out, hb2.setCell (by simp) _⟩
      case measure => simp [intOf]
    · have hF := HF.out 1 (by omega)
      have hT := Lib.hid t1
      have hT2 := Lib.hid t2
      have hc : wr.cell? ⟨w.heap.size, 1, none⟩ = some (.int .i64 (c 1)) := t1.c1
      have HF' := Lib.hid hF
      clear hF t1 t2
      have hsz := hb.size
      go_wp2_with fail
      refine (HF'.out wr hb).mono ?_
      rintro e w1 ⟨rfl, hb1⟩
      have t1 := hT.out.on hb1
      have t2 := hT2.out.on hb1
      have hc' := t1.c1
      have hfr := t1.free 1
      have HS := Lib.hid (t1.set (j := 1) (d := eachV c r 2) (v := r 1) (by omega) (by simp [eachV]) (fun i hi => by unfold eachV; by_cases h : i < 1 <;> simp [h] <;> omega))
      have HK := Lib.hid (t2.keep (b' := w.heap.size) (j := 1) (v := .int .i64 (r 1)) (by omega))
      have hb2 := hb.trans (hb1.mono hsz)
      clear t1 t2
      go_wp2
      go_roundw
      case rel => exact ⟨2, by omega, rfl, HS.out, HK.out, hb2.setCell (by simp) _⟩
      case measure => simp [intOf]
    · have hF := HF.out 2 (by omega)
      have hT := Lib.hid t1
      have hT2 := Lib.hid t2
      have hc : wr.cell? ⟨w.heap.size, 2, none⟩ = some (.int .i64 (c 2)) := t1.c2
      have HF' := Lib.hid hF
      clear hF t1 t2
      have hsz := hb.size
      go_wp2_with fail
      refine (HF'.out wr hb).mono ?_
      rintro e w1 ⟨rfl, hb1⟩
      have t1 := hT.out.on hb1
      have t2 := hT2.out.on hb1
      have hc' := t1.c2
      have hfr := t1.free 2
      have HS := Lib.hid (t1.set (j := 2) (d := eachV c r 3) (v := r 2) (by omega) (by simp [eachV]) (fun i hi => by unfold eachV; by_cases h : i < 2 <;> simp [h] <;> omega))
      have HK := Lib.hid (t2.keep (b' := w.heap.size) (j := 2) (v := .int .i64 (r 2)) (by omega))
      have hb2 := hb.trans (hb1.mono hsz)
      clear t1 t2
      go_wp2
      go_roundw
      case rel => exact ⟨3, by omega, rfl, HS.out, HK.out, hb2.setCell (by simp) _⟩
      case measure => simp [intOf]
    · have d0 := t1.c0
      have d1 : wr.cell? ⟨w.heap.size, 1, none⟩ = some (.int .i64 (r 1)) := t1.c1
      have d2 : wr.cell? ⟨w.heap.size, 2, none⟩ = some (.int .i64 (r 2)) := t1.c2
      have x0 := t2.c0
      have x1 := t2.c1
      have x2 := t2.c2
      have y0 := t2.free 0
      have y1 := t2.free 1
      have y2 := t2.free 2
      clear t1 t2
      go_wp2
      refine bodyPost_ret (v := .agg #[.int .i64 (r 0), .int .i64 (r 1), .int .i64 (r 2)]) (by simp [results, Try.results58, go_sem, eachV, *]) rfl ?_
      refine ⟨rfl, ?_⟩
      first | exact hb | exact ((hb.setCell (p := ⟨w.heap.size + 1, 0, none⟩) (by simp) _).setCell (p := ⟨w.heap.size + 1, 1, none⟩) (by simp) _).setCell (p := ⟨w.heap.size + 1, 2, none⟩) (by simp) _


set_option maxHeartbeats 1000000 in
theorem each_look2 {b1 b2 : Value} {c r : Nat → Int} {w : World}
    (hf : ∀ i : Nat, i < 3 → ∀ W, Below w.heap.size w W → Calls Try.prog 87 #[.int .i64 i, .int .i64 (c i), b1, b2] W fun e W' => e = .returned (.int .i64 (r i)) ∧ Below W.heap.size W W') :
    Calls Try.prog 58 #[col c, .func (.func 87) #[] #[b1, b2]] w fun e w' => e = .returned (col r) ∧ Below w.heap.size w w' := by
  have HF := Lib.hid hf
  clear hf
  unfold col
  have i0 := index_0
  have i1 := index_1
  have i2 := index_2
  go_enter Try.func58, Try.ntmps58
  go_wp2
  have T1 := (Tri.new w c 28).below (((Below.refl _ _).alloc (Nat.le_refl _) (.cells #[.int .i64 0, .int .i64 0, .int .i64 0] 28))) (by simp)
  have T2 := Tri.new (w.alloc (.cells #[.int .i64 (c 0), .int .i64 (c 1), .int .i64 (c 2)] 28)) (fun _ => 0) 28
  rw [World.size_alloc] at T2
  have B1 : Below w.heap.size w ((w.alloc (.cells #[.int .i64 (c 0), .int .i64 (c 1), .int .i64 (c 2)] 28)).alloc (.cells #[.int .i64 0, .int .i64 0, .int .i64 0] 28)) := ((Below.refl _ w).alloc (Nat.le_refl _) _).alloc (by simp) _
  go_loopw [8] (fun i wr => ∃ k : Nat, k ≤ 3 ∧ i = .int .i64 k ∧ Tri 28 wr w.heap.size (eachV c r k) ∧ Tri 28 wr (w.heap.size + 1) (fun _ => 0) ∧ Below w.heap.size w wr) (fun i _ => 3 - (intOf i).toNat)
  case atStart => exact ⟨0, by omega, rfl, T1, T2, B1⟩
  case round =>
    obtain ⟨k, hk, rfl, t1, t2, hb⟩ := hrel
    obtain rfl | rfl | rfl | rfl : k = 0 ∨ k = 1 ∨ k = 2 ∨ k = 3 := by omega
    · have hF := HF.out 0 (by omega)
      have hT := Lib.hid t1
      have hT2 := Lib.hid t2
      have hc : wr.cell? ⟨w.heap.size, 0, none⟩ = some (.int .i64 (c 0)) := t1.c0
      have HF' := Lib.hid hF
      clear hF t1 t2
      have hsz := hb.size
      go_wp2_with fail
      refine (HF'.out wr hb).mono ?_
      rintro e w1 ⟨rfl, hb1⟩
      have t1 := hT.out.on hb1
      have t2 := hT2.out.on hb1
      have hc' := t1.c0
      have hfr := t1.free 0
      have HS := Lib.hid (t1.set (j := 0) (d := eachV c r 1) (v := r 0) (by omega) (by simp [eachV]) (fun i hi => by unfold eachV; by_cases h : i < 0 <;> simp [h] <;> omega))
      have HK := Lib.hid (t2.keep (b' := w.heap.size) (j := 0) (v := .int .i64 (r 0)) (by omega))
      have hb2 := hb.trans (hb1.mono hsz)
      clear t1 t2
      go_wp2
      go_roundw
      case rel => exact ⟨1, by omega, rfl, HS.out, HK.out, hb2.setCell (by simp) _⟩
      case measure => simp [intOf]
    · have hF := HF.out 1 (by omega)
      have hT := Lib.hid t1
      have hT2 := Lib.hid t2
      have hc : wr.cell? ⟨w.heap.size, 1, none⟩ = some (.int .i64 (c 1)) := t1.c1
      have HF' := Lib.hid hF
      clear hF t1 t2
      have hsz := hb.size
      go_wp2_with fail
      refine (HF'.out wr hb).mono ?_
      rintro e w1 ⟨rfl, hb1⟩
      have t1 := hT.out.on hb1
      have t2 := hT2.out.on hb1
      have hc' := t1.c1
      have hfr := t1.free 1
      have HS := Lib.hid (t1.set (j := 1) (d := eachV c r 2) (v := r 1) (by omega) (by simp [eachV]) (fun i hi => by unfold eachV; by_cases h : i < 1 <;> simp [h] <;> omega))
      have HK := Lib.hid (t2.keep (b' := w.heap.size) (j := 1) (v := .int .i64 (r 1)) (by omega))
      have hb2 := hb.trans (hb1.mono hsz)
      clear t1 t2
      go_wp2
      go_roundw
      case rel => exact ⟨2, by omega, rfl, HS.out, HK.out, hb2.setCell (by simp) _⟩
      case measure => simp [intOf]
    · have hF := HF.out 2 (by omega)
      have hT := Lib.hid t1
      have hT2 := Lib.hid t2
      have hc : wr.cell? ⟨w.heap.size, 2, none⟩ = some (.int .i64 (c 2)) := t1.c2
      have HF' := Lib.hid hF
      clear hF t1 t2
      have hsz := hb.size
      go_wp2_with fail
      refine (HF'.out wr hb).mono ?_
      rintro e w1 ⟨rfl, hb1⟩
      have t1 := hT.out.on hb1
      have t2 := hT2.out.on hb1
      have hc' := t1.c2
      have hfr := t1.free 2
      have HS := Lib.hid (t1.set (j := 2) (d := eachV c r 3) (v := r 2) (by omega) (by simp [eachV]) (fun i hi => by unfold eachV; by_cases h : i < 2 <;> simp [h] <;> omega))
      have HK := Lib.hid (t2.keep (b' := w.heap.size) (j := 2) (v := .int .i64 (r 2)) (by omega))
      have hb2 := hb.trans (hb1.mono hsz)
      clear t1 t2
      go_wp2
      go_roundw
      case rel => exact ⟨3, by omega, rfl, HS.out, HK.out, hb2.setCell (by simp) _⟩
      case measure => simp [intOf]
    · have d0 := t1.c0
      have d1 : wr.cell? ⟨w.heap.size, 1, none⟩ = some (.int .i64 (r 1)) := t1.c1
      have d2 : wr.cell? ⟨w.heap.size, 2, none⟩ = some (.int .i64 (r 2)) := t1.c2
      have x0 := t2.c0
      have x1 := t2.c1
      have x2 := t2.c2
      have y0 := t2.free 0
      have y1 := t2.free 1
      have y2 := t2.free 2
      clear t1 t2
      go_wp2
      refine bodyPost_ret (v := .agg #[.int .i64 (r 0), .int .i64 (r 1), .int .i64 (r 2)]) (by simp [results, Try.results58, go_sem, eachV, *]) rfl ?_
      refine ⟨rfl, ?_⟩
      first | exact hb | exact ((hb.setCell (p := ⟨w.heap.size + 1, 0, none⟩) (by simp) _).setCell (p := ⟨w.heap.size + 1, 1, none⟩) (by simp) _).setCell (p := ⟨w.heap.size + 1, 2, none⟩) (by simp) _


set_option maxHeartbeats 1000000 in
theorem each_look3 {c r : Nat → Int} {w : World}
    (hf : ∀ i : Nat, i < 3 → ∀ W, Below w.heap.size w W → Calls Try.prog 88 #[.int .i64 i, .int .i64 (c i)] W fun e W' => e = .returned (.int .i64 (r i)) ∧ Below W.heap.size W W') :
    Calls Try.prog 58 #[col c, .func (.func 88) #[] #[]] w fun e w' => e = .returned (col r) ∧ Below w.heap.size w w' := by
  have HF := Lib.hid hf
  clear hf
  unfold col
  have i0 := index_0
  have i1 := index_1
  have i2 := index_2
  go_enter Try.func58, Try.ntmps58
  go_wp2
  have T1 := (Tri.new w c 28).below (((Below.refl _ _).alloc (Nat.le_refl _) (.cells #[.int .i64 0, .int .i64 0, .int .i64 0] 28))) (by simp)
  have T2 := Tri.new (w.alloc (.cells #[.int .i64 (c 0), .int .i64 (c 1), .int .i64 (c 2)] 28)) (fun _ => 0) 28
  rw [World.size_alloc] at T2
  have B1 : Below w.heap.size w ((w.alloc (.cells #[.int .i64 (c 0), .int .i64 (c 1), .int .i64 (c 2)] 28)).alloc (.cells #[.int .i64 0, .int .i64 0, .int .i64 0] 28)) := ((Below.refl _ w).alloc (Nat.le_refl _) _).alloc (by simp) _
  go_loopw [8] (fun i wr => ∃ k : Nat, k ≤ 3 ∧ i = .int .i64 k ∧ Tri 28 wr w.heap.size (eachV c r k) ∧ Tri 28 wr (w.heap.size + 1) (fun _ => 0) ∧ Below w.heap.size w wr) (fun i _ => 3 - (intOf i).toNat)
  case atStart => exact ⟨0, by omega, rfl, T1, T2, B1⟩
  case round =>
    obtain ⟨k, hk, rfl, t1, t2, hb⟩ := hrel
    obtain rfl | rfl | rfl | rfl : k = 0 ∨ k = 1 ∨ k = 2 ∨ k = 3 := by omega
    · have hF := HF.out 0 (by omega)
      have hT := Lib.hid t1
      have hT2 := Lib.hid t2
      have hc : wr.cell? ⟨w.heap.size, 0, none⟩ = some (.int .i64 (c 0)) := t1.c0
      have HF' := Lib.hid hF
      clear hF t1 t2
      have hsz := hb.size
      go_wp2_with fail
      refine (HF'.out wr hb).mono ?_
      rintro e w1 ⟨rfl, hb1⟩
      have t1 := hT.out.on hb1
      have t2 := hT2.out.on hb1
      have hc' := t1.c0
      have hfr := t1.free 0
      have HS := Lib.hid (t1.set (j := 0) (d := eachV c r 1) (v := r 0) (by omega) (by simp [eachV]) (fun i hi => by unfold eachV; by_cases h : i < 0 <;> simp [h] <;> omega))
      have HK := Lib.hid (t2.keep (b' := w.heap.size) (j := 0) (v := .int .i64 (r 0)) (by omega))
      have hb2 := hb.trans (hb1.mono hsz)
      clear t1 t2
      go_wp2
      go_roundw
      case rel => exact ⟨1, by omega, rfl, HS.out, HK.out, hb2.setCell (by simp) _⟩
      case measure => simp [intOf]
    · have hF := HF.out 1 (by omega)
      have hT := Lib.hid t1
      have hT2 := Lib.hid t2
      have hc : wr.cell? ⟨w.heap.size, 1, none⟩ = some (.int .i64 (c 1)) := t1.c1
      have HF' := Lib.hid hF
      clear hF t1 t2
      have hsz := hb.size
      go_wp2_with fail
      refine (HF'.out wr hb).mono ?_
      rintro e w1 ⟨rfl, hb1⟩
      have t1 := hT.out.on hb1
      have t2 := hT2.out.on hb1
      have hc' := t1.c1
      have hfr := t1.free 1
      have HS := Lib.hid (t1.set (j := 1) (d := eachV c r 2) (v := r 1) (by omega) (by simp [eachV]) (fun i hi => by unfold eachV; by_cases h : i < 1 <;> simp [h] <;> omega))
      have HK := Lib.hid (t2.keep (b' := w.heap.size) (j := 1) (v := .int .i64 (r 1)) (by omega))
      have hb2 := hb.trans (hb1.mono hsz)
      clear t1 t2
      go_wp2
      go_roundw
      case rel => exact ⟨2, by omega, rfl, HS.out, HK.out, hb2.setCell (by simp) _⟩
      case measure => simp [intOf]
    · have hF := HF.out 2 (by omega)
      have hT := Lib.hid t1
      have hT2 := Lib.hid t2
      have hc : wr.cell? ⟨w.heap.size, 2, none⟩ = some (.int .i64 (c 2)) := t1.c2
      have HF' := Lib.hid hF
      clear hF t1 t2
      have hsz := hb.size
      go_wp2_with fail
      refine (HF'.out wr hb).mono ?_
      rintro e w1 ⟨rfl, hb1⟩
      have t1 := hT.out.on hb1
      have t2 := hT2.out.on hb1
      have hc' := t1.c2
      have hfr := t1.free 2
      have HS := Lib.hid (t1.set (j := 2) (d := eachV c r 3) (v := r 2) (by omega) (by simp [eachV]) (fun i hi => by unfold eachV; by_cases h : i < 2 <;> simp [h] <;> omega))
      have HK := Lib.hid (t2.keep (b' := w.heap.size) (j := 2) (v := .int .i64 (r 2)) (by omega))
      have hb2 := hb.trans (hb1.mono hsz)
      clear t1 t2
      go_wp2
      go_roundw
      case rel => exact ⟨3, by omega, rfl, HS.out, HK.out, hb2.setCell (by simp) _⟩
      case measure => simp [intOf]
    · have d0 := t1.c0
      have d1 : wr.cell? ⟨w.heap.size, 1, none⟩ = some (.int .i64 (r 1)) := t1.c1
      have d2 : wr.cell? ⟨w.heap.size, 2, none⟩ = some (.int .i64 (r 2)) := t1.c2
      have x0 := t2.c0
      have x1 := t2.c1
      have x2 := t2.c2
      have y0 := t2.free 0
      have y1 := t2.free 1
      have y2 := t2.free 2
      clear t1 t2
      go_wp2
      refine bodyPost_ret (v := .agg #[.int .i64 (r 0), .int .i64 (r 1), .int .i64 (r 2)]) (by simp [results, Try.results58, go_sem, eachV, *]) rfl ?_
      refine ⟨rfl, ?_⟩
      first | exact hb | exact ((hb.setCell (p := ⟨w.heap.size + 1, 0, none⟩) (by simp) _).setCell (p := ⟨w.heap.size + 1, 1, none⟩) (by simp) _).setCell (p := ⟨w.heap.size + 1, 2, none⟩) (by simp) _


end Go.Proofs.Ytmilljlkcbljpaa

/- Clamping of colours. -/
namespace Go.Proofs.Ytmilljlkcbljpaa
open Go.RowKit

set_option maxHeartbeats 400000 in
theorem clamped1_any {a b v i : Int} {b1 b2 : Nat} {w : World} (hab : a ≤ b) (c1 : w.cell? ⟨b1, 0, none⟩ = some (.int .i64 a)) (c2 : w.cell? ⟨b2, 0, none⟩ = some (.int .i64 b)) :
    Calls Try.prog 89 #[.int .i64 i, .int .i64 v, .pointer (some ⟨b1, 0, none⟩), .pointer (some ⟨b2, 0, none⟩)] w fun e w' => e = .returned (.int .i64 (clm a b v)) ∧ Drawn w w' := by
  by_cases h1 : v < a
  · have E := Lib.hid (show clm a b v = a from if_pos h1)
    have h2 : ¬ b < v := by omega
    go_enter Try.func89, Try.ntmps89
    go_wp2
    all_goals (
      go_ret
      exact ⟨ret_int (by rw [E.out] <;> omega), .refl _⟩)
  · by_cases h2 : b < v
    · have E := Lib.hid (show clm a b v = b by unfold clm; rw [if_neg h1, if_pos h2])
      have h3 : ¬ b < a := by omega
      go_enter Try.func89, Try.ntmps89
      go_wp2
      all_goals (
        go_ret
        exact ⟨ret_int (by rw [E.out] <;> omega), .refl _⟩)
    · have E := Lib.hid (show clm a b v = v by unfold clm; rw [if_neg h1, if_neg h2])
      go_enter Try.func89, Try.ntmps89
      go_wp2
      all_goals (
        go_ret
        exact ⟨ret_int (by rw [E.out] <;> omega), .refl _⟩)

theorem Tri.alloc {t : TypeId} {w : World} {b : Nat} {c : Nat → Int} (h : Tri t w b c) (o : Obj) : Tri t (w.alloc o) b c := h.on ((Below.refl _ _).alloc (Nat.le_refl _) _)

/-- The boxes of clamped: the colour, the two bounds, the result. -/
theorem clamped_new (w : World) (c : Nat → Int) (a b : Int) (t t' : TypeId) : ∃ w0, (((w.alloc (.cells #[.int .i64 (c 0), .int .i64 (c 1), .int .i64 (c 2)] t)).alloc (.cells #[.int .i64 a] t')).alloc (.cells #[.int .i64 b] t')).alloc (.cells #[.int .i64 0, .int .i64 0, .int .i64 0] t) = w0 ∧
    Below w.heap.size w w0 ∧ w0.heap.size = w.heap.size + 4 ∧ w0.cell? ⟨w.heap.size + 1, 0, none⟩ = some (.int .i64 a) ∧ w0.cell? ⟨w.heap.size + 2, 0, none⟩ = some (.int .i64 b) ∧ Tri t w0 w.heap.size c ∧ Tri t w0 (w.heap.size + 3) (fun _ => 0) := by
  refine ⟨_, rfl, ((((Below.refl _ w).alloc (Nat.le_refl _) _).alloc (by simp) _).alloc (by simp <;> omega) _).alloc (by simp <;> omega) _, by simp, ?_, ?_, ?_, ?_⟩
  · rw [World.cell?_alloc_past _ _ _ (by simp <;> omega), World.cell?_alloc_past _ _ _ (by simp), World.cell?_alloc_at _ _ _ _ (by simp)]; rfl
  · rw [World.cell?_alloc_past _ _ _ (by simp), World.cell?_alloc_at _ _ _ _ (by simp)]; rfl
  · have h := Tri.new w c t
    exact ((h.alloc _).alloc _).alloc _
  · have h := Tri.new (((w.alloc (.cells #[.int .i64 (c 0), .int .i64 (c 1), .int .i64 (c 2)] t)).alloc (.cells #[.int .i64 a] t')).alloc (.cells #[.int .i64 b] t')) (fun _ => 0) t
    simp only [World.size_alloc] at h
    exact h

set_option maxHeartbeats 1000000 in
theorem clamped_any {a b : Int} {c : Nat → Int} {w : World} (hab : a ≤ b) :
    Calls Try.prog 55 #[col c, .int .i64 a, .int .i64 b] w fun e w' => e = .returned (col fun i => clm a b (c i)) ∧ Below w.heap.size w w' := by
  have hmf : ∀ (fn : Fn) (first cap : Array Value) (w : World), (Instr.makeFunc fn first cap).run Try.prog w = .ok (.func fn first cap) w := fun _ _ _ _ => rfl
  obtain ⟨w0, h0, hb, hz, c1, c2, t1, t2⟩ := clamped_new w c a b 28 3
  have d0 := t1.c0
  have d1 := t1.c1
  have d2 := t1.c2
  have T2 := Lib.hid t2
  have Z := Lib.hid hz
  clear t1 t2 hz
  unfold col
  go_enter Try.func55, Try.ntmps55
  go_wp2_with fail
  refine (each_clamped (c := c) (r := fun i => clm a b (c i)) fun i hi W hbW => ?_).mono ?_
  · refine (clamped1_any hab ?_ ?_).mono ?_
    · exact (hbW.cell (p := ⟨w.heap.size + 1, 0, none⟩) (by have := Z.out; simp; omega)).trans c1
    · exact (hbW.cell (p := ⟨w.heap.size + 2, 0, none⟩) (by have := Z.out; simp; omega)).trans c2
    · rintro e w' ⟨he, hd⟩
      exact ⟨he, hd.below _⟩
  · unfold col
    rintro e w1 ⟨rfl, hb1⟩
    have T3 := T2.out.on hb1
    have x0 := T3.c0
    have x1 := T3.c1
    have x2 := T3.c2
    have y0 := T3.free 0
    have y1 := T3.free 1
    have y2 := T3.free 2
    have hb2 := hb.trans (hb1.mono (by have := Z.out; omega))
    clear T3
    go_wp2
    refine bodyPost_ret (v := .agg #[.int .i64 (clm a b (c 0)), .int .i64 (clm a b (c 1)), .int .i64 (clm a b (c 2))]) (by simp [results, Try.results55, go_sem, *]) rfl ?_
    exact ⟨rfl, ((hb2.setCell (p := ⟨w.heap.size + 3, 0, none⟩) (by simp) _).setCell (p := ⟨w.heap.size + 3, 1, none⟩) (by simp) _).setCell (p := ⟨w.heap.size + 3, 2, none⟩) (by simp) _⟩

end Go.Proofs.Ytmilljlkcbljpaa

/- Gamut, floor, clamps of the reference. -/
namespace Go.Proofs.Ytmilljlkcbljpaa
open Go.RowKit

/-- The box of a colour, the result. -/
theorem gamut_new (w : World) (c : Nat → Int) (t : TypeId) : ∃ w0, (w.alloc (.cells #[.int .i64 (c 0), .int .i64 (c 1), .int .i64 (c 2)] t)).alloc (.cells #[.int .i64 0, .int .i64 0, .int .i64 0] t) = w0 ∧
    Below w.heap.size w w0 ∧ w0.heap.size = w.heap.size + 2 ∧ Tri t w0 w.heap.size c ∧ Tri t w0 (w.heap.size + 1) (fun _ => 0) := by
  refine ⟨_, rfl, ((Below.refl _ w).alloc (Nat.le_refl _) _).alloc (by simp) _, by simp, (Tri.new w c t).alloc _, ?_⟩
  have h := Tri.new (w.alloc (.cells #[.int .i64 (c 0), .int .i64 (c 1), .int .i64 (c 2)] t)) (fun _ => 0) t
  simp only [World.size_alloc] at h
  exact h

set_option maxHeartbeats 1000000 in
theorem gamut_any {c : Nat → Int} {w : World} :
    Calls Try.prog 56 #[col c] w fun e w' => e = .returned (col (gam c)) ∧ Below w.heap.size w w' := by
  obtain ⟨w0, h0, hb, hz, t1, t2⟩ := gamut_new w c 28
  have d0 := t1.c0
  have d1 := t1.c1
  have d2 := t1.c2
  have T2 := Lib.hid t2
  have Z := Lib.hid hz
  clear t1 t2 hz
  have hcl := Lib.hid (fun W => clamped_any (a := 0) (b := 65535) (c := c) (w := W) (by omega))
  unfold col at *
  go_enter Try.func56, Try.ntmps56
  go_wp2_with fail
  refine (hcl.out _).mono ?_
  rintro e w1 ⟨rfl, hb1⟩
  have T3 := T2.out.on hb1
  have x0 := T3.c0
  have x1 := T3.c1
  have x2 := T3.c2
  have y0 := T3.free 0
  have y1 := T3.free 1
  have y2 := T3.free 2
  have hb2 := hb.trans (hb1.mono (by have := Z.out; omega))
  clear T3
  go_wp2
  refine bodyPost_ret (v := .agg #[.int .i64 (clm 0 65535 (c 0)), .int .i64 (clm 0 65535 (c 1)), .int .i64 (clm 0 65535 (c 2))]) (by simp [results, Try.results56, go_sem, *]) rfl ?_
  exact ⟨rfl, ((hb2.setCell (p := ⟨w.heap.size + 1, 0, none⟩) (by simp) _).setCell (p := ⟨w.heap.size + 1, 1, none⟩) (by simp) _).setCell (p := ⟨w.heap.size + 1, 2, none⟩) (by simp) _⟩

set_option maxHeartbeats 400000 in
theorem clamp_any {a b v : Int} {w : World} (hab : a ≤ b) :
    Calls Try.prog 72 #[.int .i64 a, .int .i64 v, .int .i64 b] w fun e w' => e = .returned (.int .i64 (clm a b v)) ∧ w' = w := by
  by_cases h1 : v < a
  · have E := Lib.hid (show clm a b v = a from if_pos h1)
    have h2 : ¬ b < v := by omega
    go_enter Try.func72, Try.ntmps72
    go_wp2
    all_goals (
      go_ret
      exact ⟨ret_int (by rw [E.out] <;> omega), rfl⟩)
  · by_cases h2 : b < v
    · have E := Lib.hid (show clm a b v = b by unfold clm; rw [if_neg h1, if_pos h2])
      have h3 : ¬ b < a := by omega
      go_enter Try.func72, Try.ntmps72
      go_wp2
      all_goals (
        go_ret
        exact ⟨ret_int (by rw [E.out] <;> omega), rfl⟩)
    · have E := Lib.hid (show clm a b v = v by unfold clm; rw [if_neg h1, if_neg h2])
      go_enter Try.func72, Try.ntmps72
      go_wp2
      all_goals (
        go_ret
        exact ⟨ret_int (by rw [E.out] <;> omega), rfl⟩)

end Go.Proofs.Ytmilljlkcbljpaa

/- Gamut and bound of the reference; floor. -/
namespace Go.Proofs.Ytmilljlkcbljpaa
open Go.RowKit

set_option maxRecDepth 100000 in
set_option maxHeartbeats 1000000 in
theorem refGamut_any {c : Nat → Int} {w : World} :
    Calls Try.prog 71 #[col c] w fun e w' => e = .returned (col (gam c)) ∧ Below w.heap.size w w' := by
  obtain ⟨w0, h0, hb, hz, t1, t2⟩ := gamut_new w c 28
  have d0 := t1.c0
  have d1 := t1.c1
  have d2 := t1.c2
  have x0 := t2.c0
  have x1 := t2.c1
  have x2 := t2.c2
  have y0 := t2.free 0
  have y1 := t2.free 1
  have y2 := t2.free 2
  have Z := Lib.hid hz
  clear t1 t2 hz
  have k0 := Lib.hid (clamp_any (a := 0) (b := 65535) (v := c 0) (w := w0.drew) (by omega))
  have k1 := Lib.hid (clamp_any (a := 0) (b := 65535) (v := c 1) (w := w0.drew) (by omega))
  have k2 := Lib.hid (clamp_any (a := 0) (b := 65535) (v := c 2) (w := w0.drew) (by omega))
  unfold col
  go_enter Try.func71, Try.ntmps71
  go_wp2
  refine wp_region_still_tail 10 (by kernel_rfl) (by kernel_rfl) ?_
  simp only [List.take_succ_cons, List.take_zero, List.drop_succ_cons, List.drop_zero]
  change wpStill _ _ w0.drew _ _ _
  clear h0
  still_step; still_step; still_call k0.out
  still_step; still_step; still_call k1.out
  still_step; still_step; still_call k2.out
  still_step
  refine wpStill_nil ?_
  change wpList _ _ _ _ _ w0.drew
  go_wp2
  refine bodyPost_ret (v := .agg #[.int .i64 (clm 0 65535 (c 0)), .int .i64 (clm 0 65535 (c 1)), .int .i64 (clm 0 65535 (c 2))]) (by simp [results, Try.results71, go_sem, *]) rfl ?_
  exact ⟨rfl, below_drewN (set3_below hb (by simp) _ _ _) 1⟩

set_option maxRecDepth 100000 in
set_option maxHeartbeats 1000000 in
theorem refBound_any {c : Nat → Int} {w : World} :
    Calls Try.prog 70 #[col c] w fun e w' => e = .returned (col (bnd c)) ∧ Below w.heap.size w w' := by
  obtain ⟨w0, h0, hb, hz, t1, t2⟩ := gamut_new w c 28
  have d0 := t1.c0
  have d1 := t1.c1
  have d2 := t1.c2
  have x0 := t2.c0
  have x1 := t2.c1
  have x2 := t2.c2
  have y0 := t2.free 0
  have y1 := t2.free 1
  have y2 := t2.free 2
  have Z := Lib.hid hz
  clear t1 t2 hz
  have k0 := Lib.hid (clamp_any (a := -16777216) (b := 16777216) (v := c 0) (w := w0.drew) (by omega))
  have k1 := Lib.hid (clamp_any (a := -16777216) (b := 16777216) (v := c 1) (w := w0.drew) (by omega))
  have k2 := Lib.hid (clamp_any (a := -16777216) (b := 16777216) (v := c 2) (w := w0.drew) (by omega))
  unfold col
  go_enter Try.func70, Try.ntmps70
  go_wp2
  refine wp_region_still_tail 19 (by kernel_rfl) (by kernel_rfl) ?_
  simp only [List.take_succ_cons, List.take_zero, List.drop_succ_cons, List.drop_zero]
  change wpStill _ _ w0.drew _ _ _
  clear h0
  iterate 5 still_step
  still_call k0.out
  iterate 5 still_step
  still_call k1.out
  iterate 5 still_step
  still_call k2.out
  still_step
  refine wpStill_nil ?_
  change wpList _ _ _ _ _ w0.drew
  go_wp2
  refine bodyPost_ret (v := .agg #[.int .i64 (clm (-16777216) 16777216 (c 0)), .int .i64 (clm (-16777216) 16777216 (c 1)), .int .i64 (clm (-16777216) 16777216 (c 2))]) (by simp [results, Try.results70, go_sem, *]) rfl ?_
  exact ⟨rfl, below_drewN (set3_below hb (by simp) _ _ _) 1⟩

theorem floor_pos {x y : Int} (hx : 0 ≤ x) : x.tdiv y = x / y ∧ x.tmod y = x % y := ⟨Int.tdiv_eq_ediv_of_nonneg hx, Int.tmod_eq_emod_of_nonneg hx⟩
theorem floor_neg {x y : Int} (hy : 0 < y) (hx : x < 0) : (x.tmod y = 0 → x.tdiv y = x / y) ∧ (x.tmod y ≠ 0 → x.tdiv y - 1 = x / y) := by
  have h1 := (Int.mul_tdiv_add_tmod x y).symm
  have h2 : -y < x.tmod y := by have := Int.tmod_lt_of_pos (-x) hy; rw [Int.neg_tmod] at this; omega
  have h3 : x.tmod y ≤ 0 := by have := Int.tmod_nonneg y (a := -x) (by omega); rw [Int.neg_tmod] at this; omega
  generalize x.tmod y = r at *
  generalize x.tdiv y = q at *
  constructor
  · intro h
    subst h
    rw [h1, Int.add_zero, Int.mul_ediv_cancel_left _ (by omega)]
  · intro h
    rw [h1, show y * q + r = (r + y) + y * (q - 1) by rw [Int.mul_sub]; omega, Int.add_mul_ediv_left _ _ (by omega), Int.ediv_eq_zero_of_lt (by omega) (by omega)]
    omega

theorem floor_bd {x y : Int} (hy : 0 < y) (hx : x < 0) (hx' : -4611686018427387904 ≤ x) : -4611686018427387904 ≤ x.tdiv y ∧ x.tdiv y ≤ 0 := by
  have h1 : (-x).tdiv y = - x.tdiv y := Int.neg_tdiv x y
  have h2 : (-x).tdiv y = (-x) / y := Int.tdiv_eq_ediv_of_nonneg (by omega)
  have h3 := Int.ediv_nonneg (a := -x) (b := y) (by omega) (by omega)
  have h4 := Int.ediv_le_self (a := -x) y (by omega)
  omega

set_option maxHeartbeats 400000 in
theorem floor_any {x y : Int} {w : World} (hy : 0 < y) (hy' : y ≤ 4096) (hx : -4611686018427387904 ≤ x) (hx' : x ≤ 4611686018427387904) :
    Calls Try.prog 57 #[.int .i64 x, .int .i64 y] w fun e w' => e = .returned (.int .i64 (x / y)) ∧ w' = w := by
  have hy0 : (y == 0) = false := by simp; omega
  by_cases h : 0 ≤ x
  · have g1 : ¬ x < 0 := by omega
    have g2 : ¬ y < 0 := by omega
    have g3 : decide (x < 0) = false := decide_eq_false g1
    have g4 : decide (y < 0) = false := decide_eq_false g2
    by_cases hr : x % y = 0
    · have hr' : (x % y != 0) = false := by simp [hr]
      go_enter Try.func57, Try.ntmps57
      go_wp2
      go_ret
      exact ⟨rfl, rfl⟩
    · have hr' : (x % y != 0) = true := by simp [hr]
      go_enter Try.func57, Try.ntmps57
      go_wp2
      go_ret
      exact ⟨rfl, rfl⟩
  · have g1 : x < 0 := by omega
    have g2 : ¬ y < 0 := by omega
    have g3 : decide (x < 0) = true := decide_eq_true g1
    have g4 : decide (y < 0) = false := decide_eq_false g2
    obtain ⟨f1, f2⟩ := floor_neg hy g1
    obtain ⟨q1, q2⟩ := floor_bd hy g1 hx
    by_cases hr : x.tmod y = 0
    · have hr' : (x.tmod y != 0) = false := by simp [hr]
      have E := Lib.hid (f1 hr)
      clear f1 f2 hr
      go_enter Try.func57, Try.ntmps57
      go_wp2
      go_ret
      exact ⟨ret_int E.out, rfl⟩
    · have hr' : (x.tmod y != 0) = true := by simp [hr]
      have E := Lib.hid (f2 hr)
      clear f1 f2 hr
      go_enter Try.func57, Try.ntmps57
      go_wp2
      go_ret
      exact ⟨ret_int E.out, rfl⟩

set_option maxHeartbeats 400000 in
theorem refFloor_any {x y : Int} {w : World} (hy : 0 < y) (hy' : y ≤ 4096) (hx : -4611686018427387904 ≤ x) (hx' : x ≤ 4611686018427387904) :
    Calls Try.prog 73 #[.int .i64 x, .int .i64 y] w fun e w' => e = .returned (.int .i64 (x / y)) ∧ w' = w := by
  have hy0 : (y == 0) = false := by simp; omega
  by_cases h : 0 ≤ x
  · have g1 : ¬ x < 0 := by omega
    have g2 : ¬ y < 0 := by omega
    have g3 : decide (x < 0) = false := decide_eq_false g1
    have g4 : decide (y < 0) = false := decide_eq_false g2
    by_cases hr : x % y = 0
    · have hr' : (x % y != 0) = false := by simp [hr]
      go_enter Try.func73, Try.ntmps73
      go_wp2
      go_ret
      exact ⟨rfl, rfl⟩
    · have hr' : (x % y != 0) = true := by simp [hr]
      go_enter Try.func73, Try.ntmps73
      go_wp2
      go_ret
      exact ⟨rfl, rfl⟩
  · have g1 : x < 0 := by omega
    have g2 : ¬ y < 0 := by omega
    have g3 : decide (x < 0) = true := decide_eq_true g1
    have g4 : decide (y < 0) = false := decide_eq_false g2
    obtain ⟨f1, f2⟩ := floor_neg hy g1
    obtain ⟨q1, q2⟩ := floor_bd hy g1 hx
    by_cases hr : x.tmod y = 0
    · have hr' : (x.tmod y != 0) = false := by simp [hr]
      have E := Lib.hid (f1 hr)
      clear f1 f2 hr
      go_enter Try.func73, Try.ntmps73
      go_wp2
      go_ret
      exact ⟨ret_int E.out, rfl⟩
    · have hr' : (x.tmod y != 0) = true := by simp [hr]
      have E := Lib.hid (f2 hr)
      clear f1 f2 hr
      go_enter Try.func73, Try.ntmps73
      go_wp2
      go_ret
      exact ⟨ret_int E.out, rfl⟩

end Go.Proofs.Ytmilljlkcbljpaa

/- A region that draws its order: its first operations quiet in a class of worlds, the rest in the order of the text. -/
namespace Go.Proofs.Ytmilljlkcbljpaa
open Go.RowKit Go.Sort
variable {P : Program} {ops : Array Oper} {md : Region.Mode} {C : World → Prop}

/-- Whatever order is picked of the first n operations; then L. -/
def headQ (P : Program) (md : Region.Mode) (ops : Array Oper) (C : World → Prop) (n : Nat) (L : Array Bool → Act → Prop) : Nat → Array Bool → Act → Prop
  | 0, listed, a => L listed a
  | f + 1, listed, a => Region.ready md ops listed ≠ [] ∧ ∀ i ∈ Region.ready md ops listed, i < n ∧ qOp P ops C i (headQ P md ops C n L f (listed.setIfInBounds i true)) a

theorem any_of_headQ {n g : Nat} {L : Array Bool → Act → Prop} {Q' : Exit → Act → World → Prop} (hL : ∀ listed a w, C w → L listed a → wpAny P md ops Q' g listed a w) :
    ∀ (f : Nat) (listed : Array Bool) (a : Act) (w : World), C w → headQ P md ops C n L f listed a → wpAny P md ops Q' (f + g) listed a w
  | 0, _, _, _, hw, h => by rw [Nat.zero_add]; exact hL _ _ _ hw h
  | f + 1, listed, a, w, hw, h => by
    rw [show f + 1 + g = (f + g) + 1 by omega]
    exact ⟨fun h0 => absurd h0 h.1, fun i hi => wpOp_of_qOp hw (fun a' w' hw' h' => any_of_headQ hL f _ a' w' hw' h') (h.2 i hi).2⟩

theorem headQ_first {n i : Nat} {oi : Oper} {v : Value} {L : Array Bool → Act → Prop} (hi : ops[i]? = some oi) (hsel : ∀ (j : Nat) (o : Oper) cs b, ops[j]? = some o → o.op ≠ .select cs b)
    (hs : Region.sinkB md ops n = true) (hc : Region.chainB md ops n = true) (hn : n < ops.size) (hin : i < n) (hdone : ∀ listed a, L listed a → ∀ j ∈ Region.ready md ops listed, n ≤ j) :
    ∀ (f : Nat) (listed : Array Bool) (a : Act), HeadInv md ops n listed →
      (∀ j oj, ops[j]? = some oj → j ≠ i → listed.getD j true = false → (∀ e ∈ oj.after, Region.binds md e = true → e.on ≠ i) → oi.apart ops oj = true) →
      i ∈ Region.ready md ops listed → YieldsIn P ops C oi v a → headQ P md ops C n L f (listed.setIfInBounds i true) (a.put oi.dst v) → headQ P md ops C n L (f + 1) listed a := by
  intro f
  induction f with
  | zero =>
    intro listed a inv _ hr hy H
    have hun := (mem_ready.1 hr).1
    refine ⟨fun h => (by rw [h] at hr; cases hr), fun j hj => ?_⟩
    have hjn : j < n := (Nat.lt_or_ge j n).elim id fun h => absurd hj (tail_waits hs hc hn inv _ i rfl hin hun j h)
    refine ⟨hjn, ?_⟩
    by_cases hji : j = i
    · subst hji; exact hy.qOp hi H
    · have := hdone _ _ H j (ready_mono hj hji)
      omega
  | succ f ih =>
    intro listed a inv hfree hr hy H
    have hun := (mem_ready.1 hr).1
    refine ⟨fun h => (by rw [h] at hr; cases hr), fun j hj => ?_⟩
    have hjn : j < n := (Nat.lt_or_ge j n).elim id fun h => absurd hj (tail_waits hs hc hn inv _ i rfl hin hun j h)
    refine ⟨hjn, ?_⟩
    by_cases hji : j = i
    · subst hji; exact hy.qOp hi H
    · have h1 := (H.2 j (ready_mono hj hji)).2
      obtain ⟨hjun, oj, hoj, hall⟩ := mem_ready.1 hj
      have hnot : ∀ e ∈ oj.after, Region.binds md e = true → e.on ≠ i := fun e he hb heq => by
        have h1 := hall e he hb
        rw [heq, getD_both hun] at h1
        cases h1
      have h2 := qOp_put hoj (hfree j oj hoj hji hjun hnot) (fun cs b => hsel i oi cs b hi) (fun cs b => hsel j oj cs b hoj) hy h1
      have hfree' : ∀ k ok, ops[k]? = some ok → k ≠ i → (listed.setIfInBounds j true).getD k true = false →
          (∀ e ∈ ok.after, Region.binds md e = true → e.on ≠ i) → oi.apart ops ok = true := fun k ok hk hki hun hno => by
        refine hfree k ok hk hki ?_ hno
        by_cases hjk : j = k
        · subst hjk; exact hjun
        · rw [getD_set_ne true hjk] at hun; exact hun
      refine qOp_mono (fun a' h3 => ih (listed.setIfInBounds j true) a' (inv.set hj hjn) hfree' (ready_mono hr (Ne.symm hji)) h3.1 ?_) h2
      rw [Array.setIfInBounds_comm _ _ hji]
      exact h3.2

theorem headQ_lex {n g : Nat} {Lq : Act → Prop} (hsel : Region.noSelect ops = true) (hs : Region.sinkB md ops n = true) (hc : Region.chainB md ops n = true) (hn : n < ops.size) :
    ∀ (l : List Oper) (k : Nat) (listed : Array Bool) (a : Act), (∀ j, j < l.length → l[j]? = ops[k + j]?) → k + l.length = n → HeadInv md ops n listed →
    Region.lexHead md ops g l.length k listed = true → wpQuiet P ops C Lq l a → headQ P md ops C n (fun listed' a' => Region.seqB md ops g n listed' = true ∧ Lq a') l.length listed a
  | [], k, listed, a, _, hk, _, hB, h => by
    have : k = n := by simpa using hk
    subst this
    exact ⟨by simpa [Region.lexHead] using hB, h⟩
  | o :: l, k, listed, a, hl, hk, inv, hB, h => by
    have h0 : ops[k]? = some o := by simpa using (hl 0 (by simp)).symm
    simp only [List.length_cons, Region.lexHead, Bool.and_eq_true] at hB
    obtain ⟨⟨hr, hf⟩, hB'⟩ := hB
    have hkn : k < n := by simp only [List.length_cons] at hk; omega
    have hr' : k ∈ Region.ready md ops listed := by simpa using hr
    have hst : qOp P ops C k (wpQuiet P ops C Lq l) a := by unfold qOp; simp only [h0]; exact h
    obtain ⟨v, hy, hK⟩ := yieldsIn_of_qOp h0 hst
    exact headQ_first h0 (Region.noSelect_spec hsel) hs hc hn hkn (fun listed' a' hL => seqB_ready hL.1) l.length listed a inv (Region.free_spec h0 hf) hr' hy
      (headQ_lex hsel hs hc hn l (k + 1) _ _ (fun j hj => by have := hl (j + 1) (by simp; omega); simpa [Nat.add_assoc, Nat.add_comm 1 j] using this) (by simp only [List.length_cons] at hk; omega) (inv.set hr' hkn) hB' hK)

theorem region_quiet_tail {id : Nat} {Q : Exit → Act → World → Prop} {a : Act} {w : World} {l : List Oper} (n : Nat) (hm : P.follows .mixedOrders = true) (hB : Region.lexTailB .any l.toArray n = true)
    (hC : C { w with drawn := w.drawn + 1 }) (h : wpQuiet P l.toArray C (fun a' => ∀ w', C w' → wpList P l.toArray Q (l.drop n) a' w') (l.take n) a) : (Code.region id l.toArray true).wp P Q a w := by
  simp only [Region.lexTailB, Bool.and_eq_true, decide_eq_true_eq] at hB
  obtain ⟨⟨⟨⟨hsel, hn⟩, hs⟩, hc⟩, hlex⟩ := hB
  have hn' : n < l.length := by simpa using hn
  have htl : (l.take n).length = n := by simp; omega
  have hdl : (l.drop n).length = l.toArray.size - n := by simp
  have inv0 : HeadInv .any l.toArray n (Array.replicate l.toArray.size false) :=
    ⟨by simp, fun j oj _ hl => (by rw [getD_replicate_false] at hl; cases hl), fun t _ ht => getD_in (by simpa using ht) (getD_replicate_false _ _)⟩
  have H := headQ_lex (md := .any) (g := l.toArray.size - n) hsel hs hc hn (l.take n) 0 _ a (fun j hj => by
    have hj' : j < n := by rw [htl] at hj; exact hj
    simp [hj']) (by simpa using htl) inv0 (by rw [htl]; exact hlex) h
  refine wp_region_any hm ?_
  have := any_of_headQ (Q' := Q) (g := l.toArray.size - n) (fun listed a' w' hw' hL => by
    have := wpAny_of_seq (md := .any) (Q' := Q) (l.drop n) n listed a' w' (fun j => by simp [List.getElem?_drop]) (by rw [hdl]; exact hL.1) (hL.2 w' hw')
    rwa [hdl] at this) _ _ _ _ hC H
  rw [htl, show n + (l.toArray.size - n) = l.toArray.size by omega] at this
  exact this

/-- At the class of the worlds that hold what w held. -/
theorem region_below_tail {id : Nat} {Q : Exit → Act → World → Prop} {a : Act} {w : World} {l : List Oper} (n : Nat) (hm : P.follows .mixedOrders = true) (hB : Region.lexTailB .any l.toArray n = true)
    (h : wpQuiet P l.toArray (fun w' => ∃ p : Regrown, w' = grow (redrawn w p.d) p.os) (fun a' => ∀ w', (∃ p : Regrown, w' = grow (redrawn w p.d) p.os) → wpList P l.toArray Q (l.drop n) a' w') (l.take n) a) :
    (Code.region id l.toArray true).wp P Q a w :=
  region_quiet_tail (C := fun w' => ∃ p : Regrown, w' = grow (redrawn w p.d) p.os) n hm hB ⟨⟨w.drawn + 1, #[]⟩, by rw [grow_empty]; rfl⟩ h

theorem below_of_regrown {w w' : World} (h : ∃ p : Regrown, w' = grow (redrawn w p.d) p.os) : Below w.heap.size w w' := by
  obtain ⟨p, rfl⟩ := h; exact below_regrown w p.d p.os

/-- A contract that holds wherever memory has only grown, met in the class. -/
theorem Calls.grown_of {f : FuncId} {args : Array Value} {w : World} {v : Value}
    (h : ∀ W, Below w.heap.size w W → Calls P f args W fun e w' => e = .returned v ∧ Below W.heap.size W w') (d : Nat) (os : Array Obj) :
    Calls P f args (grow (redrawn w d) os) fun e w'' => e = .returned v ∧ ∃ p : Regrown, w'' = grow (redrawn w p.d) p.os :=
  Calls.regrown_of (h _ (below_regrown w d os))

end Go.Proofs.Ytmilljlkcbljpaa

/- The closures that each is called with. -/
namespace Go.Proofs.Ytmilljlkcbljpaa
open Go.RowKit

set_option maxHeartbeats 400000 in
theorem clip1_any {g v n m i : Int} {b1 b2 b3 : Nat} {w : World} (hg : 0 ≤ g) (hg' : g ≤ 65535) (hv : -16777216 ≤ v) (hv' : v ≤ 16777216) (hn : 0 ≤ n) (hn' : n ≤ 65535) (hnm : n ≤ m) (hm : 1 ≤ m) (hm' : m ≤ 16842751)
    (c1 : w.cell? ⟨b1, 0, none⟩ = some (.int .i64 g)) (c2 : w.cell? ⟨b2, 0, none⟩ = some (.int .i64 n)) (c3 : w.cell? ⟨b3, 0, none⟩ = some (.int .i64 m)) :
    Calls Try.prog 59 #[.int .i64 i, .int .i64 v, .pointer (some ⟨b1, 0, none⟩), .pointer (some ⟨b2, 0, none⟩), .pointer (some ⟨b3, 0, none⟩)] w fun e w' => e = .returned (.int .i64 (g + ((v - g) * n).tdiv m)) ∧ Drawn w w' := by
  obtain ⟨p1, p2⟩ := mul_abs (a := v - g) (A := 16842751) (b := n) (B := 65535) (by omega) (by omega) hn hn'
  obtain ⟨q1, q2⟩ : -16842751 ≤ ((v - g) * n).tdiv m ∧ ((v - g) * n).tdiv m ≤ 16842751 := by
    by_cases h : 0 ≤ v - g
    · have := share_pos (u := v - g) (n := n) (m := m) (t := 0) h hn hnm hm; omega
    · have := share_neg (u := v - g) (n := n) (m := m) (t := 0) (by omega) hn hnm hm; omega
  have hm0 : (m == 0) = false := by simp; omega
  go_enter Try.func59, Try.ntmps59
  go_wp2
  go_quiet (fail)
  go_wp2
  go_ret
  exact ⟨rfl, .of _⟩

set_option maxHeartbeats 400000 in
theorem narrow1_any {v i : Int} {w : World} (hv : 0 ≤ v) (hv' : v ≤ 65535) :
    Calls Try.prog 76 #[.int .i64 i, .int .i64 v] w fun e w' => e = .returned (.int .i64 ((v + 128) / 257)) ∧ Drawn w w' := by
  go_enter Try.func76, Try.ntmps76
  go_wp2
  go_ret
  exact ⟨rfl, .refl _⟩

set_option maxHeartbeats 400000 in
theorem look3_any {v i : Int} {w : World} (hv : 0 ≤ v) (hv' : v ≤ 4294836225) :
    Calls Try.prog 88 #[.int .i64 i, .int .i64 v] w fun e w' => e = .returned (.int .i64 ((v + 32767) / 65535)) ∧ Drawn w w' := by
  go_enter Try.func88, Try.ntmps88
  go_wp2
  go_ret
  exact ⟨rfl, .refl _⟩

set_option maxHeartbeats 400000 in
theorem look21_any {t : TypeId} {v k : Int} {i : Nat} {c : Nat → Int} {b1 b2 : Nat} {w : World} (hi : i < 3) (hv : 0 ≤ v) (hv' : v ≤ 4294836225) (hk : 0 ≤ k) (hk' : k ≤ 65535) (hc : InG c)
    (c1 : w.cell? ⟨b1, 0, none⟩ = some (.int .i64 k)) (c2 : Tri t w b2 c) :
    Calls Try.prog 87 #[.int .i64 i, .int .i64 v, .pointer (some ⟨b1, 0, none⟩), .pointer (some ⟨b2, 0, none⟩)] w fun e w' => e = .returned (.int .i64 (v + k * c i)) ∧ Drawn w w' := by
  have d := c2.cell i hi
  have hci := hc i hi
  obtain ⟨p1, p2⟩ := mul_bd hk hk' hci.1 hci.2
  have i1 : 0 ≤ (i : Int) ∧ (i : Int) < 3 := by omega
  clear c2 hc
  go_enter Try.func87, Try.ntmps87
  go_wp2
  go_quiet (fail)
  go_wp2
  go_ret
  exact ⟨rfl, .of _⟩

end Go.Proofs.Ytmilljlkcbljpaa

/- Comparison of colours. -/
namespace Go.Proofs.Ytmilljlkcbljpaa
open Go.RowKit

/-- A block of one cell. -/
def One (t : TypeId) (w : World) (b : Nat) (v : Value) : Prop := w.heap[b]? = some (.cells #[v] t (0, 0))
theorem One.cell {t : TypeId} {w : World} {b : Nat} {v : Value} (h : One t w b v) : w.cell? ⟨b, 0, none⟩ = some v := by simp [World.cell?, show w.heap[b]? = _ from h]
theorem One.free {t : TypeId} {w : World} {b : Nat} {v : Value} (h : One t w b v) (j : Nat) : w.frozen? ⟨b, j, none⟩ = false := frozen_of_row w b j _ _ h
theorem One.lt {t : TypeId} {w : World} {b : Nat} {v : Value} (h : One t w b v) : b < w.heap.size := (Array.getElem?_eq_some_iff.1 h).1
theorem One.below {t : TypeId} {w w' : World} {b B : Nat} {v : Value} (h : One t w b v) (hb : Below B w w') (hB : b < B) : One t w' b v := (hb.block b hB).trans h
theorem One.on {t : TypeId} {w w' : World} {b : Nat} {v : Value} (h : One t w b v) (hb : Below w.heap.size w w') : One t w' b v := h.below hb h.lt
theorem One.keep {t : TypeId} {w : World} {b b' j : Nat} {v x : Value} (h : One t w b v) (hb : b ≠ b') : One t (w.setCell ⟨b', j, none⟩ x) b v := (Below.heap_setCell w ⟨b', j, none⟩ x b hb).trans h
theorem One.set {t : TypeId} {w : World} {b : Nat} {v : Value} (h : One t w b v) (x : Value) : One t (w.setCell ⟨b, 0, none⟩ x) b x := by
  unfold One; rw [heap_setCell_same w b 0 _ _ x h]; simp
theorem One.new (w : World) (v : Value) (t : TypeId) : One t (w.alloc (.cells #[v] t)) w.heap.size v := heap_alloc_new w _
theorem One.alloc {t : TypeId} {w : World} {b : Nat} {v : Value} (h : One t w b v) (o : Obj) : One t (w.alloc o) b v := h.on ((Below.refl _ _).alloc (Nat.le_refl _) _)

/-- Three boxes. -/
theorem boxes3 (w : World) (x y z : Value) (t : TypeId) : ∃ w0, ((w.alloc (.cells #[x] t)).alloc (.cells #[y] t)).alloc (.cells #[z] t) = w0 ∧
    Below w.heap.size w w0 ∧ w0.heap.size = w.heap.size + 3 ∧ One t w0 w.heap.size x ∧ One t w0 (w.heap.size + 1) y ∧ One t w0 (w.heap.size + 1 + 1) z := by
  refine ⟨_, rfl, (((Below.refl _ w).alloc (Nat.le_refl _) _).alloc (by simp) _).alloc (by simp <;> omega) _, by simp, ((One.new w x t).alloc _).alloc _, ?_, ?_⟩
  · have h := One.new (w.alloc (.cells #[x] t)) y t
    rw [World.size_alloc] at h
    exact h.alloc _
  · have h := One.new ((w.alloc (.cells #[x] t)).alloc (.cells #[y] t)) z t
    simp only [World.size_alloc] at h
    exact h

/-- A channel of a colour that is no variable. -/
theorem index_col (c : Nat → Int) (k : Nat) (hk : k < 3) (w : World) : (Instr.index 28 (.agg #[.int .i64 (c 0), .int .i64 (c 1), .int .i64 (c 2)]) (.int .i64 k)).run Try.prog w = .ok (.int .i64 (c k)) w := by
  obtain rfl | rfl | rfl : k = 0 ∨ k = 1 ∨ k = 2 := by omega
  · exact index_0 _ _ _ w
  · exact index_1 _ _ _ w
  · exact index_2 _ _ _ w

theorem part_int {e : TypeId} {cs : Array Value} {i : Nat} {x : Int} (w : World) (he : Try.prog.underlying e = some (.int .i64)) (h : cs[i]? = some (.int .i64 x)) : (part e cs i).run Try.prog w = .ok (.int .i64 x) w := by
  simp [part, isAgg, run_underlying he, h]

theorem equalIn_col (a0 a1 a2 b0 b1 b2 : Int) (w : World) :
    (Op.equalIn 10000 28 (.agg #[.int .i64 a0, .int .i64 a1, .int .i64 a2]) (.agg #[.int .i64 b0, .int .i64 b1, .int .i64 b2])).run Try.prog w = .ok (a0 == b0 && (a1 == b1 && a2 == b2)) w := by
  have hsz : ∀ w, (sizeOf 3).run Try.prog w = .ok 1 w := fun w => by kernel_rfl
  have ht : Try.prog.underlying 28 = some (.array 3 3) := Try.underlying28
  have he : Try.prog.underlying 3 = some (.int .i64) := Try.underlying3
  have p0 : ∀ x0 x1 x2 : Int, (part 3 #[.int .i64 x0, .int .i64 x1, .int .i64 x2] 0).run Try.prog w = .ok (.int .i64 x0) w := fun _ _ _ => part_int w he rfl
  have p1 : ∀ x0 x1 x2 : Int, (part 3 #[.int .i64 x0, .int .i64 x1, .int .i64 x2] 1).run Try.prog w = .ok (.int .i64 x1) w := fun _ _ _ => part_int w he rfl
  have p2 : ∀ x0 x1 x2 : Int, (part 3 #[.int .i64 x0, .int .i64 x1, .int .i64 x2] 2).run Try.prog w = .ok (.int .i64 x2) w := fun _ _ _ => part_int w he rfl
  have hq : ∀ a b : Int, (Op.equalIn 9999 3 (.int .i64 a) (.int .i64 b)).run Try.prog w = .ok (a == b) w := fun a b => run_equalIn_int w 9998 _ .i64 .i64 a b he
  rw [Op.equalIn]
  simp only [Sem.run_bind, run_underlying ht, Result.andThen_ok, hsz, Std.Legacy.Range.forIn_eq_forIn_range', Std.Legacy.Range.size, Nat.sub_zero, Nat.add_sub_cancel, Nat.div_one]
  simp only [List.range', List.forIn_cons, List.forIn_nil, Sem.run_bind, Nat.reduceAdd, Nat.reduceMul, Nat.zero_mul, Nat.zero_add, p0, hq, Result.andThen_ok]
  cases a0 == b0
  · simp
  · cases h1 : a1 == b1
    · simp [p1, hq, Sem.run_bind, h1]
    · cases h2 : a2 == b2
      · simp [p1, p2, hq, Sem.run_bind, h1, h2]
      · simp [p1, p2, hq, Sem.run_bind, h1, h2]

open Classical in
/-- Whether two colours are equal. -/
noncomputable def eqB (c d : Nat → Int) : Bool := decide (∀ i, i < 3 → c i = d i)
theorem eqB_t {c d : Nat → Int} (h : ∀ i, i < 3 → c i = d i) : eqB c d = true := by simp only [eqB, decide_eq_true_eq]; exact h
theorem eqB_f {c d : Nat → Int} {i : Nat} (hi : i < 3) (h : c i ≠ d i) : eqB c d = false := by
  simp only [eqB, decide_eq_false_iff_not]; exact fun hh => h (hh i hi)
theorem of_eqB {c d : Nat → Int} (h : eqB c d = true) : ∀ i, i < 3 → c i = d i := by simpa only [eqB, decide_eq_true_eq] using h
theorem eqB_is (c d : Nat → Int) : (c 0 == d 0 && (c 1 == d 1 && c 2 == d 2)) = eqB c d := by
  by_cases h0 : c 0 = d 0
  · by_cases h1 : c 1 = d 1
    · by_cases h2 : c 2 = d 2
      · rw [eqB_t (fun i hi => by rcases (show i = 0 ∨ i = 1 ∨ i = 2 by omega) with rfl | rfl | rfl <;> assumption)]
        simp [h0, h1, h2]
      · rw [eqB_f (by omega) h2]; simp [h2]
    · rw [eqB_f (by omega) h1]; simp [h1]
  · rw [eqB_f (by omega) h0]; simp [h0]

theorem eql_col (c d : Nat → Int) (w : World) : (binOp .eql 28 (col c) (col d)).run Try.prog w = .ok (.bool (eqB c d)) w := by
  unfold col
  rw [run_eql_struct, equalIn_col, eqB_is]
  rfl
theorem neq_col (c d : Nat → Int) (w : World) : (binOp .neq 28 (col c) (col d)).run Try.prog w = .ok (.bool (!eqB c d)) w := by
  unfold col
  rw [run_neq_struct, equalIn_col, eqB_is]
  rfl

end Go.Proofs.Ytmilljlkcbljpaa

/- Clip. -/
namespace Go.Proofs.Ytmilljlkcbljpaa
open Go.RowKit Go.Sort

theorem col_congr {c d : Nat → Int} (h : ∀ i, i < 3 → c i = d i) : col c = col d := by unfold col; rw [h 0 (by omega), h 1 (by omega), h 2 (by omega)]

/-- Three stores. -/
theorem Tri.set3 {t : TypeId} {w : World} {b : Nat} {c : Nat → Int} (h : Tri t w b c) (d : Nat → Int) :
    Tri t (((w.setCell ⟨b, 0, none⟩ (.int .i64 (d 0))).setCell ⟨b, 1, none⟩ (.int .i64 (d 1))).setCell ⟨b, 2, none⟩ (.int .i64 (d 2))) b d := by
  have h1 := heap_setCell_same w b 0 _ _ (.int .i64 (d 0)) h
  have h2 := heap_setCell_same _ b 1 _ _ (.int .i64 (d 1)) h1
  have h3 := heap_setCell_same _ b 2 _ _ (.int .i64 (d 2)) h2
  unfold Tri
  rw [h3]
  simp

theorem clamped_bnd {c : Nat → Int} {w : World} :
    Calls Try.prog 55 #[col c, .int .i64 (-16777216), .int .i64 16777216] w fun e w' => e = .returned (col (bnd c)) ∧ Below w.heap.size w w' := clamped_any (by omega)

/-- The lesser of s and 65535. -/
def mnV (s : Int) : Int := if 65535 < s then 65535 else s
theorem clamp_mn (s : Int) (ts : Array TypeId) (t : TypeId) (w : World) : (Builtin.min_ ts t #[.int .i64 s, .int .i64 65535]).run Try.prog w = .ok (.int .i64 (mnV s)) w := run_min_int2 w ts t .i64 .i64 s 65535
theorem clamp_mx (s : Int) (ts : Array TypeId) (t : TypeId) (w : World) : (Builtin.max_ ts t #[.int .i64 0, .int .i64 (mnV s)]).run Try.prog w = .ok (.int .i64 (clm 0 65535 s)) w := by
  rw [run_max_int2]
  congr 2
  unfold mnV clm
  split <;> split <;> (try split) <;> omega

theorem below_two {B b b' : Nat} {w w0 : World} (h : Below B w w0) (hb : B ≤ b) (hb' : B ≤ b') (x y : Value) (n : Nat) : Below B w (((w0.setCell ⟨b, 0, none⟩ x).setCell ⟨b', 0, none⟩ y).drewN n) :=
  below_drewN ((h.setCell (p := ⟨b, 0, none⟩) hb _).setCell (p := ⟨b', 0, none⟩) hb' _) n

theorem eq_gam_t {c : Nat → Int} (h : InG c) : eqB c (gam c) = true := eqB_t fun i hi => (h.gam i hi).symm
theorem eq_gam_f {c : Nat → Int} (h : ¬ InG c) : eqB c (gam c) = false := by
  cases e : eqB c (gam c) with
  | false => rfl
  | true => exact absurd (fun i hi => by rw [of_eqB e i hi]; exact InG.of c i hi) h

set_option maxRecDepth 100000 in
set_option maxHeartbeats 4000000 in
theorem clip_any {c : Nat → Int} {w : World} :
    Calls Try.prog 25 #[col c] w fun e w' => e = .returned (col (clpV c)) ∧ Below w.heap.size w w' := by
  obtain ⟨w0, h0, hb, hz, t1, t2⟩ := gamut_new w c 28
  have d0 := t1.c0
  have d1 := t1.c1
  have d2 := t1.c2
  have T1 := Lib.hid t1
  have T2 := Lib.hid t2
  have Z := Lib.hid hz
  clear t1 t2 hz
  have hcl := Lib.hid (fun W => clamped_bnd (c := c) (w := W))
  have hgm := Lib.hid (fun W => gamut_any (c := bnd c) (w := W))
  have hw2 := Lib.hid (fun W (h : Tri 28 W w.heap.size c) => h.set3 (bnd c))
  have heq := eql_col (bnd c) (gam (bnd c))
  have HQ := Lib.hid (col_congr (c := clpV c) (d := bnd c))
  have HB := Lib.hid (InB.of c)
  unfold col at *
  go_enter Try.func25, Try.ntmps25
  go_wp2_with fail
  refine (hcl.out _).mono ?_
  rintro e w1 ⟨rfl, hb1⟩
  have t1 := T1.out.on hb1
  have c0 := t1.c0
  have c1 := t1.c1
  have c2 := t1.c2
  have f0 := t1.free 0
  have f1 := t1.free 1
  have f2 := t1.free 2
  have T2' := Lib.hid (T2.out.on hb1)
  have T3 := Lib.hid (hw2.out w1 t1)
  have B1 := hb.trans (hb1.mono (by have := Z.out; omega))
  clear t1
  obtain ⟨w2, h2⟩ : ∃ w2, ((w1.setCell ⟨w.heap.size, 0, none⟩ (.int .i64 (bnd c 0))).setCell ⟨w.heap.size, 1, none⟩ (.int .i64 (bnd c 1))).setCell ⟨w.heap.size, 2, none⟩ (.int .i64 (bnd c 2)) = w2 := ⟨_, rfl⟩
  go_wp2
  rw [h2] at T3
  have B2 := set3_below B1 (Nat.le_refl w.heap.size) (.int .i64 (bnd c 0)) (.int .i64 (bnd c 1)) (.int .i64 (bnd c 2))
  have T4 := Lib.hid (((T2'.out.keep (b' := w.heap.size) (j := 0) (v := .int .i64 (bnd c 0)) (by omega)).keep (b' := w.heap.size) (j := 1) (v := .int .i64 (bnd c 1)) (by omega)).keep (b' := w.heap.size) (j := 2) (v := .int .i64 (bnd c 2)) (by omega))
  rw [h2] at B2 T4
  have a0 := cell_regrown T3.out.c0
  have a1 := cell_regrown T3.out.c1
  have a2 := cell_regrown T3.out.c2
  have kg := Calls.grown_of (w := w2) (fun W _ => hgm.out W)
  clear h2 c0 c1 c2 f0 f1 f2 B1 hb1 hb h0 T1 T2 T2' hw2 Z d0 d1 d2
  by_cases hin : InG (bnd c)
  · rw [eq_gam_t hin] at heq
    refine wp_region_quiet_below (by kernel_rfl) (by kernel_rfl) ?_
    repeat (go_big_quiet_step (exact kg _ _))
    refine wpQuiet_nil ?_
    intro w3 hw3
    replace hw3 := below_of_regrown hw3
    have t3 := T3.out.on hw3
    have t4 := T4.out.on hw3
    have c0 := t3.c0
    have c1 := t3.c1
    have c2 := t3.c2
    have x0 := t4.c0
    have x1 := t4.c1
    have x2 := t4.c2
    have y0 := t4.free 0
    have y1 := t4.free 1
    have y2 := t4.free 2
    have B3 := B2.trans (hw3.mono B2.size)
    have E := Lib.hid (HQ.out (fun i _ => clpV_in hin i))
    clear t3 t4 a0 a1 a2 kg
    go_wp2
    refine bodyPost_ret (v := .agg #[.int .i64 (bnd c 0), .int .i64 (bnd c 1), .int .i64 (bnd c 2)]) (by simp [results, Try.results25, go_sem, *]) rfl ?_
    exact ⟨congrArg Ending.returned E.out.symm, set3_below B3 (by simp) _ _ _⟩
  · rw [eq_gam_f hin] at heq
    refine wp_region_quiet_below (by kernel_rfl) (by kernel_rfl) ?_
    repeat (go_big_quiet_step (exact kg _ _))
    refine wpQuiet_nil ?_
    intro w3 hw3
    replace hw3 := below_of_regrown hw3
    have t3 := T3.out.on hw3
    have c0 := t3.c0
    have c1 := t3.c1
    have c2 := t3.c2
    have B3 := B2.trans (hw3.mono B2.size)
    clear a0 a1 a2 kg
    have b0 := HB.out 0 (by omega)
    have b1 := HB.out 1 (by omega)
    have b2 := HB.out 2 (by omega)
    obtain ⟨G, hG⟩ : ∃ G, gry (bnd c) = G := ⟨_, rfl⟩
    have HG := Lib.hid hG
    have hmx := clamp_mx ((bnd c 0 + bnd c 1 + bnd c 2 + 1) / 3)
    have hmn := clamp_mn ((bnd c 0 + bnd c 1 + bnd c 2 + 1) / 3)
    rw [show clm 0 65535 ((bnd c 0 + bnd c 1 + bnd c 2 + 1) / 3) = G from hG] at hmx
    obtain ⟨g0, g1⟩ := gry_bd (bnd c)
    rw [hG] at g0 g1
    clear hG
    go_wp2_with fail
    refine (floor_any (by omega) (by omega) (by omega) (by omega)).mono ?_
    rintro e w4 ⟨rfl, rfl⟩
    obtain ⟨w5, h5, b5, z5, o1, o2, o3⟩ := boxes3 w4 (.int .i64 G) (.int .i64 1) (.int .i64 1) 3
    have t5 := t3.on b5
    have T5 := Lib.hid t5
    have T6 := Lib.hid ((T4.out.on hw3).on b5)
    have O1 := Lib.hid o1
    have O2 := Lib.hid o2
    have O3 := Lib.hid o3
    have z4 := B3.size
    have Z5 := Lib.hid z5
    have Z2 := Lib.hid ((T4.out.on hw3).lt)
    have B5 := B3.trans (b5.mono z4)
    have q0 := t5.c0
    have q1 := t5.c1
    have q2 := t5.c2
    clear c0 c1 c2 t3 t5 o1 o2 o3 z5 hw3 b5 heq b0 b1 b2
    go_wp2
    clear hmx hmn
    go_loopw [30] (fun i wr => ∃ k : Nat, k ≤ 3 ∧ i = .int .i64 k ∧ One 3 wr w4.heap.size (.int .i64 G) ∧ One 3 wr (w4.heap.size + 1) (.int .i64 (minS G (bnd c) k).1) ∧ One 3 wr (w4.heap.size + 1 + 1) (.int .i64 (minS G (bnd c) k).2) ∧ Tri 28 wr w.heap.size (bnd c) ∧ Tri 28 wr (w.heap.size + 1) (fun _ => 0) ∧ Below w.heap.size w wr) (fun i _ => 3 - (intOf i).toNat)
    case atStart => exact ⟨0, by omega, rfl, O1.out, O2.out, O3.out, T5.out, T6.out, B5⟩
    case round =>
      obtain ⟨k, hk, rfl, o1, o2, o3, t5, t6, hb⟩ := hrel
      have hc3 := HB.out
      have hm := minS_bd (g := G) (c := bnd c) g0 g1 hc3 k hk
      by_cases hlt : k < 3
      · have hcl := hc3 k hlt
        have hix := index_col (bnd c) k hlt
        obtain ⟨V, hV⟩ : ∃ V, bnd c k = V := ⟨_, rfl⟩
        obtain ⟨N, hN⟩ : ∃ N, (minS G (bnd c) k).1 = N := ⟨_, rfl⟩
        obtain ⟨D, hD⟩ : ∃ D, (minS G (bnd c) k).2 = D := ⟨_, rfl⟩
        have hlt' : shN G V * D < N * shD G V → minS G (bnd c) (k + 1) = (shN G V, shD G V) := fun h => by rw [minS_lt (by rw [hV, hN, hD]; exact h), hV]
        have hge' : ¬ shN G V * D < N * shD G V → minS G (bnd c) (k + 1) = minS G (bnd c) k := fun h => minS_ge (by rw [hV, hN, hD]; exact h)
        rw [hV] at hcl hix
        rw [hN, hD] at hm
        rw [hN] at o2
        rw [hD] at o3
        obtain ⟨m1, m2, m3, m4, m5⟩ := hm
        have HV := Lib.hid hV
        have HN := Lib.hid hN
        have HD := Lib.hid hD
        have q1 := o1.cell
        have q2 := o2.cell
        have q3 := o3.cell
        have f2 := o2.free 0
        have f3 := o3.free 0
        have P1 := Lib.hid o1
        have P2 := Lib.hid o2
        have P3 := Lib.hid o3
        have P5 := Lib.hid t5
        have P6 := Lib.hid t6
        have wl : w.heap.size + 1 < w4.heap.size := by have := Z2.out; omega
        clear hV hN hD o1 o2 o3 t5 t6
        by_cases v1 : V < 0
        · have s1 : shN G V = G := if_pos v1
          have s2 : shD G V = G - V := if_pos v1
          rw [s1, s2] at hlt' hge'
          clear s1 s2
          have d1 : decide (V < 0) = true := decide_eq_true v1
          have x1 := mul_bd g0 g1 (show 0 ≤ D by omega) m5
          have x2 := mul_bd m1 m2 (b := G - V) (B := 16842751) (by omega) (by omega)
          by_cases hc : G * D < N * (G - V)
          · have HM := Lib.hid (hlt' hc)
            have d2 : decide (G * D < N * (G - V)) = true := decide_eq_true hc
            clear hlt' hge'
            go_wp2
            go_quiet (fail)
            go_wp2
            go_roundw
            case rel => exact ⟨k + 1, by omega, by go_num, (P1.out.keep (by omega)).keep (by omega), by rw [HM.out]; exact (P2.out.set _).keep (by omega), by rw [HM.out]; exact (P3.out.keep (by omega)).set _, (P5.out.keep (by omega)).keep (by omega), (P6.out.keep (by omega)).keep (by omega), below_two hb (by omega) (by omega) _ _ _⟩
            case measure => simp [intOf]; omega
          · have HM := Lib.hid (hge' hc)
            have d2 : decide (G * D < N * (G - V)) = false := decide_eq_false hc
            clear hlt' hge'
            go_wp2
            go_quiet (fail)
            go_wp2
            go_roundw
            case rel => exact ⟨k + 1, by omega, by go_num, P1.out, by rw [HM.out, HN.out]; exact P2.out, by rw [HM.out, HD.out]; exact P3.out, P5.out, P6.out, below_drewN hb _⟩
            case measure => simp [intOf]; omega
        · by_cases v2 : 65535 < V
          · have s1 : shN G V = 65535 - G := by unfold shN; rw [if_neg v1, if_pos v2]
            have s2 : shD G V = V - G := by unfold shD; rw [if_neg v1, if_pos v2]
            rw [s1, s2] at hlt' hge'
            clear s1 s2
            have d1 : decide (V < 0) = false := decide_eq_false v1
            have d1' : decide (65535 < V) = true := decide_eq_true v2
            have x1 := mul_bd (a := 65535 - G) (A := 65535) (by omega) (by omega) (show 0 ≤ D by omega) m5
            have x2 := mul_bd m1 m2 (b := V - G) (B := 16842751) (by omega) (by omega)
            by_cases hc : (65535 - G) * D < N * (V - G)
            · have HM := Lib.hid (hlt' hc)
              have d2 : decide ((65535 - G) * D < N * (V - G)) = true := decide_eq_true hc
              clear hlt' hge'
              go_wp2
              go_quiet (fail)
              go_wp2
              go_roundw
              case rel => exact ⟨k + 1, by omega, by go_num, (P1.out.keep (by omega)).keep (by omega), by rw [HM.out]; exact (P2.out.set _).keep (by omega), by rw [HM.out]; exact (P3.out.keep (by omega)).set _, (P5.out.keep (by omega)).keep (by omega), (P6.out.keep (by omega)).keep (by omega), below_two hb (by omega) (by omega) _ _ _⟩
              case measure => simp [intOf]; omega
            · have HM := Lib.hid (hge' hc)
              have d2 : decide ((65535 - G) * D < N * (V - G)) = false := decide_eq_false hc
              clear hlt' hge'
              go_wp2
              go_quiet (fail)
              go_wp2
              go_roundw
              case rel => exact ⟨k + 1, by omega, by go_num, P1.out, by rw [HM.out, HN.out]; exact P2.out, by rw [HM.out, HD.out]; exact P3.out, P5.out, P6.out, below_drewN hb _⟩
              case measure => simp [intOf]; omega
          · have s1 : shN G V = 1 := by unfold shN; rw [if_neg v1, if_neg v2]
            have s2 : shD G V = 1 := by unfold shD; rw [if_neg v1, if_neg v2]
            rw [s1, s2, Int.one_mul, Int.mul_one] at hlt' hge'
            clear s1 s2
            have d1 : decide (V < 0) = false := decide_eq_false v1
            have d1' : decide (65535 < V) = false := decide_eq_false v2
            have HM := Lib.hid (hge' (by omega))
            have d2 : decide (D < N) = false := decide_eq_false (by omega)
            clear hlt' hge'
            go_wp2
            go_roundw
            case rel => exact ⟨k + 1, by omega, by go_num, P1.out, by rw [HM.out, HN.out]; exact P2.out, by rw [HM.out, HD.out]; exact P3.out, P5.out, P6.out, hb⟩
            case measure => simp [intOf]; omega
      · obtain rfl : k = 3 := by omega
        have q0 := t5.c0
        have q1 := t5.c1
        have q2 := t5.c2
        have r0 := o1.cell
        have r1 := o2.cell
        have r2 := o3.cell
        have l1 := o3.lt
        have P5 := Lib.hid t5
        have P6 := Lib.hid t6
        have HR := Lib.hid (fun i => (clpV_out hin i).trans (by unfold clpO; rw [HG.out] : clpO (bnd c) i = G + ((bnd c i - G) * (minS G (bnd c) 3).1).tdiv (minS G (bnd c) 3).2))
        go_wp2_with fail
        refine (each_clip (c := bnd c) (r := clpV c) fun i hi W hbW => ?_).mono ?_
        · rw [HR.out i]
          refine (clip1_any (g := G) (n := (minS G (bnd c) 3).1) (m := (minS G (bnd c) 3).2) g0 g1 (hc3 i hi).1 (hc3 i hi).2 hm.1 hm.2.1 hm.2.2.1 hm.2.2.2.1 hm.2.2.2.2 ?_ ?_ ?_).mono ?_
          · exact (o1.on hbW).cell
          · exact (o2.on hbW).cell
          · exact (o3.on hbW).cell
          · rintro e w' ⟨he, hd⟩
            exact ⟨he, hd.below _⟩
        · unfold col
          rintro e w6 ⟨rfl, hb6⟩
          have t7 := P6.out.on hb6
          have y0 := t7.c0
          have y1 := t7.c1
          have y2 := t7.c2
          have z0 := t7.free 0
          have z1 := t7.free 1
          have z2 := t7.free 2
          have b7 := hb.trans (hb6.mono hb.size)
          clear t7 q0 q1 q2 r0 r1 r2 o1 o2 o3 t5 t6 hm
          go_wp2
          refine bodyPost_ret (v := .agg #[.int .i64 (clpV c 0), .int .i64 (clpV c 1), .int .i64 (clpV c 2)]) (by simp [results, Try.results25, go_sem, *]) rfl ?_
          exact ⟨rfl, set3_below b7 (by simp) _ _ _⟩

end Go.Proofs.Ytmilljlkcbljpaa
