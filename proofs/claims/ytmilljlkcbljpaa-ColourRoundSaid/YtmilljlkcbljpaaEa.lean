/- each, at its closures. -/
import Derived.Test.YtmilljlkcbljpaaCe
namespace Go.Proofs.Ytmilljlkcbljpaa
open Go.RowKit

set_option maxHeartbeats 1000000 in
theorem each_clip {b1 b2 b3 : Value} {c r : Nat → Int} {w : World}
    (hf : ∀ i : Nat, i < 3 → ∀ W, Below w.heap.size w W → Calls Try.prog 59 #[.int .i64 i, .int .i64 (c i), b1, b2, b3] W fun e W' => e = .returned (.int .i64 (r i)) ∧ Below W.heap.size W W') :
    Calls Try.prog 58 #[col c, .func (.func 59) #[] #[b1, b2, b3]] w fun e w' => e = .returned (col r) ∧ Below w.heap.size w w' := by
  have HF := Lib.hid hf
  clear hf
  unfold col
  have i0 := index_0
  have i1 := index_1
  have i2 := index_2
  go_enter Try.func58, Try.ntmps58
  go_wp2
  have T1 := (Tri.new w c 28).below (((Below.refl _ _).alloc (Nat.le_refl _) (.cells #[.int .i64 0, .int .i64 0, .int .i64 0] 28))) (by simp)
  have T2 := Tri.new (w.alloc (.cells #[.int .i64 (c 0), .int .i64 (c 1), .int .i64 (c 2)] 28)) (fun _ => 0) 28
  rw [World.size_alloc] at T2
  have B1 : Below w.heap.size w ((w.alloc (.cells #[.int .i64 (c 0), .int .i64 (c 1), .int .i64 (c 2)] 28)).alloc (.cells #[.int .i64 0, .int .i64 0, .int .i64 0] 28)) := ((Below.refl _ w).alloc (Nat.le_refl _) _).alloc (by simp) _
  go_loopw [8] (fun i wr => ∃ k : Nat, k ≤ 3 ∧ i = .int .i64 k ∧ Tri 28 wr w.heap.size (eachV c r k) ∧ Tri 28 wr (w.heap.size + 1) (fun _ => 0) ∧ Below w.heap.size w wr) (fun i _ => 3 - (intOf i).toNat)
  case atStart => exact ⟨0, by omega, rfl, T1, T2, B1⟩
  case round =>
    obtain ⟨k, hk, rfl, t1, t2, hb⟩ := hrel
    obtain rfl | rfl | rfl | rfl : k = 0 ∨ k = 1 ∨ k = 2 ∨ k = 3 := by omega
    · have hF := HF.out 0 (by omega)
      have hT := Lib.hid t1
      have hT2 := Lib.hid t2
      have hc : wr.cell? ⟨w.heap.size, 0, none⟩ = some (.int .i64 (c 0)) := t1.c0
      have HF' := Lib.hid hF
      clear hF t1 t2
      have hsz := hb.size
      go_wp2_with fail
      refine (HF'.out wr hb).mono ?_
      rintro e w1 ⟨rfl, hb1⟩
      have t1 := hT.out.on hb1
      have t2 := hT2.out.on hb1
      have hc' := t1.c0
      have hfr := t1.free 0
      have HS := Lib.hid (t1.set (j := 0) (d := eachV c r 1) (v := r 0) (by omega) (by simp [eachV]) (fun i hi => by unfold eachV; by_cases h : i < 0 <;> simp [h] <;> omega))
      have HK := Lib.hid (t2.keep (b' := w.heap.size) (j := 0) (v := .int .i64 (r 0)) (by omega))
      have hb2 := hb.trans (hb1.mono hsz)
      clear t1 t2
      go_wp2
      go_roundw
      case rel => exact ⟨1, by omega, rfl, HS.out, HK.out, hb2.setCell (by simp) _⟩
      case measure => simp [intOf]
    · have hF := HF.out 1 (by omega)
      have hT := Lib.hid t1
      have hT2 := Lib.hid t2
      have hc : wr.cell? ⟨w.heap.size, 1, none⟩ = some (.int .i64 (c 1)) := t1.c1
      have HF' := Lib.hid hF
      clear hF t1 t2
      have hsz := hb.size
      go_wp2_with fail
      refine (HF'.out wr hb).mono ?_
      rintro e w1 ⟨rfl, hb1⟩
      have t1 := hT.out.on hb1
      have t2 := hT2.out.on hb1
      have hc' := t1.c1
      have hfr := t1.free 1
      have HS := Lib.hid (t1.set (j := 1) (d := eachV c r 2) (v := r 1) (by omega) (by simp [eachV]) (fun i hi => by unfold eachV; by_cases h : i < 1 <;> simp [h] <;> omega))
      have HK := Lib.hid (t2.keep (b' := w.heap.size) (j := 1) (v := .int .i64 (r 1)) (by omega))
      have hb2 := hb.trans (hb1.mono hsz)
      clear t1 t2
      go_wp2
      go_roundw
      case rel => exact ⟨2, by omega, rfl, HS.out, HK.out, hb2.setCell (by simp) _⟩
      case measure => simp [intOf]
    · have hF := HF.out 2 (by omega)
      have hT := Lib.hid t1
      have hT2 := Lib.hid t2
      have hc : wr.cell? ⟨w.heap.size, 2, none⟩ = some (.int .i64 (c 2)) := t1.c2
      have HF' := Lib.hid hF
      clear hF t1 t2
      have hsz := hb.size
      go_wp2_with fail
      refine (HF'.out wr hb).mono ?_
      rintro e w1 ⟨rfl, hb1⟩
      have t1 := hT.out.on hb1
      have t2 := hT2.out.on hb1
      have hc' := t1.c2
      have hfr := t1.free 2
      have HS := Lib.hid (t1.set (j := 2) (d := eachV c r 3) (v := r 2) (by omega) (by simp [eachV]) (fun i hi => by unfold eachV; by_cases h : i < 2 <;> simp [h] <;> omega))
      have HK := Lib.hid (t2.keep (b' := w.heap.size) (j := 2) (v := .int .i64 (r 2)) (by omega))
      have hb2 := hb.trans (hb1.mono hsz)
      clear t1 t2
      go_wp2
      go_roundw
      case rel => exact ⟨3, by omega, rfl, HS.out, HK.out, hb2.setCell (by simp) _⟩
      case measure => simp [intOf]
    · have d0 := t1.c0
      have d1 : wr.cell? ⟨w.heap.size, 1, none⟩ = some (.int .i64 (r 1)) := t1.c1
      have d2 : wr.cell? ⟨w.heap.size, 2, none⟩ = some (.int .i64 (r 2)) := t1.c2
      have x0 := t2.c0
      have x1 := t2.c1
      have x2 := t2.c2
      have y0 := t2.free 0
      have y1 := t2.free 1
      have y2 := t2.free 2
      clear t1 t2
      go_wp2
      refine bodyPost_ret (v := .agg #[.int .i64 (r 0), .int .i64 (r 1), .int .i64 (r 2)]) (by simp [results, Try.results58, go_sem, eachV, *]) rfl ?_
      refine ⟨rfl, ?_⟩
      first | exact hb | exact ((hb.setCell (p := ⟨w.heap.size + 1, 0, none⟩) (by simp) _).setCell (p := ⟨w.heap.size + 1, 1, none⟩) (by simp) _).setCell (p := ⟨w.heap.size + 1, 2, none⟩) (by simp) _


set_option maxHeartbeats 1000000 in
theorem each_narrow {c r : Nat → Int} {w : World}
    (hf : ∀ i : Nat, i < 3 → ∀ W, Below w.heap.size w W → Calls Try.prog 76 #[.int .i64 i, .int .i64 (c i)] W fun e W' => e = .returned (.int .i64 (r i)) ∧ Below W.heap.size W W') :
    Calls Try.prog 58 #[col c, .func (.func 76) #[] #[]] w fun e w' => e = .returned (col r) ∧ Below w.heap.size w w' := by
  have HF := Lib.hid hf
  clear hf
  unfold col
  have i0 := index_0
  have i1 := index_1
  have i2 := index_2
  go_enter Try.func58, Try.ntmps58
  go_wp2
  have T1 := (Tri.new w c 28).below (((Below.refl _ _).alloc (Nat.le_refl _) (.cells #[.int .i64 0, .int .i64 0, .int .i64 0] 28))) (by simp)
  have T2 := Tri.new (w.alloc (.cells #[.int .i64 (c 0), .int .i64 (c 1), .int .i64 (c 2)] 28)) (fun _ => 0) 28
  rw [World.size_alloc] at T2
  have B1 : Below w.heap.size w ((w.alloc (.cells #[.int .i64 (c 0), .int .i64 (c 1), .int .i64 (c 2)] 28)).alloc (.cells #[.int .i64 0, .int .i64 0, .int .i64 0] 28)) := ((Below.refl _ w).alloc (Nat.le_refl _) _).alloc (by simp) _
  go_loopw [8] (fun i wr => ∃ k : Nat, k ≤ 3 ∧ i = .int .i64 k ∧ Tri 28 wr w.heap.size (eachV c r k) ∧ Tri 28 wr (w.heap.size + 1) (fun _ => 0) ∧ Below w.heap.size w wr) (fun i _ => 3 - (intOf i).toNat)
  case atStart => exact ⟨0, by omega, rfl, T1, T2, B1⟩
  case round =>
    obtain ⟨k, hk, rfl, t1, t2, hb⟩ := hrel
    obtain rfl | rfl | rfl | rfl : k = 0 ∨ k = 1 ∨ k = 2 ∨ k = 3 := by omega
    · have hF := HF.out 0 (by omega)
      have hT := Lib.hid t1
      have hT2 := Lib.hid t2
      have hc : wr.cell? ⟨w.heap.size, 0, none⟩ = some (.int .i64 (c 0)) := t1.c0
      have HF' := Lib.hid hF
      clear hF t1 t2
      have hsz := hb.size
      go_wp2_with fail
      refine (HF'.out wr hb).mono ?_
      rintro e w1 ⟨rfl, hb1⟩
      have t1 := hT.out.on hb1
      have t2 := hT2.out.on hb1
      have hc' := t1.c0
      have hfr := t1.free 0
      have HS := Lib.hid (t1.set (j := 0) (d := eachV c r 1) (v := r 0) (by omega) (by simp [eachV]) (fun i hi => by unfold eachV; by_cases h : i < 0 <;> simp [h] <;> omega))
      have HK := Lib.hid (t2.keep (b' := w.heap.size) (j := 0) (v := .int .i64 (r 0)) (by omega))
      have hb2 := hb.trans (hb1.mono hsz)
      clear t1 t2
      go_wp2
      go_roundw
      case rel => exact ⟨1, by omega, rfl, HS.out, HK.out, hb2.setCell (by simp) _⟩
      case measure => simp [intOf]
    · have hF := HF.out 1 (by omega)
      have hT := Lib.hid t1
      have hT2 := Lib.hid t2
      have hc : wr.cell? ⟨w.heap.size, 1, none⟩ = some (.int .i64 (c 1)) := t1.c1
      have HF' := Lib.hid hF
      clear hF t1 t2
      have hsz := hb.size
      go_wp2_with fail
      refine (HF'.out wr hb).mono ?_
      rintro e w1 ⟨rfl, hb1⟩
      have t1 := hT.out.on hb1
      have t2 := hT2.out.on hb1
      have hc' := t1.c1
      have hfr := t1.free 1
      have HS := Lib.hid (t1.set (j := 1) (d := eachV c r 2) (v := r 1) (by omega) (by simp [eachV]) (fun i hi => by unfold eachV; by_cases h : i < 1 <;> simp [h] <;> omega))
      have HK := Lib.hid (t2.keep (b' := w.heap.size) (j := 1) (v := .int .i64 (r 1)) (by omega))
      have hb2 := hb.trans (hb1.mono hsz)
      clear t1 t2
      go_wp2
      go_roundw
      case rel => exact ⟨2, by omega, rfl, HS.out, HK.out, hb2.setCell (by simp) _⟩
      case measure => simp [intOf]
    · have hF := HF.out 2 (by omega)
      have hT := Lib.hid t1
      have hT2 := Lib.hid t2
      have hc : wr.cell? ⟨w.heap.size, 2, none⟩ = some (.int .i64 (c 2)) := t1.c2
      have HF' := Lib.hid hF
      clear hF t1 t2
      have hsz := hb.size
      go_wp2_with fail
      refine (HF'.out wr hb).mono ?_
      rintro e w1 ⟨rfl, hb1⟩
      have t1 := hT.out.on hb1
      have t2 := hT2.out.on hb1
      have hc' := t1.c2
      have hfr := t1.free 2
      have HS := Lib.hid (t1.set (j := 2) (d := eachV c r 3) (v := r 2) (by omega) (by simp [eachV]) (fun i hi => by unfold eachV; by_cases h : i < 2 <;> simp [h] <;> omega))
      have HK := Lib.hid (t2.keep (b' := w.heap.size) (j := 2) (v := .int .i64 (r 2)) (by omega))
      have hb2 := hb.trans (hb1.mono hsz)
      clear t1 t2
      go_wp2
      go_roundw
      case rel => exact ⟨3, by omega, rfl, HS.out, HK.out, hb2.setCell (by simp) _⟩
      case measure => simp [intOf]
    · have d0 := t1.c0
      have d1 : wr.cell? ⟨w.heap.size, 1, none⟩ = some (.int .i64 (r 1)) := t1.c1
      have d2 : wr.cell? ⟨w.heap.size, 2, none⟩ = some (.int .i64 (r 2)) := t1.c2
      have x0 := t2.c0
      have x1 := t2.c1
      have x2 := t2.c2
      have y0 := t2.free 0
      have y1 := t2.free 1
      have y2 := t2.free 2
      clear t1 t2
      go_wp2
      refine bodyPost_ret (v := .agg #[.int .i64 (r 0), .int .i64 (r 1), .int .i64 (r 2)]) (by simp [results, Try.results58, go_sem, eachV, *]) rfl ?_
      refine ⟨rfl, ?_⟩
      first | exact hb | exact ((hb.setCell (p := ⟨w.heap.size + 1, 0, none⟩) (by simp) _).setCell (p := ⟨w.heap.size + 1, 1, none⟩) (by simp) _).setCell (p := ⟨w.heap.size + 1, 2, none⟩) (by simp) _


set_option maxHeartbeats 1000000 in
theorem each_apply {b1 b2 : Value} {c r : Nat → Int} {w : World}
    (hf : ∀ i : Nat, i < 3 → ∀ W, Below w.heap.size w W → Calls Try.prog 109 #[.int .i64 i, .int .i64 (c i), b1, b2] W fun e W' => e = .returned (.int .i64 (r i)) ∧ Below W.heap.size W W') :
    Calls Try.prog 58 #[col c, .func (.func 109) #[] #[b1, b2]] w fun e w' => e = .returned (col r) ∧ Below w.heap.size w w' := by
  have HF := Lib.hid hf
  clear hf
  unfold col
  have i0 := index_0
  have i1 := index_1
  have i2 := index_2
  go_enter Try.func58, Try.ntmps58
  go_wp2
  have T1 := (Tri.new w c 28).below (((Below.refl _ _).alloc (Nat.le_refl _) (.cells #[.int .i64 0, .int .i64 0, .int .i64 0] 28))) (by simp)
  have T2 := Tri.new (w.alloc (.cells #[.int .i64 (c 0), .int .i64 (c 1), .int .i64 (c 2)] 28)) (fun _ => 0) 28
  rw [World.size_alloc] at T2
  have B1 : Below w.heap.size w ((w.alloc (.cells #[.int .i64 (c 0), .int .i64 (c 1), .int .i64 (c 2)] 28)).alloc (.cells #[.int .i64 0, .int .i64 0, .int .i64 0] 28)) := ((Below.refl _ w).alloc (Nat.le_refl _) _).alloc (by simp) _
  go_loopw [8] (fun i wr => ∃ k : Nat, k ≤ 3 ∧ i = .int .i64 k ∧ Tri 28 wr w.heap.size (eachV c r k) ∧ Tri 28 wr (w.heap.size + 1) (fun _ => 0) ∧ Below w.heap.size w wr) (fun i _ => 3 - (intOf i).toNat)
  case atStart => exact ⟨0, by omega, rfl, T1, T2, B1⟩
  case round =>
    obtain ⟨k, hk, rfl, t1, t2, hb⟩ := hrel
    obtain rfl | rfl | rfl | rfl : k = 0 ∨ k = 1 ∨ k = 2 ∨ k = 3 := by omega
    · have hF := HF.out 0 (by omega)
      have hT := Lib.hid t1
      have hT2 := Lib.hid t2
      have hc : wr.cell? ⟨w.heap.size, 0, none⟩ = some (.int .i64 (c 0)) := t1.c0
      have HF' := Lib.hid hF
      clear hF t1 t2
      have hsz := hb.size
      go_wp2_with fail
      refine (HF'.out wr hb).mono ?_
      rintro e w1 ⟨rfl, hb1⟩
      have t1 := hT.out.on hb1
      have t2 := hT2.out.on hb1
      have hc' := t1.c0
      have hfr := t1.free 0
      have HS := Lib.hid (t1.set (j := 0) (d := eachV c r 1) (v := r 0) (by omega) (by simp [eachV]) (fun i hi => by unfold eachV; by_cases h : i < 0 <;> simp [h] <;> omega))
      have HK := Lib.hid (t2.keep (b' := w.heap.size) (j := 0) (v := .int .i64 (r 0)) (by omega))
      have hb2 := hb.trans (hb1.mono hsz)
      clear t1 t2
      go_wp2
      go_roundw
      case rel => exact ⟨1, by omega, rfl, HS.out, HK.out, hb2.setCell (by simp) _⟩
      case measure => simp [intOf]
    · have hF := HF.out 1 (by omega)
      have hT := Lib.hid t1
      have hT2 := Lib.hid t2
      have hc : wr.cell? ⟨w.heap.size, 1, none⟩ = some (.int .i64 (c 1)) := t1.c1
      have HF' := Lib.hid hF
      clear hF t1 t2
      have hsz := hb.size
      go_wp2_with fail
      refine (HF'.out wr hb).mono ?_
      rintro e w1 ⟨rfl, hb1⟩
      have t1 := hT.out.on hb1
      have t2 := hT2.out.on hb1
      have hc' := t1.c1
      have hfr := t1.free 1
      have HS := Lib.hid (t1.set (j := 1) (d := eachV c r 2) (v := r 1) (by omega) (by simp [eachV]) (fun i hi => by unfold eachV; by_cases h : i < 1 <;> simp [h] <;> omega))
      have HK := Lib.hid (t2.keep (b' := w.heap.size) (j := 1) (v := .int .i64 (r 1)) (by omega))
      have hb2 := hb.trans (hb1.mono hsz)
      clear t1 t2
      go_wp2
      go_roundw
      case rel => exact ⟨2, by omega, rfl, HS.out, HK.out, hb2.setCell (by simp) _⟩
      case measure => simp [intOf]
    · have hF := HF.out 2 (by omega)
      have hT := Lib.hid t1
      have hT2 := Lib.hid t2
      have hc : wr.cell? ⟨w.heap.size, 2, none⟩ = some (.int .i64 (c 2)) := t1.c2
      have HF' := Lib.hid hF
      clear hF t1 t2
      have hsz := hb.size
      go_wp2_with fail
      refine (HF'.out wr hb).mono ?_
      rintro e w1 ⟨rfl, hb1⟩
      have t1 := hT.out.on hb1
      have t2 := hT2.out.on hb1
      have hc' := t1.c2
      have hfr := t1.free 2
      have HS := Lib.hid (t1.set (j := 2) (d := eachV c r 3) (v := r 2) (by omega) (by simp [eachV]) (fun i hi => by unfold eachV; by_cases h : i < 2 <;> simp [h] <;> omega))
      have HK := Lib.hid (t2.keep (b' := w.heap.size) (j := 2) (v := .int .i64 (r 2)) (by omega))
      have hb2 := hb.trans (hb1.mono hsz)
      clear t1 t2
      go_wp2
      go_roundw
      case rel => exact ⟨3, by omega, rfl, HS.out, HK.out, hb2.setCell (by simp) _⟩
      case measure => simp [intOf]
    · have d0 := t1.c0
      have d1 : wr.cell? ⟨w.heap.size, 1, none⟩ = some (.int .i64 (r 1)) := t1.c1
      have d2 : wr.cell? ⟨w.heap.size, 2, none⟩ = some (.int .i64 (r 2)) := t1.c2
      have x0 := t2.c0
      have x1 := t2.c1
      have x2 := t2.c2
      have y0 := t2.free 0
      have y1 := t2.free 1
      have y2 := t2.free 2
      clear t1 t2
      go_wp2
      refine bodyPost_ret (v := .agg #[.int .i64 (r 0), .int .i64 (r 1), .int .i64 (r 2)]) (by simp [results, Try.results58, go_sem, eachV, *]) rfl ?_
      refine ⟨rfl, ?_⟩
      first | exact hb | exact ((hb.setCell (p := ⟨w.heap.size + 1, 0, none⟩) (by simp) _).setCell (p := ⟨w.heap.size + 1, 1, none⟩) (by simp) _).setCell (p := ⟨w.heap.size + 1, 2, none⟩) (by simp) _


end Go.Proofs.Ytmilljlkcbljpaa
