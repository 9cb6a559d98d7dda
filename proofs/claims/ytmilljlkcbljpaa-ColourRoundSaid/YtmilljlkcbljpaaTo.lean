/- To the reference space and back, of a valid space. -/
import Derived.Test.YtmilljlkcbljpaaSp
namespace Go.Proofs.Ytmilljlkcbljpaa
open Go.RowKit Go.Sort

theorem to_new (w : World) (v : Nat → Value) (t m c : Nat → Int) (ty t' : TypeId) : ∃ w0, ((w.alloc (.cells (spA v t m) ty)).alloc (.cells #[.int .i64 (c 0), .int .i64 (c 1), .int .i64 (c 2)] t')).alloc (.cells #[.int .i64 0, .int .i64 0, .int .i64 0] t') = w0 ∧
    Below w.heap.size w w0 ∧ w0.heap.size = w.heap.size + 3 ∧ Spb ty w0 w.heap.size v t m ∧ Tri t' w0 (w.heap.size + 1) c ∧ Tri t' w0 (w.heap.size + 1 + 1) (fun _ => 0) := by
  refine ⟨_, rfl, (((Below.refl _ w).alloc (Nat.le_refl _) _).alloc (by simp) _).alloc (by simp <;> omega) _, by simp, ((Spb.new w v t m ty).alloc _).alloc _, ?_, ?_⟩
  · have h := Tri.new (w.alloc (.cells (spA v t m) ty)) c t'
    rw [World.size_alloc] at h
    exact h.alloc _
  · have h := Tri.new ((w.alloc (.cells (spA v t m) ty)).alloc (.cells #[.int .i64 (c 0), .int .i64 (c 1), .int .i64 (c 2)] t')) (fun _ => 0) t'
    simp only [World.size_alloc] at h
    exact h

theorem AtV_range {n : Nat} {f : Nat → Int} (x : Int) : 0 ≤ AtV n f x ∧ AtV n f x ≤ 65535 := by
  by_cases h : Vld n f
  · rw [AtV_yes h]; exact atV_range h (clp_bd x).1 (clp_bd x).2
  · rw [AtV_no h]; omega

theorem lin_bd (n : Nat → Nat) (f : Nat → Nat → Int) (c : Nat → Int) : InB fun i => AtV (n i) (f i) (c i) := fun i _ => by
  have := AtV_range (n := n i) (f := f i) (c i)
  show -16777216 ≤ AtV (n i) (f i) (c i) ∧ AtV (n i) (f i) (c i) ≤ 16777216
  omega

set_option maxRecDepth 100000 in
set_option maxHeartbeats 2000000 in
theorem to_any {v : Nat → Value} {n : Nat → Nat} {f : Nat → Nat → Int} {t m c : Nat → Int} {w : World} (hc : Crv w w.heap.size v n f) (ht : Ent t) :
    Calls Try.prog 66 #[spc v t m, col c] w fun e w' => e = .returned (col (toV n f t c)) ∧ Below w.heap.size w w' := by
  obtain ⟨w0, h0, hb, hz, t1, t2, t3⟩ := to_new w v t m c 63 28
  have hmf : ∀ (fn : Fn) (first cap : Array Value) (w : World), (Instr.makeFunc fn first cap).run Try.prog w = .ok (.func fn first cap) w := fun _ _ _ _ => rfl
  have k1 := Lib.hid (Calls.grown_of (w := w0) (f := 55) fun W _ => clamped_bnd (c := c) (w := W))
  have k2 := Lib.hid (Calls.grown_of (w := w0) (f := 58) fun W hW => each_to (c := bnd c) (r := fun i => AtV (n i) (f i) (bnd c i)) (w := W) (b1 := .pointer (some ⟨w.heap.size, 0, none⟩)) fun i hi W' hW' =>
    (to1_any (v := v) (t := t) (m := m) hi (hc.below ((hb.trans (hW.mono hb.size)).trans (hW'.mono (Nat.le_trans hb.size hW.size))) (Nat.le_refl _)) ((t1.on hW).on hW')).mono fun e w' ⟨he, hd⟩ => ⟨he, hd.below _⟩)
  have k3 := Lib.hid (Calls.grown_of (w := w0) (f := 95) fun W hW => apply_any (m := t) (c := fun i => AtV (n i) (f i) (bnd c i)) (w := W) ht (lin_bd n f (bnd c)))
  have d0 := cell_regrown t2.c0
  have d1 := cell_regrown t2.c1
  have d2 := cell_regrown t2.c2
  have s0 := cell_regrown (t1.to 0 (by omega))
  have s1 := cell_regrown (t1.to 1 (by omega))
  have s2 := cell_regrown (t1.to 2 (by omega))
  have s3 := cell_regrown (t1.to 3 (by omega))
  have s4 := cell_regrown (t1.to 4 (by omega))
  have s5 := cell_regrown (t1.to 5 (by omega))
  have s6 := cell_regrown (t1.to 6 (by omega))
  have s7 := cell_regrown (t1.to 7 (by omega))
  have s8 := cell_regrown (t1.to 8 (by omega))
  have T1 := Lib.hid t1
  have T2 := Lib.hid t2
  have T3 := Lib.hid t3
  have Z := Lib.hid hz
  have HT := Lib.hid ht
  have HC := Lib.hid hc
  clear t1 t2 t3 hz ht hc
  unfold spA at h0
  unfold col spc spA mat at *
  go_enter Try.func66, Try.ntmps66
  go_wp2
  clear h0
  refine region_below_tail 7 (by kernel_rfl) (by kernel_rfl) ?_
  simp only [List.take_succ_cons, List.take_zero, List.drop_succ_cons, List.drop_zero]
  repeat (go_big_quiet_step ((first | exact k1.out _ _ | exact k2.out _ _ | exact k3.out _ _)))
  refine wpQuiet_nil ?_
  intro w1 hw1
  replace hw1 := below_of_regrown hw1
  have T := T3.out.on hw1
  have x0 := T.c0
  have x1 := T.c1
  have x2 := T.c2
  have y0 := T.free 0
  have y1 := T.free 1
  have y2 := T.free 2
  have hb2 := hb.trans (hw1.mono (by have := Z.out; omega))
  clear T d0 d1 d2 s0 s1 s2 s3 s4 s5 s6 s7 s8
  go_wp2
  refine bodyPost_ret (v := .agg #[.int .i64 (toV n f t c 0), .int .i64 (toV n f t c 1), .int .i64 (toV n f t c 2)]) (by simp [results, Try.results66, go_sem, toV, *]) rfl ?_
  exact ⟨rfl, set3_below hb2 (by omega) _ _ _⟩

/-- The solution, or the end. -/
noncomputable def solV (n : Nat) (f : Nat → Int) (y : Int) : Int := bif slvOk n f y then (slvX n f y : Nat) else 65535
theorem solV_t {n : Nat} {f : Nat → Int} {y : Int} (h : slvOk n f y = true) : solV n f y = (slvX n f y : Nat) := by unfold solV; rw [h]; rfl
theorem solV_f {n : Nat} {f : Nat → Int} {y : Int} (h : slvOk n f y = false) : solV n f y = 65535 := by unfold solV; rw [h]; rfl
/-- From the reference space. -/
noncomputable def fromV (n : Nat → Nat) (f : Nat → Nat → Int) (m c : Nat → Int) (i : Nat) : Int := solV (n i) (f i) (clpV (apV m (bnd c)) i)

set_option maxHeartbeats 1000000 in
theorem from1_any {v : Nat → Value} {n : Nat → Nat} {f : Nat → Nat → Int} {t m : Nat → Int} {x : Int} {i b B : Nat} {ty : TypeId} {w : World} (hi : i < 3) (hB : B ≤ w.heap.size) (hc : Crv w B v n f) (hs : Spb ty w b v t m) :
    Calls Try.prog 99 #[.int .i64 i, .int .i64 x, .pointer (some ⟨b, 0, none⟩)] w fun e w' => e = .returned (.int .i64 (solV (n i) (f i) x)) ∧ Below w.heap.size w w' := by
  have c1 := hs.curve i hi
  have i0 : 0 ≤ (i : Int) ∧ (i : Int) < 3 := by omega
  obtain ⟨h1, h2⟩ := hc i hi
  clear hs hc
  cases hq : slvOk (n i) (f i) x with
  | true =>
    have E := Lib.hid (solV_t hq)
    have hq' := Lib.hid hq
    clear hq
    go_enter Try.func99, Try.ntmps99
    go_wp2_with fail
    refine (solve_any h1 hB h2).mono ?_
    rintro e w' ⟨rfl, hd⟩
    rw [hq'.out]
    go_wp2
    go_ret
    exact ⟨ret_int E.out.symm, hd⟩
  | false =>
    have E := Lib.hid (solV_f hq)
    have hq' := Lib.hid hq
    clear hq
    go_enter Try.func99, Try.ntmps99
    go_wp2_with fail
    refine (solve_any h1 hB h2).mono ?_
    rintro e w' ⟨rfl, hd⟩
    rw [hq'.out]
    go_wp2
    go_ret
    exact ⟨ret_int E.out.symm, hd⟩

set_option maxRecDepth 100000 in
set_option maxHeartbeats 2000000 in
theorem from_any {v : Nat → Value} {n : Nat → Nat} {f : Nat → Nat → Int} {t m c : Nat → Int} {w : World} (hc : Crv w w.heap.size v n f) (hm : Ent m) :
    Calls Try.prog 68 #[spc v t m, col c] w fun e w' => e = .returned (col (fromV n f m c)) ∧ Below w.heap.size w w' := by
  obtain ⟨w0, h0, hb, hz, t1, t2, t3⟩ := to_new w v t m c 63 28
  have hmf : ∀ (fn : Fn) (first cap : Array Value) (w : World), (Instr.makeFunc fn first cap).run Try.prog w = .ok (.func fn first cap) w := fun _ _ _ _ => rfl
  have k1 := Lib.hid (Calls.grown_of (w := w0) (f := 55) fun W _ => clamped_bnd (c := c) (w := W))
  have k2 := Lib.hid (Calls.grown_of (w := w0) (f := 58) fun W hW => each_from (c := clpV (apV m (bnd c))) (r := fromV n f m c) (w := W) (b1 := .pointer (some ⟨w.heap.size, 0, none⟩)) fun i hi W' hW' =>
    (from1_any (v := v) (t := t) (m := m) hi (Nat.le_trans hb.size (Nat.le_trans hW.size hW'.size)) (hc.below ((hb.trans (hW.mono hb.size)).trans (hW'.mono (Nat.le_trans hb.size hW.size))) (Nat.le_refl _)) ((t1.on hW).on hW')))
  have k3 := Lib.hid (Calls.grown_of (w := w0) (f := 95) fun W hW => apply_any (m := m) (c := bnd c) (w := W) hm (InB.of c))
  have k4 := Lib.hid (Calls.grown_of (w := w0) (f := 25) fun W hW => clip_any (c := apV m (bnd c)) (w := W))
  have d0 := cell_regrown t2.c0
  have d1 := cell_regrown t2.c1
  have d2 := cell_regrown t2.c2
  have s0 := cell_regrown (t1.fr 0 (by omega))
  have s1 := cell_regrown (t1.fr 1 (by omega))
  have s2 := cell_regrown (t1.fr 2 (by omega))
  have s3 := cell_regrown (t1.fr 3 (by omega))
  have s4 := cell_regrown (t1.fr 4 (by omega))
  have s5 := cell_regrown (t1.fr 5 (by omega))
  have s6 := cell_regrown (t1.fr 6 (by omega))
  have s7 := cell_regrown (t1.fr 7 (by omega))
  have s8 := cell_regrown (t1.fr 8 (by omega))
  have T1 := Lib.hid t1
  have T2 := Lib.hid t2
  have T3 := Lib.hid t3
  have Z := Lib.hid hz
  have HT := Lib.hid hm
  have HC := Lib.hid hc
  clear t1 t2 t3 hz hm hc
  unfold spA at h0
  unfold col spc spA mat at *
  go_enter Try.func68, Try.ntmps68
  go_wp2
  clear h0
  refine region_below_tail 8 (by kernel_rfl) (by kernel_rfl) ?_
  simp only [List.take_succ_cons, List.take_zero, List.drop_succ_cons, List.drop_zero]
  repeat (go_big_quiet_step ((first | exact k1.out _ _ | exact k2.out _ _ | exact k3.out _ _ | exact k4.out _ _)))
  refine wpQuiet_nil ?_
  intro w1 hw1
  replace hw1 := below_of_regrown hw1
  have T := T3.out.on hw1
  have x0 := T.c0
  have x1 := T.c1
  have x2 := T.c2
  have y0 := T.free 0
  have y1 := T.free 1
  have y2 := T.free 2
  have hb2 := hb.trans (hw1.mono (by have := Z.out; omega))
  clear T d0 d1 d2 s0 s1 s2 s3 s4 s5 s6 s7 s8
  go_wp2
  refine bodyPost_ret (v := .agg #[.int .i64 (fromV n f m c 0), .int .i64 (fromV n f m c 1), .int .i64 (fromV n f m c 2)]) (by simp [results, Try.results68, go_sem, *]) rfl ?_
  exact ⟨rfl, set3_below hb2 (by omega) _ _ _⟩

end Go.Proofs.Ytmilljlkcbljpaa
