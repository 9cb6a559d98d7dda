/- Texts of this proof, one behind another: Sp To Va Vb Vc Ck Cv Qo Qw. -/
import Derived.Test.YtmilljlkcbljpaaZ2
/- Matrices and spaces; apply. -/
namespace Go.Proofs.Ytmilljlkcbljpaa
open Go.RowKit Go.Sort

/-- A matrix, as a value; in a block. -/
def mat (m : Nat → Int) : Value := .agg #[.int .i64 (m 0), .int .i64 (m 1), .int .i64 (m 2), .int .i64 (m 3), .int .i64 (m 4), .int .i64 (m 5), .int .i64 (m 6), .int .i64 (m 7), .int .i64 (m 8)]
def Mat (t : TypeId) (w : World) (b : Nat) (m : Nat → Int) : Prop :=
  w.heap[b]? = some (.cells #[.int .i64 (m 0), .int .i64 (m 1), .int .i64 (m 2), .int .i64 (m 3), .int .i64 (m 4), .int .i64 (m 5), .int .i64 (m 6), .int .i64 (m 7), .int .i64 (m 8)] t (0, 0))
theorem Mat.lt {t : TypeId} {w : World} {b : Nat} {m : Nat → Int} (h : Mat t w b m) : b < w.heap.size := (Array.getElem?_eq_some_iff.1 h).1
theorem Mat.below {t : TypeId} {w w' : World} {b B : Nat} {m : Nat → Int} (h : Mat t w b m) (hb : Below B w w') (hB : b < B) : Mat t w' b m := (hb.block b hB).trans h
theorem Mat.on {t : TypeId} {w w' : World} {b : Nat} {m : Nat → Int} (h : Mat t w b m) (hb : Below w.heap.size w w') : Mat t w' b m := h.below hb h.lt
theorem Mat.alloc {t : TypeId} {w : World} {b : Nat} {m : Nat → Int} (h : Mat t w b m) (o : Obj) : Mat t (w.alloc o) b m := h.on ((Below.refl _ _).alloc (Nat.le_refl _) _)
theorem Mat.new (w : World) (m : Nat → Int) (t : TypeId) : Mat t (w.alloc (.cells #[.int .i64 (m 0), .int .i64 (m 1), .int .i64 (m 2), .int .i64 (m 3), .int .i64 (m 4), .int .i64 (m 5), .int .i64 (m 6), .int .i64 (m 7), .int .i64 (m 8)] t)) w.heap.size m := heap_alloc_new w _
theorem Mat.cell {t : TypeId} {w : World} {b : Nat} {m : Nat → Int} (h : Mat t w b m) (j : Nat) (hj : j < 9) : w.cell? ⟨b, j, none⟩ = some (.int .i64 (m j)) := by
  obtain rfl | rfl | rfl | rfl | rfl | rfl | rfl | rfl | rfl : j = 0 ∨ j = 1 ∨ j = 2 ∨ j = 3 ∨ j = 4 ∨ j = 5 ∨ j = 6 ∨ j = 7 ∨ j = 8 := by omega
  all_goals simp [World.cell?, show w.heap[b]? = _ from h]

/-- The entries are small. -/
def Ent (m : Nat → Int) : Prop := ∀ j, j < 9 → -65536 ≤ m j ∧ m j ≤ 65536

/-- A matrix, applied. -/
def apV (m c : Nat → Int) (i : Nat) : Int := (m (3 * i) * c 0 + m (3 * i + 1) * c 1 + m (3 * i + 2) * c 2 + 2048) / 4096

theorem mul_both {a b A B : Int} (h0 : -A ≤ a) (h1 : a ≤ A) (h2 : -B ≤ b) (h3 : b ≤ B) : -(A * B) ≤ a * b ∧ a * b ≤ A * B := by
  by_cases h : 0 ≤ b
  · exact mul_abs h0 h1 h h3
  · have := mul_abs (b := -b) (B := B) h0 h1 (by omega) (by omega)
    rw [Int.mul_neg] at this
    omega

set_option maxHeartbeats 1000000 in
theorem apply1_any {m c : Nat → Int} {v : Int} {i b1 b2 : Nat} {t t' : TypeId} {w : World} (hi : i < 3) (hm : Ent m) (hc : InB c) (t1 : Mat t w b1 m) (t2 : Tri t' w b2 c) :
    Calls Try.prog 109 #[.int .i64 i, .int .i64 v, .pointer (some ⟨b1, 0, none⟩), .pointer (some ⟨b2, 0, none⟩)] w fun e w' => e = .returned (.int .i64 (apV m c i)) ∧ Drawn w w' := by
  have e0 := t1.cell (3 * i) (by omega)
  have e1 := t1.cell (3 * i + 1) (by omega)
  have e2 := t1.cell (3 * i + 2) (by omega)
  have d0 := t2.c0
  have d1 := t2.c1
  have d2 := t2.c2
  obtain ⟨p1, p2⟩ := mul_both (hm (3 * i) (by omega)).1 (hm (3 * i) (by omega)).2 (hc 0 (by omega)).1 (hc 0 (by omega)).2
  obtain ⟨p3, p4⟩ := mul_both (hm (3 * i + 1) (by omega)).1 (hm (3 * i + 1) (by omega)).2 (hc 1 (by omega)).1 (hc 1 (by omega)).2
  obtain ⟨p5, p6⟩ := mul_both (hm (3 * i + 2) (by omega)).1 (hm (3 * i + 2) (by omega)).2 (hc 2 (by omega)).1 (hc 2 (by omega)).2
  have E := Lib.hid (show apV m c i = (m (3 * i) * c 0 + m (3 * i + 1) * c 1 + m (3 * i + 2) * c 2 + 2048) / 4096 from rfl)
  generalize m (3 * i) = x0 at *
  generalize m (3 * i + 1) = x1 at *
  generalize m (3 * i + 2) = x2 at *
  generalize c 0 = y0 at *
  generalize c 1 = y1 at *
  generalize c 2 = y2 at *
  clear t1 t2 hm hc
  have i0 : 0 ≤ (i : Int) ∧ (i : Int) < 3 := by omega
  have n0 : (3 * (i : Int)).toNat = 3 * i := by omega
  have n1 : (3 * (i : Int) + 1).toNat = 3 * i + 1 := by omega
  have n2 : (3 * (i : Int) + 2).toNat = 3 * i + 2 := by omega
  go_enter Try.func109, Try.ntmps109
  go_wp2
  go_quiet ((go_at_call 57; exact Calls.quiet_of_same (floor_any (by omega) (by omega) (by omega) (by omega))))
  go_wp2
  go_ret
  exact ⟨ret_int E.out.symm, .of _⟩

theorem apply_new (w : World) (m c : Nat → Int) (t t' : TypeId) : ∃ w0, ((w.alloc (.cells #[.int .i64 (m 0), .int .i64 (m 1), .int .i64 (m 2), .int .i64 (m 3), .int .i64 (m 4), .int .i64 (m 5), .int .i64 (m 6), .int .i64 (m 7), .int .i64 (m 8)] t)).alloc (.cells #[.int .i64 (c 0), .int .i64 (c 1), .int .i64 (c 2)] t')).alloc (.cells #[.int .i64 0, .int .i64 0, .int .i64 0] t') = w0 ∧
    Below w.heap.size w w0 ∧ w0.heap.size = w.heap.size + 3 ∧ Mat t w0 w.heap.size m ∧ Tri t' w0 (w.heap.size + 1) c ∧ Tri t' w0 (w.heap.size + 1 + 1) (fun _ => 0) := by
  refine ⟨_, rfl, (((Below.refl _ w).alloc (Nat.le_refl _) _).alloc (by simp) _).alloc (by simp <;> omega) _, by simp, ((Mat.new w m t).alloc _).alloc _, ?_, ?_⟩
  · have h := Tri.new (w.alloc (.cells #[.int .i64 (m 0), .int .i64 (m 1), .int .i64 (m 2), .int .i64 (m 3), .int .i64 (m 4), .int .i64 (m 5), .int .i64 (m 6), .int .i64 (m 7), .int .i64 (m 8)] t)) c t'
    rw [World.size_alloc] at h
    exact h.alloc _
  · have h := Tri.new ((w.alloc (.cells #[.int .i64 (m 0), .int .i64 (m 1), .int .i64 (m 2), .int .i64 (m 3), .int .i64 (m 4), .int .i64 (m 5), .int .i64 (m 6), .int .i64 (m 7), .int .i64 (m 8)] t)).alloc (.cells #[.int .i64 (c 0), .int .i64 (c 1), .int .i64 (c 2)] t')) (fun _ => 0) t'
    simp only [World.size_alloc] at h
    exact h

set_option maxRecDepth 100000 in
set_option maxHeartbeats 1000000 in
theorem apply_any {m c : Nat → Int} {w : World} (hm : Ent m) (hc : InB c) :
    Calls Try.prog 95 #[mat m, col c] w fun e w' => e = .returned (col (apV m c)) ∧ Below w.heap.size w w' := by
  obtain ⟨w0, h0, hb, hz, t1, t2, t3⟩ := apply_new w m c 61 28
  have hmf : ∀ (fn : Fn) (first cap : Array Value) (w : World), (Instr.makeFunc fn first cap).run Try.prog w = .ok (.func fn first cap) w := fun _ _ _ _ => rfl
  have d0 := t2.c0
  have d1 := t2.c1
  have d2 := t2.c2
  have T1 := Lib.hid t1
  have T2 := Lib.hid t2
  have T3 := Lib.hid t3
  have Z := Lib.hid hz
  have HM := Lib.hid hm
  have HC := Lib.hid hc
  clear t1 t2 t3 hz hm hc
  unfold col mat
  go_enter Try.func95, Try.ntmps95
  go_wp2_with fail
  refine (each_apply (c := c) (r := apV m c) fun i hi W hbW => (apply1_any hi HM.out HC.out (T1.out.on hbW) (T2.out.on hbW)).mono fun e w' ⟨he, hd⟩ => ⟨he, hd.below _⟩).mono ?_
  unfold col
  rintro e w1 ⟨rfl, hb1⟩
  have T := T3.out.on hb1
  have x0 := T.c0
  have x1 := T.c1
  have x2 := T.c2
  have y0 := T.free 0
  have y1 := T.free 1
  have y2 := T.free 2
  have hb2 := hb.trans (hb1.mono (by have := Z.out; omega))
  clear T
  go_wp2
  refine bodyPost_ret (v := .agg #[.int .i64 (apV m c 0), .int .i64 (apV m c 1), .int .i64 (apV m c 2)]) (by simp [results, Try.results95, go_sem, *]) rfl ?_
  exact ⟨rfl, set3_below hb2 (by omega) _ _ _⟩

/-- A space, as a value; in a block. -/
def spA (v : Nat → Value) (t m : Nat → Int) : Array Value :=
  #[v 0, v 1, v 2, .int .i64 (t 0), .int .i64 (t 1), .int .i64 (t 2), .int .i64 (t 3), .int .i64 (t 4), .int .i64 (t 5), .int .i64 (t 6), .int .i64 (t 7), .int .i64 (t 8), .int .i64 (m 0), .int .i64 (m 1), .int .i64 (m 2), .int .i64 (m 3), .int .i64 (m 4), .int .i64 (m 5), .int .i64 (m 6), .int .i64 (m 7), .int .i64 (m 8)]
def spc (v : Nat → Value) (t m : Nat → Int) : Value := .agg (spA v t m)
def Spb (ty : TypeId) (w : World) (b : Nat) (v : Nat → Value) (t m : Nat → Int) : Prop := w.heap[b]? = some (.cells (spA v t m) ty (0, 0))
theorem Spb.lt {ty : TypeId} {w : World} {b : Nat} {v : Nat → Value} {t m : Nat → Int} (h : Spb ty w b v t m) : b < w.heap.size := (Array.getElem?_eq_some_iff.1 h).1
theorem Spb.below {ty : TypeId} {w w' : World} {b B : Nat} {v : Nat → Value} {t m : Nat → Int} (h : Spb ty w b v t m) (hb : Below B w w') (hB : b < B) : Spb ty w' b v t m := (hb.block b hB).trans h
theorem Spb.on {ty : TypeId} {w w' : World} {b : Nat} {v : Nat → Value} {t m : Nat → Int} (h : Spb ty w b v t m) (hb : Below w.heap.size w w') : Spb ty w' b v t m := h.below hb h.lt
theorem Spb.alloc {ty : TypeId} {w : World} {b : Nat} {v : Nat → Value} {t m : Nat → Int} (h : Spb ty w b v t m) (o : Obj) : Spb ty (w.alloc o) b v t m := h.on ((Below.refl _ _).alloc (Nat.le_refl _) _)
theorem Spb.new (w : World) (v : Nat → Value) (t m : Nat → Int) (ty : TypeId) : Spb ty (w.alloc (.cells (spA v t m) ty)) w.heap.size v t m := heap_alloc_new w _
theorem Spb.free {ty : TypeId} {w : World} {b : Nat} {v : Nat → Value} {t m : Nat → Int} (h : Spb ty w b v t m) (j : Nat) : w.frozen? ⟨b, j, none⟩ = false := frozen_of_row w b j _ _ h
theorem Spb.curve {ty : TypeId} {w : World} {b : Nat} {v : Nat → Value} {t m : Nat → Int} (h : Spb ty w b v t m) (j : Nat) (hj : j < 3) : w.cell? ⟨b, j, none⟩ = some (v j) := by
  obtain rfl | rfl | rfl : j = 0 ∨ j = 1 ∨ j = 2 := by omega
  all_goals simp [World.cell?, show w.heap[b]? = _ from h, spA]
theorem Spb.to {ty : TypeId} {w : World} {b : Nat} {v : Nat → Value} {t m : Nat → Int} (h : Spb ty w b v t m) (j : Nat) (hj : j < 9) : w.cell? ⟨b, 3 + j, none⟩ = some (.int .i64 (t j)) := by
  obtain rfl | rfl | rfl | rfl | rfl | rfl | rfl | rfl | rfl : j = 0 ∨ j = 1 ∨ j = 2 ∨ j = 3 ∨ j = 4 ∨ j = 5 ∨ j = 6 ∨ j = 7 ∨ j = 8 := by omega
  all_goals simp [World.cell?, show w.heap[b]? = _ from h, spA]
theorem Spb.fr {ty : TypeId} {w : World} {b : Nat} {v : Nat → Value} {t m : Nat → Int} (h : Spb ty w b v t m) (j : Nat) (hj : j < 9) : w.cell? ⟨b, 12 + j, none⟩ = some (.int .i64 (m j)) := by
  obtain rfl | rfl | rfl | rfl | rfl | rfl | rfl | rfl | rfl : j = 0 ∨ j = 1 ∨ j = 2 ∨ j = 3 ∨ j = 4 ∨ j = 5 ∨ j = 6 ∨ j = 7 ∨ j = 8 := by omega
  all_goals simp [World.cell?, show w.heap[b]? = _ from h, spA]

/-- The curves of a space, in the world. -/
def Crv (w : World) (B : Nat) (v : Nat → Value) (n : Nat → Nat) (f : Nat → Nat → Int) : Prop := ∀ i, i < 3 → n i ≤ 9223372036854775807 ∧ Sl w B (v i) (n i) (f i)
theorem Crv.below {w w' : World} {B B' : Nat} {v : Nat → Value} {n : Nat → Nat} {f : Nat → Nat → Int} (h : Crv w B v n f) (hb : Below B' w w') (hB : B ≤ B') : Crv w' B v n f := fun i hi => ⟨(h i hi).1, (h i hi).2.below hb hB⟩

/-- To the reference space. -/
noncomputable def toV (n : Nat → Nat) (f : Nat → Nat → Int) (t c : Nat → Int) : Nat → Int := apV t fun i => AtV (n i) (f i) (bnd c i)

set_option maxHeartbeats 1000000 in
theorem to1_any {v : Nat → Value} {n : Nat → Nat} {f : Nat → Nat → Int} {t m : Nat → Int} {x : Int} {i b B : Nat} {ty : TypeId} {w : World} (hi : i < 3) (hc : Crv w B v n f) (hs : Spb ty w b v t m) :
    Calls Try.prog 96 #[.int .i64 i, .int .i64 x, .pointer (some ⟨b, 0, none⟩)] w fun e w' => e = .returned (.int .i64 (AtV (n i) (f i) x)) ∧ Drawn w w' := by
  have c1 := hs.curve i hi
  have i0 : 0 ≤ (i : Int) ∧ (i : Int) < 3 := by omega
  obtain ⟨h1, h2⟩ := hc i hi
  clear hs hc
  go_enter Try.func96, Try.ntmps96
  go_wp2_with fail
  refine (At_any h1 h2).mono ?_
  rintro e w' ⟨rfl, hd⟩
  go_wp2
  go_ret
  exact ⟨rfl, hd⟩

end Go.Proofs.Ytmilljlkcbljpaa

/- To the reference space and back, of a valid space. -/
namespace Go.Proofs.Ytmilljlkcbljpaa
open Go.RowKit Go.Sort

theorem to_new (w : World) (v : Nat → Value) (t m c : Nat → Int) (ty t' : TypeId) : ∃ w0, ((w.alloc (.cells (spA v t m) ty)).alloc (.cells #[.int .i64 (c 0), .int .i64 (c 1), .int .i64 (c 2)] t')).alloc (.cells #[.int .i64 0, .int .i64 0, .int .i64 0] t') = w0 ∧
    Below w.heap.size w w0 ∧ w0.heap.size = w.heap.size + 3 ∧ Spb ty w0 w.heap.size v t m ∧ Tri t' w0 (w.heap.size + 1) c ∧ Tri t' w0 (w.heap.size + 1 + 1) (fun _ => 0) := by
  refine ⟨_, rfl, (((Below.refl _ w).alloc (Nat.le_refl _) _).alloc (by simp) _).alloc (by simp <;> omega) _, by simp, ((Spb.new w v t m ty).alloc _).alloc _, ?_, ?_⟩
  · have h := Tri.new (w.alloc (.cells (spA v t m) ty)) c t'
    rw [World.size_alloc] at h
    exact h.alloc _
  · have h := Tri.new ((w.alloc (.cells (spA v t m) ty)).alloc (.cells #[.int .i64 (c 0), .int .i64 (c 1), .int .i64 (c 2)] t')) (fun _ => 0) t'
    simp only [World.size_alloc] at h
    exact h

theorem AtV_range {n : Nat} {f : Nat → Int} (x : Int) : 0 ≤ AtV n f x ∧ AtV n f x ≤ 65535 := by
  by_cases h : Vld n f
  · rw [AtV_yes h]; exact atV_range h (clp_bd x).1 (clp_bd x).2
  · rw [AtV_no h]; omega

theorem lin_bd (n : Nat → Nat) (f : Nat → Nat → Int) (c : Nat → Int) : InB fun i => AtV (n i) (f i) (c i) := fun i _ => by
  have := AtV_range (n := n i) (f := f i) (c i)
  show -16777216 ≤ AtV (n i) (f i) (c i) ∧ AtV (n i) (f i) (c i) ≤ 16777216
  omega

set_option maxRecDepth 100000 in
set_option maxHeartbeats 2000000 in
theorem to_any {v : Nat → Value} {n : Nat → Nat} {f : Nat → Nat → Int} {t m c : Nat → Int} {w : World} (hc : Crv w w.heap.size v n f) (ht : Ent t) :
    Calls Try.prog 66 #[spc v t m, col c] w fun e w' => e = .returned (col (toV n f t c)) ∧ Below w.heap.size w w' := by
  obtain ⟨w0, h0, hb, hz, t1, t2, t3⟩ := to_new w v t m c 63 28
  have hmf : ∀ (fn : Fn) (first cap : Array Value) (w : World), (Instr.makeFunc fn first cap).run Try.prog w = .ok (.func fn first cap) w := fun _ _ _ _ => rfl
  have k1 := Lib.hid (Calls.grown_of (w := w0) (f := 55) fun W _ => clamped_bnd (c := c) (w := W))
  have k2 := Lib.hid (Calls.grown_of (w := w0) (f := 58) fun W hW => each_to (c := bnd c) (r := fun i => AtV (n i) (f i) (bnd c i)) (w := W) (b1 := .pointer (some ⟨w.heap.size, 0, none⟩)) fun i hi W' hW' =>
    (to1_any (v := v) (t := t) (m := m) hi (hc.below ((hb.trans (hW.mono hb.size)).trans (hW'.mono (Nat.le_trans hb.size hW.size))) (Nat.le_refl _)) ((t1.on hW).on hW')).mono fun e w' ⟨he, hd⟩ => ⟨he, hd.below _⟩)
  have k3 := Lib.hid (Calls.grown_of (w := w0) (f := 95) fun W hW => apply_any (m := t) (c := fun i => AtV (n i) (f i) (bnd c i)) (w := W) ht (lin_bd n f (bnd c)))
  have d0 := cell_regrown t2.c0
  have d1 := cell_regrown t2.c1
  have d2 := cell_regrown t2.c2
  have s0 := cell_regrown (t1.to 0 (by omega))
  have s1 := cell_regrown (t1.to 1 (by omega))
  have s2 := cell_regrown (t1.to 2 (by omega))
  have s3 := cell_regrown (t1.to 3 (by omega))
  have s4 := cell_regrown (t1.to 4 (by omega))
  have s5 := cell_regrown (t1.to 5 (by omega))
  have s6 := cell_regrown (t1.to 6 (by omega))
  have s7 := cell_regrown (t1.to 7 (by omega))
  have s8 := cell_regrown (t1.to 8 (by omega))
  have T1 := Lib.hid t1
  have T2 := Lib.hid t2
  have T3 := Lib.hid t3
  have Z := Lib.hid hz
  have HT := Lib.hid ht
  have HC := Lib.hid hc
  clear t1 t2 t3 hz ht hc
  unfold spA at h0
  unfold col spc spA mat at *
  go_enter Try.func66, Try.ntmps66
  go_wp2
  clear h0
  refine region_below_tail 7 (by kernel_rfl) (by kernel_rfl) ?_
  simp only [List.take_succ_cons, List.take_zero, List.drop_succ_cons, List.drop_zero]
  repeat (go_big_quiet_step ((first | exact k1.out _ _ | exact k2.out _ _ | exact k3.out _ _)))
  refine wpQuiet_nil ?_
  intro w1 hw1
  replace hw1 := below_of_regrown hw1
  have T := T3.out.on hw1
  have x0 := T.c0
  have x1 := T.c1
  have x2 := T.c2
  have y0 := T.free 0
  have y1 := T.free 1
  have y2 := T.free 2
  have hb2 := hb.trans (hw1.mono (by have := Z.out; omega))
  clear T d0 d1 d2 s0 s1 s2 s3 s4 s5 s6 s7 s8
  go_wp2
  refine bodyPost_ret (v := .agg #[.int .i64 (toV n f t c 0), .int .i64 (toV n f t c 1), .int .i64 (toV n f t c 2)]) (by simp [results, Try.results66, go_sem, toV, *]) rfl ?_
  exact ⟨rfl, set3_below hb2 (by omega) _ _ _⟩

/-- The solution, or the end. -/
noncomputable def solV (n : Nat) (f : Nat → Int) (y : Int) : Int := bif slvOk n f y then (slvX n f y : Nat) else 65535
theorem solV_t {n : Nat} {f : Nat → Int} {y : Int} (h : slvOk n f y = true) : solV n f y = (slvX n f y : Nat) := by unfold solV; rw [h]; rfl
theorem solV_f {n : Nat} {f : Nat → Int} {y : Int} (h : slvOk n f y = false) : solV n f y = 65535 := by unfold solV; rw [h]; rfl
/-- From the reference space. -/
noncomputable def fromV (n : Nat → Nat) (f : Nat → Nat → Int) (m c : Nat → Int) (i : Nat) : Int := solV (n i) (f i) (clpV (apV m (bnd c)) i)

set_option maxHeartbeats 1000000 in
theorem from1_any {v : Nat → Value} {n : Nat → Nat} {f : Nat → Nat → Int} {t m : Nat → Int} {x : Int} {i b B : Nat} {ty : TypeId} {w : World} (hi : i < 3) (hB : B ≤ w.heap.size) (hc : Crv w B v n f) (hs : Spb ty w b v t m) :
    Calls Try.prog 99 #[.int .i64 i, .int .i64 x, .pointer (some ⟨b, 0, none⟩)] w fun e w' => e = .returned (.int .i64 (solV (n i) (f i) x)) ∧ Below w.heap.size w w' := by
  have c1 := hs.curve i hi
  have i0 : 0 ≤ (i : Int) ∧ (i : Int) < 3 := by omega
  obtain ⟨h1, h2⟩ := hc i hi
  clear hs hc
  cases hq : slvOk (n i) (f i) x with
  | true =>
    have E := Lib.hid (solV_t hq)
    have hq' := Lib.hid hq
    clear hq
    go_enter Try.func99, Try.ntmps99
    go_wp2_with fail
    refine (solve_any h1 hB h2).mono ?_
    rintro e w' ⟨rfl, hd⟩
    rw [hq'.out]
    go_wp2
    go_ret
    exact ⟨ret_int E.out.symm, hd⟩
  | false =>
    have E := Lib.hid (solV_f hq)
    have hq' := Lib.hid hq
    clear hq
    go_enter Try.func99, Try.ntmps99
    go_wp2_with fail
    refine (solve_any h1 hB h2).mono ?_
    rintro e w' ⟨rfl, hd⟩
    rw [hq'.out]
    go_wp2
    go_ret
    exact ⟨ret_int E.out.symm, hd⟩

set_option maxRecDepth 100000 in
set_option maxHeartbeats 2000000 in
theorem from_any {v : Nat → Value} {n : Nat → Nat} {f : Nat → Nat → Int} {t m c : Nat → Int} {w : World} (hc : Crv w w.heap.size v n f) (hm : Ent m) :
    Calls Try.prog 68 #[spc v t m, col c] w fun e w' => e = .returned (col (fromV n f m c)) ∧ Below w.heap.size w w' := by
  obtain ⟨w0, h0, hb, hz, t1, t2, t3⟩ := to_new w v t m c 63 28
  have hmf : ∀ (fn : Fn) (first cap : Array Value) (w : World), (Instr.makeFunc fn first cap).run Try.prog w = .ok (.func fn first cap) w := fun _ _ _ _ => rfl
  have k1 := Lib.hid (Calls.grown_of (w := w0) (f := 55) fun W _ => clamped_bnd (c := c) (w := W))
  have k2 := Lib.hid (Calls.grown_of (w := w0) (f := 58) fun W hW => each_from (c := clpV (apV m (bnd c))) (r := fromV n f m c) (w := W) (b1 := .pointer (some ⟨w.heap.size, 0, none⟩)) fun i hi W' hW' =>
    (from1_any (v := v) (t := t) (m := m) hi (Nat.le_trans hb.size (Nat.le_trans hW.size hW'.size)) (hc.below ((hb.trans (hW.mono hb.size)).trans (hW'.mono (Nat.le_trans hb.size hW.size))) (Nat.le_refl _)) ((t1.on hW).on hW')))
  have k3 := Lib.hid (Calls.grown_of (w := w0) (f := 95) fun W hW => apply_any (m := m) (c := bnd c) (w := W) hm (InB.of c))
  have k4 := Lib.hid (Calls.grown_of (w := w0) (f := 25) fun W hW => clip_any (c := apV m (bnd c)) (w := W))
  have d0 := cell_regrown t2.c0
  have d1 := cell_regrown t2.c1
  have d2 := cell_regrown t2.c2
  have s0 := cell_regrown (t1.fr 0 (by omega))
  have s1 := cell_regrown (t1.fr 1 (by omega))
  have s2 := cell_regrown (t1.fr 2 (by omega))
  have s3 := cell_regrown (t1.fr 3 (by omega))
  have s4 := cell_regrown (t1.fr 4 (by omega))
  have s5 := cell_regrown (t1.fr 5 (by omega))
  have s6 := cell_regrown (t1.fr 6 (by omega))
  have s7 := cell_regrown (t1.fr 7 (by omega))
  have s8 := cell_regrown (t1.fr 8 (by omega))
  have T1 := Lib.hid t1
  have T2 := Lib.hid t2
  have T3 := Lib.hid t3
  have Z := Lib.hid hz
  have HT := Lib.hid hm
  have HC := Lib.hid hc
  clear t1 t2 t3 hz hm hc
  unfold spA at h0
  unfold col spc spA mat at *
  go_enter Try.func68, Try.ntmps68
  go_wp2
  clear h0
  refine region_below_tail 8 (by kernel_rfl) (by kernel_rfl) ?_
  simp only [List.take_succ_cons, List.take_zero, List.drop_succ_cons, List.drop_zero]
  repeat (go_big_quiet_step ((first | exact k1.out _ _ | exact k2.out _ _ | exact k3.out _ _ | exact k4.out _ _)))
  refine wpQuiet_nil ?_
  intro w1 hw1
  replace hw1 := below_of_regrown hw1
  have T := T3.out.on hw1
  have x0 := T.c0
  have x1 := T.c1
  have x2 := T.c2
  have y0 := T.free 0
  have y1 := T.free 1
  have y2 := T.free 2
  have hb2 := hb.trans (hw1.mono (by have := Z.out; omega))
  clear T d0 d1 d2 s0 s1 s2 s3 s4 s5 s6 s7 s8
  go_wp2
  refine bodyPost_ret (v := .agg #[.int .i64 (fromV n f m c 0), .int .i64 (fromV n f m c 1), .int .i64 (fromV n f m c 2)]) (by simp [results, Try.results68, go_sem, *]) rfl ?_
  exact ⟨rfl, set3_below hb2 (by omega) _ _ _⟩

end Go.Proofs.Ytmilljlkcbljpaa

/- Valid spaces. -/
namespace Go.Proofs.Ytmilljlkcbljpaa
open Go.RowKit Go.Sort

/-- Whether one of the first n is so. -/
def anyB (n : Nat) (p : Nat → Bool) : Bool := (List.range n).any p
theorem anyB_t {n : Nat} {p : Nat → Bool} {k : Nat} (hk : k < n) (h : p k = true) : anyB n p = true := by
  simp only [anyB, List.any_eq_true, List.mem_range]; exact ⟨k, hk, h⟩
theorem anyB_f {n : Nat} {p : Nat → Bool} (h : ∀ k, k < n → p k = false) : anyB n p = false := by
  simp only [anyB, List.any_eq_false, List.mem_range]; exact fun k hk => by rw [h k hk]; simp
theorem of_anyB_f {n : Nat} {p : Nat → Bool} (h : anyB n p = false) (k : Nat) (hk : k < n) : p k = false := by
  cases e : p k with
  | false => rfl
  | true => rw [anyB_t hk e] at h; cases h

/-- An index that is not negative just if p. -/
def Idx (p : Bool) (w : World) (e : Ending) (w' : World) : Prop := ∃ k : Int, e = .returned (.int .i64 k) ∧ decide (0 ≤ k) = p ∧ Below w.heap.size w w'

/-- Beyond the greatest entry. -/
def bigB (x : Int) : Bool := decide (x < -65536) || decide (65536 < x)
theorem bigB_f {x : Int} (h : -65536 ≤ x ∧ x ≤ 65536) : bigB x = false := by simp [bigB]; omega

set_option maxHeartbeats 400000 in
theorem within1_any (x : Int) (w : World) : Calls Try.prog 93 #[.int .i64 x] w fun e w' => e = .returned (.bool (bigB x)) ∧ Drawn w w' := by
  by_cases h1 : x < -65536
  · have h1' : decide (x < -65536) = true := decide_eq_true h1
    have E := Lib.hid (show bigB x = true by simp [bigB, h1])
    go_enter Try.func93, Try.ntmps93
    go_wp2
    go_ret
    exact ⟨ret_bool E.out.symm, .refl _⟩
  · have h1' : decide (x < -65536) = false := decide_eq_false h1
    by_cases h2 : 65536 < x
    · have h2' : decide (65536 < x) = true := decide_eq_true h2
      have E := Lib.hid (show bigB x = true by simp [bigB, h2])
      go_enter Try.func93, Try.ntmps93
      go_wp2
      go_ret
      exact ⟨ret_bool E.out.symm, .refl _⟩
    · have h2' : decide (65536 < x) = false := decide_eq_false h2
      have E := Lib.hid (show bigB x = false by simp [bigB]; omega)
      go_enter Try.func93, Try.ntmps93
      go_wp2
      go_ret
      exact ⟨ret_bool E.out.symm, .refl _⟩

set_option maxHeartbeats 1000000 in
theorem index_within {n b off cap : Nat} {m : Nat → Int} {w : World} (hn : n ≤ 4096) (hb : b < w.heap.size) (hc : Cells w b off n m) :
    Calls Try.prog 108 #[.slice (some ⟨b, off, none⟩) n cap, .func (.func 93) #[] #[]] w (Idx (anyB n fun i => bigB (m i)) w) := by
  go_enter Try.func108, Try.ntmps108
  go_wp2
  go_loopw [8] (fun i wr => ∃ k : Nat, k ≤ n ∧ i = .int .i64 k ∧ Hid (∀ j, j < k → bigB (m j) = false) ∧ Below w.heap.size w wr) (fun i _ => n - (intOf i).toNat)
  case atStart => exact ⟨0, by omega, rfl, Lib.hid (fun j hj => by omega), Below.refl _ _⟩
  case round =>
    obtain ⟨k, hk, rfl, hs, hq⟩ := hrel
    by_cases hlt : k < n
    · have c1 := hc.below hq hb k hlt
      have i1 : 0 ≤ (k : Int) ∧ (k : Int) < n := by omega
      go_wp2_with fail
      refine (within1_any _ _).mono ?_
      rintro e w' ⟨rfl, hd⟩
      have hq' := hq.trans ((hd.below wr.heap.size).mono hq.size)
      clear hd c1
      cases hB : bigB (m k) with
      | true =>
        have E := Lib.hid (anyB_t (p := fun i => bigB (m i)) hlt hB)
        clear hB
        go_wp2
        go_ret
        exact ⟨k, rfl, by rw [E.out]; exact decide_eq_true (by omega), hq'⟩
      | false =>
        have E := Lib.hid hB
        clear hB
        go_wp2
        go_roundw
        case rel => exact ⟨k + 1, by omega, by go_num, Lib.hid (fun j hj => by
          by_cases e : j = k
          · subst e; exact E.out
          · exact hs.out j (by omega)), hq'⟩
        case measure => simp [intOf]; omega
    · obtain rfl : k = n := by omega
      have E := Lib.hid (anyB_f hs.out)
      go_wp2
      go_ret
      exact ⟨-1, rfl, by rw [E.out]; rfl, hq⟩

set_option maxHeartbeats 400000 in
theorem contains_within {n b off cap : Nat} {m : Nat → Int} {w : World} (hn : n ≤ 4096) (hb : b < w.heap.size) (hc : Cells w b off n m) :
    Calls Try.prog 92 #[.slice (some ⟨b, off, none⟩) n cap, .func (.func 93) #[] #[]] w fun e w' => e = .returned (.bool (anyB n fun i => bigB (m i))) ∧ Below w.heap.size w w' := by
  go_enter Try.func92, Try.ntmps92
  go_wp2_with fail
  refine (index_within hn hb hc).mono ?_
  rintro e w' ⟨k, rfl, hk, hq⟩
  have E := Lib.hid hk
  clear hk hc
  go_wp2
  go_ret
  exact ⟨ret_bool E.out, hq⟩

open Classical in
/-- Whether the entries are small. -/
noncomputable def entB (m : Nat → Int) : Bool := decide (Ent m)
theorem entB_t {m : Nat → Int} (h : Ent m) : entB m = true := by simp [entB, h]
theorem entB_f {m : Nat → Int} (h : ¬ Ent m) : entB m = false := by simp [entB, h]
theorem of_entB {m : Nat → Int} (h : entB m = true) : Ent m := by simpa [entB] using h
theorem entB_any (m : Nat → Int) : (!anyB 9 fun i => bigB (m i)) = entB m := by
  by_cases h : Ent m
  · rw [entB_t h, anyB_f fun k hk => bigB_f (h k hk)]; rfl
  · rw [entB_f h]
    cases e : anyB 9 fun i => bigB (m i) with
    | true => rfl
    | false =>
      refine absurd (fun j hj => ?_) h
      have := of_anyB_f e j hj
      simp [bigB] at this
      omega

set_option maxHeartbeats 400000 in
theorem within_any {m : Nat → Int} {w : World} :
    Calls Try.prog 63 #[mat m] w fun e w' => e = .returned (.bool (entB m)) ∧ Below w.heap.size w w' := by
  have t1 := Mat.new w m 61
  have E := Lib.hid (entB_any m)
  have HC : Cells (w.alloc (.cells #[.int .i64 (m 0), .int .i64 (m 1), .int .i64 (m 2), .int .i64 (m 3), .int .i64 (m 4), .int .i64 (m 5), .int .i64 (m 6), .int .i64 (m 7), .int .i64 (m 8)] 61)) w.heap.size 0 9 m := fun k hk => by rw [Nat.zero_add]; exact t1.cell k hk
  clear t1
  unfold mat
  go_enter Try.func63, Try.ntmps63
  go_wp2_with fail
  refine (contains_within (by omega) (by simp) HC).mono ?_
  rintro e w' ⟨rfl, hq⟩
  go_wp2
  go_ret
  exact ⟨ret_bool E.out, ((Below.refl _ w).alloc (Nat.le_refl _) _).trans (hq.mono (by simp))⟩

end Go.Proofs.Ytmilljlkcbljpaa

/- inverse, Valid. -/
namespace Go.Proofs.Ytmilljlkcbljpaa
open Go.RowKit Go.Sort

/-- An entry of the product. -/
def prdV (m t : Nat → Int) (r c : Nat) : Int := m (3 * r) * t c + m (3 * r + 1) * t (3 + c) + m (3 * r + 2) * t (6 + c)
/-- Near the identity. -/
def nearV (m t : Nat → Int) (r c : Nat) : Prop := -32768 ≤ prdV m t r c - (if r = c then 16777216 else 0) ∧ prdV m t r c - (if r = c then 16777216 else 0) ≤ 32768
def Inv (m t : Nat → Int) : Prop := ∀ i, i < 9 → nearV m t (i / 3) (i % 3)
open Classical in
noncomputable def invB (m t : Nat → Int) : Bool := decide (Inv m t)
theorem invB_t {m t : Nat → Int} (h : Inv m t) : invB m t = true := by simp [invB, h]
theorem invB_f {m t : Nat → Int} (h : ¬ Inv m t) : invB m t = false := by simp [invB, h]
theorem of_invB {m t : Nat → Int} (h : invB m t = true) : Inv m t := by simpa [invB] using h
theorem prd_bd {m t : Nat → Int} (hm : Ent m) (ht : Ent t) {r c : Nat} (hr : r < 3) (hc : c < 3) :
    ((-(65536 * 65536) ≤ m (3 * r) * t c ∧ m (3 * r) * t c ≤ 65536 * 65536) ∧ (-(65536 * 65536) ≤ m (3 * r + 1) * t (3 + c) ∧ m (3 * r + 1) * t (3 + c) ≤ 65536 * 65536)) ∧ (-(65536 * 65536) ≤ m (3 * r + 2) * t (6 + c) ∧ m (3 * r + 2) * t (6 + c) ≤ 65536 * 65536) :=
  ⟨⟨mul_both (hm _ (by omega)).1 (hm _ (by omega)).2 (ht _ (by omega)).1 (ht _ (by omega)).2, mul_both (hm _ (by omega)).1 (hm _ (by omega)).2 (ht _ (by omega)).1 (ht _ (by omega)).2⟩,
   mul_both (hm _ (by omega)).1 (hm _ (by omega)).2 (ht _ (by omega)).1 (ht _ (by omega)).2⟩

set_option maxRecDepth 100000 in
set_option maxHeartbeats 4000000 in
theorem inverse_any {m t : Nat → Int} {w : World} (hm : Ent m) (ht : Ent t) :
    Calls Try.prog 64 #[mat m, mat t] w fun e w' => e = .returned (.bool (invB m t)) ∧ Below w.heap.size w w' := by
  have t1 := (Mat.new w m 61).alloc (.cells #[.int .i64 (t 0), .int .i64 (t 1), .int .i64 (t 2), .int .i64 (t 3), .int .i64 (t 4), .int .i64 (t 5), .int .i64 (t 6), .int .i64 (t 7), .int .i64 (t 8)] 61)
  have t2 := Mat.new (w.alloc (.cells #[.int .i64 (m 0), .int .i64 (m 1), .int .i64 (m 2), .int .i64 (m 3), .int .i64 (m 4), .int .i64 (m 5), .int .i64 (m 6), .int .i64 (m 7), .int .i64 (m 8)] 61)) t 61
  rw [World.size_alloc] at t2
  have hb := ((Below.refl w.heap.size w).alloc (Nat.le_refl _) (.cells #[.int .i64 (m 0), .int .i64 (m 1), .int .i64 (m 2), .int .i64 (m 3), .int .i64 (m 4), .int .i64 (m 5), .int .i64 (m 6), .int .i64 (m 7), .int .i64 (m 8)] 61)).alloc (by simp) (.cells #[.int .i64 (t 0), .int .i64 (t 1), .int .i64 (t 2), .int .i64 (t 3), .int .i64 (t 4), .int .i64 (t 5), .int .i64 (t 6), .int .i64 (t 7), .int .i64 (t 8)] 61)
  obtain ⟨w0, h0⟩ : ∃ w0, (w.alloc (.cells #[.int .i64 (m 0), .int .i64 (m 1), .int .i64 (m 2), .int .i64 (m 3), .int .i64 (m 4), .int .i64 (m 5), .int .i64 (m 6), .int .i64 (m 7), .int .i64 (m 8)] 61)).alloc (.cells #[.int .i64 (t 0), .int .i64 (t 1), .int .i64 (t 2), .int .i64 (t 3), .int .i64 (t 4), .int .i64 (t 5), .int .i64 (t 6), .int .i64 (t 7), .int .i64 (t 8)] 61) = w0 := ⟨_, rfl⟩
  rw [h0] at t1 t2 hb
  have T1 := Lib.hid t1
  have T2 := Lib.hid t2
  have HM := Lib.hid hm
  have HT := Lib.hid ht
  clear t1 t2 hm ht
  unfold mat
  go_enter Try.func64, Try.ntmps64
  go_wp2
  clear h0
  go_loopw [9] (fun i wr => ∃ k : Nat, k ≤ 9 ∧ i = .int .i64 k ∧ Hid (∀ j, j < k → nearV m t (j / 3) (j % 3)) ∧ Drawn w0 wr) (fun i _ => 9 - (intOf i).toNat)
  case atStart => exact ⟨0, by omega, rfl, Lib.hid (fun j hj => by omega), .refl _⟩
  case round =>
    obtain ⟨k, hk, rfl, hs, hq⟩ := hrel
    by_cases hlt : k < 9
    · obtain ⟨r, hr⟩ : ∃ r, r = k / 3 := ⟨_, rfl⟩
      obtain ⟨c, hc⟩ : ∃ c, c = k % 3 := ⟨_, rfl⟩
      have hr3 : r < 3 := by omega
      have hc3 : c < 3 := by omega
      have u1 := T1.out.on (hq.below w0.heap.size)
      have u2 := T2.out.on (hq.below w0.heap.size)
      have e0 := u1.cell (3 * r) (by omega)
      have e1 := u1.cell (3 * r + 1) (by omega)
      have e2 := u1.cell (3 * r + 2) (by omega)
      have d0 := u2.cell c (by omega)
      have d1 := u2.cell (3 + c) (by omega)
      have d2 := u2.cell (6 + c) (by omega)
      obtain ⟨⟨⟨p1, p2⟩, p3, p4⟩, p5, p6⟩ := prd_bd HM.out HT.out hr3 hc3
      have HP := Lib.hid (show prdV m t r c = m (3 * r) * t c + m (3 * r + 1) * t (3 + c) + m (3 * r + 2) * t (6 + c) from rfl)
      have HN := Lib.hid (show nearV m t (k / 3) (k % 3) ↔ nearV m t r c by rw [hr, hc])
      have HF := Lib.hid (fun h : ¬ nearV m t r c => invB_f (m := m) (t := t) fun hh => h (HN.out.1 (hh k hlt)))
      clear u1 u2
      generalize m (3 * r) = x0 at *
      generalize m (3 * r + 1) = x1 at *
      generalize m (3 * r + 2) = x2 at *
      generalize t c = y0 at *
      generalize t (3 + c) = y1 at *
      generalize t (6 + c) = y2 at *
      have i1 : 0 ≤ (k : Int) ∧ (k : Int) < 9 := by omega
      have i2 : 0 ≤ (r : Int) ∧ (r : Int) < 3 := by omega
      have i3 : 0 ≤ (c : Int) ∧ (c : Int) < 3 := by omega
      have j1 : (k : Int) / 3 = (r : Int) := by omega
      have j2 : (k : Int) % 3 = (c : Int) := by omega
      have n0 : (3 * (r : Int)).toNat = 3 * r := by omega
      have n1 : (3 * (r : Int) + 1).toNat = 3 * r + 1 := by omega
      have n2 : (3 * (r : Int) + 2).toNat = 3 * r + 2 := by omega
      have n3 : (3 + (c : Int)).toNat = 3 + c := by omega
      have n4 : (6 + (c : Int)).toNat = 6 + c := by omega
      by_cases hrc : r = c
      · have q : ((r : Int) == (c : Int)) = true := by simp [hrc]
        have q' : ((r : Int) == (k : Int) % 3) = true := by rw [j2]; exact q
        have HNE := Lib.hid (show nearV m t r c ↔ -32768 ≤ x0 * y0 + x1 * y1 + x2 * y2 - 16777216 ∧ x0 * y0 + x1 * y1 + x2 * y2 - 16777216 ≤ 32768 by unfold nearV; rw [HP.out, if_pos hrc])
        clear hr hc hrc
        go_wp2
        go_quiet (fail)
        clear j1 j2 n0 n1 n2 n3 n4 d0 d1 d2 e0 e1 e2
        by_cases g1 : x0 * y0 + x1 * y1 + x2 * y2 - 16777216 < -32768
        · have g1' : decide (x0 * y0 + x1 * y1 + x2 * y2 - 16777216 < -32768) = true := decide_eq_true g1
          go_wp2
          go_ret
          exact ⟨ret_bool (HF.out (fun h => by have := HNE.out.1 h; omega)).symm, hb.trans ((hq.on _).below _)⟩
        · have g1' : decide (x0 * y0 + x1 * y1 + x2 * y2 - 16777216 < -32768) = false := decide_eq_false g1
          by_cases g2 : 32768 < x0 * y0 + x1 * y1 + x2 * y2 - 16777216
          · have g2' : decide (32768 < x0 * y0 + x1 * y1 + x2 * y2 - 16777216) = true := decide_eq_true g2
            go_wp2
            go_ret
            exact ⟨ret_bool (HF.out (fun h => by have := HNE.out.1 h; omega)).symm, hb.trans ((hq.on _).below _)⟩
          · have g2' : decide (32768 < x0 * y0 + x1 * y1 + x2 * y2 - 16777216) = false := decide_eq_false g2
            have HY := Lib.hid (HN.out.2 (HNE.out.2 ⟨by omega, by omega⟩))
            go_wp2
            go_roundw
            case rel => exact ⟨k + 1, by omega, by go_num, Lib.hid (fun j hj => by
              by_cases e : j = k
              · subst e; exact HY.out
              · exact hs.out j (by omega)), hq.on _⟩
            case measure => simp [intOf]; omega
      · have q : ((r : Int) == (c : Int)) = false := by simp; omega
        have q' : ((r : Int) == (k : Int) % 3) = false := by rw [j2]; exact q
        have HNE := Lib.hid (show nearV m t r c ↔ -32768 ≤ x0 * y0 + x1 * y1 + x2 * y2 ∧ x0 * y0 + x1 * y1 + x2 * y2 ≤ 32768 by unfold nearV; rw [HP.out, if_neg hrc, Int.sub_zero])
        clear hr hc hrc
        go_wp2
        go_quiet (fail)
        clear j1 j2 n0 n1 n2 n3 n4 d0 d1 d2 e0 e1 e2
        by_cases g1 : x0 * y0 + x1 * y1 + x2 * y2 < -32768
        · have g1' : decide (x0 * y0 + x1 * y1 + x2 * y2 < -32768) = true := decide_eq_true g1
          go_wp2
          go_ret
          exact ⟨ret_bool (HF.out (fun h => by have := HNE.out.1 h; omega)).symm, hb.trans ((hq.on _).below _)⟩
        · have g1' : decide (x0 * y0 + x1 * y1 + x2 * y2 < -32768) = false := decide_eq_false g1
          by_cases g2 : 32768 < x0 * y0 + x1 * y1 + x2 * y2
          · have g2' : decide (32768 < x0 * y0 + x1 * y1 + x2 * y2) = true := decide_eq_true g2
            go_wp2
            go_ret
            exact ⟨ret_bool (HF.out (fun h => by have := HNE.out.1 h; omega)).symm, hb.trans ((hq.on _).below _)⟩
          · have g2' : decide (32768 < x0 * y0 + x1 * y1 + x2 * y2) = false := decide_eq_false g2
            have HY := Lib.hid (HN.out.2 (HNE.out.2 ⟨by omega, by omega⟩))
            go_wp2
            go_roundw
            case rel => exact ⟨k + 1, by omega, by go_num, Lib.hid (fun j hj => by
              by_cases e : j = k
              · subst e; exact HY.out
              · exact hs.out j (by omega)), hq.on _⟩
            case measure => simp [intOf]; omega
    · obtain rfl : k = 9 := by omega
      have HY := Lib.hid (invB_t hs.out)
      go_wp2
      go_ret
      exact ⟨ret_bool HY.out.symm, hb.trans (hq.below _)⟩

end Go.Proofs.Ytmilljlkcbljpaa

/- Valid. -/
namespace Go.Proofs.Ytmilljlkcbljpaa
open Go.RowKit Go.Sort

theorem index_c0 (x0 x1 x2 : Value) (w : World) : (Instr.index 60 (.agg #[x0, x1, x2]) (.int .i64 0)).run Try.prog w = .ok x0 w := by kernel_rfl
theorem index_c1 (x0 x1 x2 : Value) (w : World) : (Instr.index 60 (.agg #[x0, x1, x2]) (.int .i64 1)).run Try.prog w = .ok x1 w := by kernel_rfl
theorem index_c2 (x0 x1 x2 : Value) (w : World) : (Instr.index 60 (.agg #[x0, x1, x2]) (.int .i64 2)).run Try.prog w = .ok x2 w := by kernel_rfl
theorem index_cv (v : Nat → Value) (k : Nat) (hk : k < 3) (w : World) : (Instr.index 60 (.agg #[v 0, v 1, v 2]) (.int .i64 k)).run Try.prog w = .ok (v k) w := by
  obtain rfl | rfl | rfl : k = 0 ∨ k = 1 ∨ k = 2 := by omega
  · exact index_c0 _ _ _ w
  · exact index_c1 _ _ _ w
  · exact index_c2 _ _ _ w

/-- A valid space. -/
def SpV (n : Nat → Nat) (f : Nat → Nat → Int) (t m : Nat → Int) : Prop := (∀ i, i < 3 → Vld (n i) (f i)) ∧ Ent t ∧ Ent m ∧ Inv m t
open Classical in
noncomputable def spB (n : Nat → Nat) (f : Nat → Nat → Int) (t m : Nat → Int) : Bool := decide (SpV n f t m)
theorem spB_t {n : Nat → Nat} {f : Nat → Nat → Int} {t m : Nat → Int} (h : SpV n f t m) : spB n f t m = true := by simp [spB, h]
theorem spB_f {n : Nat → Nat} {f : Nat → Nat → Int} {t m : Nat → Int} (h : ¬ SpV n f t m) : spB n f t m = false := by simp [spB, h]
theorem of_spB {n : Nat → Nat} {f : Nat → Nat → Int} {t m : Nat → Int} (h : spB n f t m = true) : SpV n f t m := by simpa [spB] using h

set_option maxRecDepth 100000 in
set_option maxHeartbeats 4000000 in
theorem space_any {v : Nat → Value} {n : Nat → Nat} {f : Nat → Nat → Int} {t m : Nat → Int} {B : Nat} {w : World} (hB : B ≤ w.heap.size) (hc : Crv w B v n f) :
    Calls Try.prog 28 #[spc v t m] w fun e w' => e = .returned (.bool (spB n f t m)) ∧ Below w.heap.size w w' := by
  have t1 := Spb.new w v t m 63
  have hb := (Below.refl w.heap.size w).alloc (Nat.le_refl _) (.cells (spA v t m) 63)
  obtain ⟨w0, h0⟩ : ∃ w0, w.alloc (.cells (spA v t m) 63) = w0 := ⟨_, rfl⟩
  rw [h0] at t1 hb
  have T1 := Lib.hid t1
  have HC := Lib.hid hc
  have c0 := t1.curve 0 (by omega)
  have c1 := t1.curve 1 (by omega)
  have c2 := t1.curve 2 (by omega)
  have kw := Lib.hid (fun (m : Nat → Int) W => within_any (m := m) (w := W))
  have ki := Lib.hid (fun (m t : Nat → Int) (hm : Ent m) (ht : Ent t) W => inverse_any (w := W) hm ht)
  clear t1 hc
  unfold spA at h0
  unfold spc spA
  unfold mat at kw ki
  go_enter Try.func28, Try.ntmps28
  go_wp2
  clear h0 c0 c1 c2
  go_loopw [7] (fun i wr => ∃ k : Nat, k ≤ 3 ∧ i = .int .i64 k ∧ Hid (∀ j, j < k → Vld (n j) (f j)) ∧ Below w.heap.size w wr ∧ Spb 63 wr w.heap.size v t m) (fun i _ => 3 - (intOf i).toNat)
  case atStart => exact ⟨0, by omega, rfl, Lib.hid (fun j hj => by omega), hb, T1.out⟩
  case round =>
    obtain ⟨k, hk, rfl, hs, hq, t1⟩ := hrel
    have T2 := Lib.hid t1
    clear t1
    by_cases hlt : k < 3
    · have hix := index_cv v k hlt
      have HV := Lib.hid (HC.out k hlt)
      go_wp2_with fail
      refine (valid_any HV.out.1 (HV.out.2.below hq hB)).mono ?_
      rintro e w1 ⟨rfl, hd⟩
      have hb1 := hd.below wr.heap.size
      have hq1 := hq.trans (hb1.mono hq.size)
      have T3 := Lib.hid (T2.out.on hb1)
      clear hd hb1
      cases hV : vldB (n k) (f k) with
      | true =>
        have E := Lib.hid (of_vldB hV)
        clear hV
        go_wp2
        go_roundw
        case rel => exact ⟨k + 1, by omega, by go_num, Lib.hid (fun j hj => by
          by_cases e : j = k
          · subst e; exact E.out
          · exact hs.out j (by omega)), hq1, T3.out⟩
        case measure => simp [intOf]; omega
      | false =>
        have E := Lib.hid (spB_f (n := n) (f := f) (t := t) (m := m) fun h => by rw [vldB_t (h.1 k hlt)] at hV; cases hV)
        clear hV
        go_wp2
        go_ret
        exact ⟨ret_bool E.out.symm, hq1⟩
    · obtain rfl : k = 3 := by omega
      have s0 := T2.out.to 0 (by omega)
      have s1 := T2.out.to 1 (by omega)
      have s2 := T2.out.to 2 (by omega)
      have s3 := T2.out.to 3 (by omega)
      have s4 := T2.out.to 4 (by omega)
      have s5 := T2.out.to 5 (by omega)
      have s6 := T2.out.to 6 (by omega)
      have s7 := T2.out.to 7 (by omega)
      have s8 := T2.out.to 8 (by omega)
      go_wp2_with fail
      refine (kw.out t _).mono ?_
      rintro e w1 ⟨rfl, hb1⟩
      have hq1 := hq.trans (hb1.mono hq.size)
      have T3 := Lib.hid (T2.out.on hb1)
      clear s0 s1 s2 s3 s4 s5 s6 s7 s8
      clear hb1
      cases hE : entB t with
      | false =>
        have E := Lib.hid (spB_f (n := n) (f := f) (t := t) (m := m) fun h => by rw [entB_t h.2.1] at hE; cases hE)
        clear hE
        go_wp2
        go_ret
        exact ⟨ret_bool E.out.symm, hq1⟩
      | true =>
        have ET := Lib.hid (of_entB hE)
        clear hE
        have u0 := T3.out.fr 0 (by omega)
        have u1 := T3.out.fr 1 (by omega)
        have u2 := T3.out.fr 2 (by omega)
        have u3 := T3.out.fr 3 (by omega)
        have u4 := T3.out.fr 4 (by omega)
        have u5 := T3.out.fr 5 (by omega)
        have u6 := T3.out.fr 6 (by omega)
        have u7 := T3.out.fr 7 (by omega)
        have u8 := T3.out.fr 8 (by omega)
        go_wp2_with fail
        refine (kw.out m _).mono ?_
        rintro e w2 ⟨rfl, hb2⟩
        have hq2 := hq1.trans (hb2.mono hq1.size)
        have T4 := Lib.hid (T3.out.on hb2)
        clear u0 u1 u2 u3 u4 u5 u6 u7 u8
        clear hb2
        cases hE : entB m with
        | false =>
          have E := Lib.hid (spB_f (n := n) (f := f) (t := t) (m := m) fun h => by rw [entB_t h.2.2.1] at hE; cases hE)
          clear hE
          go_wp2
          go_ret
          exact ⟨ret_bool E.out.symm, hq2⟩
        | true =>
          have EM := Lib.hid (of_entB hE)
          clear hE
          have s0 := T4.out.to 0 (by omega)
          have s1 := T4.out.to 1 (by omega)
          have s2 := T4.out.to 2 (by omega)
          have s3 := T4.out.to 3 (by omega)
          have s4 := T4.out.to 4 (by omega)
          have s5 := T4.out.to 5 (by omega)
          have s6 := T4.out.to 6 (by omega)
          have s7 := T4.out.to 7 (by omega)
          have s8 := T4.out.to 8 (by omega)
          have u0 := T4.out.fr 0 (by omega)
          have u1 := T4.out.fr 1 (by omega)
          have u2 := T4.out.fr 2 (by omega)
          have u3 := T4.out.fr 3 (by omega)
          have u4 := T4.out.fr 4 (by omega)
          have u5 := T4.out.fr 5 (by omega)
          have u6 := T4.out.fr 6 (by omega)
          have u7 := T4.out.fr 7 (by omega)
          have u8 := T4.out.fr 8 (by omega)
          go_wp2_with fail
          refine (ki.out m t EM.out ET.out _).mono ?_
          rintro e w3 ⟨rfl, hb3⟩
          have hq3 := hq2.trans (hb3.mono hq2.size)
          clear s0 s1 s2 s3 s4 s5 s6 s7 s8 u0 u1 u2 u3 u4 u5 u6 u7 u8
          clear hb3
          have E := Lib.hid (show invB m t = spB n f t m from by
            by_cases h : Inv m t
            · rw [invB_t h, spB_t ⟨hs.out, ET.out, EM.out, h⟩]
            · rw [invB_f h, spB_f fun hh => h hh.2.2.2])
          go_wp2
          go_ret
          exact ⟨ret_bool E.out, hq3⟩

end Go.Proofs.Ytmilljlkcbljpaa

/- Chains. -/
namespace Go.Proofs.Ytmilljlkcbljpaa
open Go.RowKit Go.Sort

/-- A space: the curves as values, their points, the matrices. -/
structure Sp where
  v : Nat → Value
  n : Nat → Nat
  f : Nat → Nat → Int
  t : Nat → Int
  m : Nat → Int
def Sp.ok (s : Sp) (w : World) (B : Nat) : Prop := Crv w B s.v s.n s.f
def Sp.cells (s : Sp) : Array Value := spA s.v s.t s.m
noncomputable def Sp.val (s : Sp) : Bool := spB s.n s.f s.t s.m

/-- The cells of a row of spaces. -/
def SpCells (w : World) (b off n : Nat) (S : Nat → Sp) : Prop := ∀ k, k < n → ∀ j x, (S k).cells[j]? = some x → w.cell? ⟨b, off + k * 21 + j, none⟩ = some x
/-- A slice of n spaces. -/
def Chn (w : World) (B : Nat) (v : Value) (n : Nat) (S : Nat → Sp) : Prop :=
  (∀ k, k < n → (S k).ok w B) ∧ ((n = 0 ∧ ∃ a cap, v = .slice a 0 cap ∧ (a = none → cap = 0)) ∨ ∃ b off cap, v = .slice (some ⟨b, off, none⟩) n cap ∧ (b < B ∧ n ≤ cap) ∧ SpCells w b off n S)
theorem Sp.ok.below {s : Sp} {w w' : World} {B B' : Nat} (h : s.ok w B) (hb : Below B' w w') (hB : B ≤ B') : s.ok w' B := Crv.below h hb hB
theorem SpCells.below {w w' : World} {b off n B : Nat} {S : Nat → Sp} (h : SpCells w b off n S) (hb : Below B w w') (hB : b < B) : SpCells w' b off n S := fun k hk j x hx => (hb.cell (p := ⟨b, off + k * 21 + j, none⟩) hB).trans (h k hk j x hx)
theorem Chn.below {w w' : World} {B B' n : Nat} {v : Value} {S : Nat → Sp} (h : Chn w B v n S) (hb : Below B' w w') (hB : B ≤ B') : Chn w' B v n S := by
  refine ⟨fun k hk => (h.1 k hk).below hb hB, ?_⟩
  rcases h.2 with h | ⟨b, off, cap, h1, h2, h3⟩
  · exact .inl h
  · exact .inr ⟨b, off, cap, h1, h2, h3.below hb (by omega)⟩
theorem Chn.at {w : World} {B n : Nat} {v : Value} {S : Nat → Sp} (h : Chn w B v n S) (hn : 1 ≤ n) : ∃ b off cap, v = .slice (some ⟨b, off, none⟩) n cap ∧ b < B ∧ SpCells w b off n S := by
  rcases h.2 with ⟨rfl, _⟩ | ⟨b, off, cap, h1, h2, h3⟩
  · omega
  · exact ⟨b, off, cap, h1, h2.1, h3⟩
theorem Chn.shape {w : World} {B n : Nat} {v : Value} {S : Nat → Sp} (h : Chn w B v n S) : ∃ a cap, v = .slice a n cap := by
  rcases h.2 with ⟨rfl, a, cap, h, _⟩ | ⟨b, off, cap, h, _⟩
  · exact ⟨a, cap, h⟩
  · exact ⟨_, cap, h⟩

set_option maxRecDepth 100000 in
/-- A load of a whole array or struct. -/
theorem load_cells {w : World} {b off : Nat} {ty : TypeId} {cs : Array Value} {d : TypeDesc} (hu : Try.prog.underlying ty = some d) (hd : (match d with | .struct _ | .array _ _ => true | _ => false) = true) (hi : (Try.prog.info? ty).map (·.size) = some cs.size)
    (h : ∀ (j : Nat) (x : Value), cs[j]? = some x → w.cell? ⟨b, off + j, none⟩ = some x) : (loadVar ty ⟨b, off, none⟩).run Try.prog w = .ok (.agg cs) w := by
  have hl : (loadCells ⟨b, off, none⟩ cs.toList.length).run Try.prog w = .ok cs.toList.toArray w :=
    run_loadCells_list (P := Try.prog) w ⟨b, off, none⟩ cs.toList (fun j x hx => by
      have hadd : (⟨b, off, none⟩ : Addr).add j = ⟨b, off + j, none⟩ := by unfold Addr.add; split <;> simp_all
      rw [hadd]
      exact h j x (by simpa using hx))
  cases hq : Try.prog.info? ty with
  | none => simp [hq] at hi
  | some i =>
    have hs : i.size = cs.size := by simpa [hq] using hi
    have hagg : (isAgg ty).run Try.prog w = .ok true w := by
      unfold isAgg
      rw [Sem.run_bind, run_underlying hu w]
      cases d <;> simp_all
    simp only [Array.length_toList, Array.toArray_toList] at hl
    simp [loadVar, Sem.run_bind, hagg, sizeOf, typeInfo, hq, hs, hl]
/-- .. as an operation of a walk. -/
theorem list_load {ops : Array Oper} {rest : List Oper} {o : Oper} {a : Act} {w : World} {Q : Exit → Act → World → Prop} (hgd : o.guard = none) (ty : TypeId) (x : Operand) (ho : o.op = .load ty x) {b off : Nat} {cs : Array Value}
    (hx : a.eval x = .pointer (some ⟨b, off, none⟩)) (hl : (loadVar ty ⟨b, off, none⟩).run Try.prog w = .ok (.agg cs) w) (h : wpList Try.prog ops Q rest (a.put o.dst (.agg cs)) w) : wpList Try.prog ops Q (o :: rest) a w :=
  wpList_plain hgd fun _ hK => by
    unfold Oper.wp execOp
    simp only [ho, hx, Instr.loadAt, Instr.sureAddr, Sem.run_bind, Sem.run_pure, Result.andThen_ok, hl]
    exact hK _ _ h
theorem info_space : (Try.prog.info? 63).map (·.size) = some 21 := by kernel_rfl
theorem Sp.load {s : Sp} {w : World} {b off : Nat} (h : ∀ j x, s.cells[j]? = some x → w.cell? ⟨b, off + j, none⟩ = some x) : (loadVar 63 ⟨b, off, none⟩).run Try.prog w = .ok (.agg s.cells) w :=
  load_cells Try.underlying63 rfl info_space h
theorem Sp.load0 {s : Sp} {w : World} {b : Nat} {ty : TypeId} (h : Spb ty w b s.v s.t s.m) : (loadVar 63 ⟨b, 0, none⟩).run Try.prog w = .ok (.agg s.cells) w :=
  Sp.load fun j x hx => by rw [Nat.zero_add, cell_of_row w b j _ _ _ h]; exact hx

set_option maxRecDepth 100000 in
set_option maxHeartbeats 400000 in
theorem check1_any {s : Sp} {B : Nat} {w : World} (hB : B ≤ w.heap.size) (hs : s.ok w B) :
    Calls Try.prog 80 #[.agg s.cells] w fun e w' => e = .returned (.bool (!s.val)) ∧ Below w.heap.size w w' := by
  have t1 := Spb.new w s.v s.t s.m 63
  have hb := (Below.refl w.heap.size w).alloc (Nat.le_refl _) (.cells s.cells 63)
  obtain ⟨w0, h0⟩ : ∃ w0, w.alloc (.cells s.cells 63) = w0 := ⟨_, rfl⟩
  rw [show w.alloc (.cells (spA s.v s.t s.m) 63) = w0 from h0] at t1
  rw [h0] at hb
  have kv := Lib.hid (space_any (v := s.v) (n := s.n) (f := s.f) (t := s.t) (m := s.m) (w := w0) (B := B) (Nat.le_trans hB hb.size) (Crv.below hs hb hB))
  have hl := Sp.load0 (s := s) t1
  clear t1
  go_enter Try.func80, Try.ntmps80
  go_wp2_with (refine list_load rfl _ _ rfl rfl hl ?_)
  refine kv.out.mono ?_
  rintro e w1 ⟨rfl, hb1⟩
  have hq := hb.trans (hb1.mono hb.size)
  clear h0 hb1 hl
  cases hV : spB s.n s.f s.t s.m with
  | true =>
    have E := Lib.hid (show s.val = true from hV)
    clear hV
    go_wp2
    go_ret
    exact ⟨ret_bool (by rw [E.out]; rfl), hq⟩
  | false =>
    have E := Lib.hid (show s.val = false from hV)
    clear hV
    go_wp2
    go_ret
    exact ⟨ret_bool (by rw [E.out]; rfl), hq⟩

set_option maxRecDepth 100000 in
set_option maxHeartbeats 1000000 in
theorem index_check {n b off cap B : Nat} {S : Nat → Sp} {w : World} (hn : n ≤ 4096) (hB : B ≤ w.heap.size) (hb : b < B) (hc : SpCells w b off n S) (hok : ∀ k, k < n → (S k).ok w B) :
    Calls Try.prog 104 #[.slice (some ⟨b, off, none⟩) n cap, .func (.func 80) #[] #[]] w (Idx (anyB n fun i => !(S i).val) w) := by
  have HOK := Lib.hid hok
  clear hok
  go_enter Try.func104, Try.ntmps104
  go_wp2
  go_loopw [8] (fun i wr => ∃ k : Nat, k ≤ n ∧ i = .int .i64 k ∧ Hid (∀ j, j < k → (!(S j).val) = false) ∧ Below w.heap.size w wr) (fun i _ => n - (intOf i).toNat)
  case atStart => exact ⟨0, by omega, rfl, Lib.hid (fun j hj => by omega), Below.refl _ _⟩
  case round =>
    obtain ⟨k, hk, rfl, hs, hq⟩ := hrel
    by_cases hlt : k < n
    · have hck := hc.below hq (by omega) k hlt
      have i1 : 0 ≤ (k : Int) ∧ (k : Int) < n := by omega
      have kc := Lib.hid (check1_any (s := S k) (w := wr) (Nat.le_trans hB hq.size) ((HOK.out k hlt).below hq hB))
      have hl := Sp.load (s := S k) (w := wr) (b := b) (off := off + k * 21) hck
      clear hck
      go_wp2_with (refine list_load rfl _ _ rfl rfl hl ?_)
      refine kc.out.mono ?_
      rintro e w' ⟨rfl, hd⟩
      have hq' := hq.trans (hd.mono hq.size)
      clear hd hl
      cases hV : (S k).val with
      | false =>
        have E := Lib.hid (anyB_t (p := fun i => !(S i).val) hlt (by simp [hV]))
        clear hV
        go_wp2
        go_ret
        exact ⟨k, rfl, by rw [E.out]; exact decide_eq_true (by omega), hq'⟩
      | true =>
        have E := Lib.hid (show (!(S k).val) = false by rw [hV]; rfl)
        clear hV
        go_wp2
        go_roundw
        case rel => exact ⟨k + 1, by omega, by go_num, Lib.hid (fun j hj => by
          by_cases e : j = k
          · subst e; exact E.out
          · exact hs.out j (by omega)), hq'⟩
        case measure => simp [intOf]; omega
    · obtain rfl : k = n := by omega
      have E := Lib.hid (anyB_f (p := fun i => !(S i).val) hs.out)
      go_wp2
      go_ret
      exact ⟨-1, rfl, by rw [E.out]; rfl, hq⟩

set_option maxHeartbeats 400000 in
theorem contains_check {n b off cap B : Nat} {S : Nat → Sp} {w : World} (hn : n ≤ 4096) (hB : B ≤ w.heap.size) (hb : b < B) (hc : SpCells w b off n S) (hok : ∀ k, k < n → (S k).ok w B) :
    Calls Try.prog 79 #[.slice (some ⟨b, off, none⟩) n cap, .func (.func 80) #[] #[]] w fun e w' => e = .returned (.bool (anyB n fun i => !(S i).val)) ∧ Below w.heap.size w w' := by
  have HI := Lib.hid (index_check (cap := cap) hn hB hb hc hok)
  clear hc hok
  go_enter Try.func79, Try.ntmps79
  go_wp2_with fail
  refine HI.out.mono ?_
  rintro e w' ⟨k, rfl, hk, hq⟩
  have E := Lib.hid hk
  clear hk
  go_wp2
  go_ret
  exact ⟨ret_bool E.out, hq⟩

/-- The error of a chain. -/
noncomputable def chkV (n : Nat) (S : Nat → Sp) : Int := if n = 0 then 1 else if 8 < n then 2 else bif anyB n fun i => !(S i).val then 23 else 0
theorem chkV_0 {n : Nat} {S : Nat → Sp} (h : n = 0) : chkV n S = 1 := if_pos h
theorem chkV_8 {n : Nat} {S : Nat → Sp} (h : 8 < n) : chkV n S = 2 := by unfold chkV; rw [if_neg (by omega), if_pos h]
theorem chkV_t {n : Nat} {S : Nat → Sp} (h : n ≠ 0) (h' : n ≤ 8) (ha : anyB n (fun i => !(S i).val) = true) : chkV n S = 23 := by unfold chkV; rw [if_neg h, if_neg (by omega), ha]; rfl
theorem chkV_f {n : Nat} {S : Nat → Sp} (h : n ≠ 0) (h' : n ≤ 8) (ha : anyB n (fun i => !(S i).val) = false) : chkV n S = 0 := by unfold chkV; rw [if_neg h, if_neg (by omega), ha]; rfl
theorem chkV_ok {n : Nat} {S : Nat → Sp} (h : chkV n S = 0) : n ≠ 0 ∧ n ≤ 8 ∧ ∀ k, k < n → (S k).val = true := by
  by_cases h0 : n = 0
  · rw [chkV_0 h0] at h; cases h
  · by_cases h8 : 8 < n
    · rw [chkV_8 h8] at h; cases h
    · cases e : anyB n (fun i => !(S i).val) with
      | true => rw [chkV_t h0 (by omega) e] at h; cases h
      | false => exact ⟨h0, by omega, fun k hk => by have := of_anyB_f e k hk; simpa using this⟩
theorem chkV_is {n : Nat} {S : Nat → Sp} (h0 : n ≠ 0) (h8 : n ≤ 8) (h : ∀ k, k < n → (S k).val = true) : chkV n S = 0 :=
  chkV_f h0 h8 (anyB_f fun k hk => by rw [h k hk]; rfl)

set_option maxHeartbeats 1000000 in
theorem check_any {n B : Nat} {v : Value} {S : Nat → Sp} {w : World} (hn : n ≤ 9223372036854775807) (hB : B ≤ w.heap.size) (hc : Chn w B v n S) :
    Calls Try.prog 46 #[v] w fun e w' => e = .returned (.int .i64 (chkV n S)) ∧ Below w.heap.size w w' := by
  by_cases h0 : n = 0
  · obtain ⟨a, cap, rfl⟩ := hc.shape
    have E := Lib.hid (chkV_0 (S := S) h0)
    have d0 : ((n : Int) == 0) = true := by simp [h0]
    clear hc h0
    go_enter Try.func46, Try.ntmps46
    go_wp2
    go_ret
    exact ⟨ret_int E.out.symm, Below.refl _ _⟩
  · have d0 : ((n : Int) == 0) = false := by simp; omega
    by_cases h8 : 8 < n
    · obtain ⟨a, cap, rfl⟩ := hc.shape
      have E := Lib.hid (chkV_8 (S := S) h8)
      have d1 : decide ((8 : Int) < (n : Int)) = true := decide_eq_true (by omega)
      clear hc
      go_enter Try.func46, Try.ntmps46
      go_wp2
      go_ret
      exact ⟨ret_int E.out.symm, Below.refl _ _⟩
    · obtain ⟨b, off, cap, rfl, hb, hcs⟩ := hc.at (by omega)
      have d1 : decide ((8 : Int) < (n : Int)) = false := decide_eq_false (by omega)
      have HI := Lib.hid (contains_check (cap := cap) (by omega) hB hb hcs hc.1)
      clear hcs hc
      go_enter Try.func46, Try.ntmps46
      go_wp2_with fail
      refine HI.out.mono ?_
      rintro e w' ⟨rfl, hq⟩
      cases ha : anyB n (fun i => !(S i).val) with
      | true =>
        have E := Lib.hid (chkV_t h0 (by omega) ha)
        clear ha
        go_wp2
        go_ret
        exact ⟨ret_int E.out.symm, hq⟩
      | false =>
        have E := Lib.hid (chkV_f h0 (by omega) ha)
        clear ha
        go_wp2
        go_ret
        exact ⟨ret_int E.out.symm, hq⟩

end Go.Proofs.Ytmilljlkcbljpaa

/- convert. -/
namespace Go.Proofs.Ytmilljlkcbljpaa
open Go.RowKit Go.Sort

/-- A load of a whole array or struct in a region that is walked quietly. -/
theorem quiet_load {C : World → Prop} {K : Act → Prop} {a : Act} {o : Oper} {ty : TypeId} (x : Operand) (h : o.op = .load ty x) {b off : Nat} {cs : Array Value} (hx : a.eval x = .pointer (some ⟨b, off, none⟩))
    (hl : ∀ w, C w → (loadVar ty ⟨b, off, none⟩).run Try.prog w = .ok (.agg cs) w) (hk : K (a.put o.dst (.agg cs))) : o.quiet Try.prog a C K :=
  ⟨_, fun w hw => by
    unfold Oper.quietAt execOp
    simp only [h, hx, Instr.loadAt, Instr.sureAddr, Sem.run_bind, Sem.run_pure, Result.andThen_ok, hl w hw]
    exact ⟨rfl, rfl⟩, hk⟩

theorem Crv.mono {w : World} {B B' : Nat} {v : Nat → Value} {n : Nat → Nat} {f : Nat → Nat → Int} (h : Crv w B v n f) (hB : B ≤ B') : Crv w B' v n f := fun i hi => ⟨(h i hi).1, (h i hi).2.mono hB⟩
noncomputable def Sp.to (s : Sp) (c : Nat → Int) : Nat → Int := toV s.n s.f s.t c
noncomputable def Sp.fr (s : Sp) (c : Nat → Int) : Nat → Int := fromV s.n s.f s.m c
theorem Sp.spv {s : Sp} (h : s.val = true) : SpV s.n s.f s.t s.m := of_spB h
theorem Sp.to_any {s : Sp} {c : Nat → Int} {B : Nat} {w : World} (hB : B ≤ w.heap.size) (hs : s.ok w B) (hv : s.val = true) :
    Calls Try.prog 66 #[.agg s.cells, col c] w fun e w' => e = .returned (col (s.to c)) ∧ Below w.heap.size w w' :=
  Go.Proofs.Ytmilljlkcbljpaa.to_any (v := s.v) (m := s.m) (Crv.mono hs hB) (Sp.spv hv).2.1
theorem Sp.from_any {s : Sp} {c : Nat → Int} {B : Nat} {w : World} (hB : B ≤ w.heap.size) (hs : s.ok w B) (hv : s.val = true) :
    Calls Try.prog 68 #[.agg s.cells, col c] w fun e w' => e = .returned (col (s.fr c)) ∧ Below w.heap.size w w' :=
  Go.Proofs.Ytmilljlkcbljpaa.from_any (v := s.v) (t := s.t) (Crv.mono hs hB) (Sp.spv hv).2.2.1

/-- A colour after k steps along a chain. -/
noncomputable def cnv (S : Nat → Sp) (c : Nat → Int) : Nat → Nat → Int
  | 0 => c
  | k + 1 => (S (k + 1)).fr ((S k).to (cnv S c k))

theorem Chn.cells {w : World} {B n : Nat} {v : Value} {S : Nat → Sp} (h : Chn w B v n S) (hn : 1 ≤ n) : ∃ b off cap, v = .slice (some ⟨b, off, none⟩) n cap ∧ b < B ∧ SpCells w b off n S := h.at hn

set_option maxRecDepth 100000 in
set_option maxHeartbeats 4000000 in
theorem convert_some {n b off cap B : Nat} {S : Nat → Sp} {c : Nat → Int} {w : World} (hn1 : 1 ≤ n) (hn : n ≤ 4096) (hB : B ≤ w.heap.size) (hb : b < B) (hc : SpCells w b off n S) (hok : ∀ k, k < n → (S k).ok w B) (hv : ∀ k, k < n → (S k).val = true) :
    Calls Try.prog 52 #[.slice (some ⟨b, off, none⟩) n cap, col c] w fun e w' => e = .returned (col (cnv S c (n - 1))) ∧ Below w.heap.size w w' := by
  obtain ⟨w0, h0, hb0, hz, t1, t2⟩ := gamut_new w c 28
  have T1 := Lib.hid t1
  have T2 := Lib.hid t2
  have Z := Lib.hid hz
  have HC := Lib.hid hc
  have HOK := Lib.hid hok
  have HV := Lib.hid hv
  clear t1 t2 hz hc hok hv
  unfold col
  go_enter Try.func52, Try.ntmps52
  go_wp2
  clear h0
  go_loopw [5] (fun i wr => ∃ k : Nat, k < n ∧ i = .int .i64 ((k : Int) + 1) ∧ Tri 28 wr w.heap.size (cnv S c k) ∧ Tri 28 wr (w.heap.size + 1) (fun _ => 0) ∧ Below w.heap.size w wr) (fun i _ => n - (intOf i).toNat)
  case atStart => exact ⟨0, by omega, rfl, T1.out, T2.out, hb0⟩
  case round =>
    obtain ⟨k, hk, rfl, t1, t2, hq⟩ := hrel
    by_cases hlt : k + 1 < n
    · have hBw := Nat.le_trans hB hq.size
      have kt := Lib.hid (Calls.grown_of (w := wr) (f := 66) fun W hW => Sp.to_any (s := S k) (c := cnv S c k) (w := W) (Nat.le_trans hBw hW.size) ((HOK.out k hk).below (hq.trans (hW.mono hq.size)) hB) (HV.out k hk))
      have kf := Lib.hid (Calls.grown_of (w := wr) (f := 68) fun W hW => Sp.from_any (s := S (k + 1)) (c := (S k).to (cnv S c k)) (w := W) (Nat.le_trans hBw hW.size) ((HOK.out (k + 1) hlt).below (hq.trans (hW.mono hq.size)) hB) (HV.out (k + 1) hlt))
      have hl1 : ∀ w', (∃ p : Regrown, w' = grow (redrawn wr p.d) p.os) → (loadVar 63 ⟨b, off + k * 21, none⟩).run Try.prog w' = .ok (.agg (S k).cells) w' := fun w' hw' => Sp.load (s := S k) (HC.out.below (hq.trans ((below_of_regrown hw').mono hq.size)) (by omega) k hk)
      have hl2 : ∀ w', (∃ p : Regrown, w' = grow (redrawn wr p.d) p.os) → (loadVar 63 ⟨b, off + (k + 1) * 21, none⟩).run Try.prog w' = .ok (.agg (S (k + 1)).cells) w' := fun w' hw' => Sp.load (s := S (k + 1)) (HC.out.below (hq.trans ((below_of_regrown hw').mono hq.size)) (by omega) (k + 1) hlt)
      have L1 := Lib.hid hl1
      have L2 := Lib.hid hl2
      have d0 := cell_regrown t1.c0
      have d1 := cell_regrown t1.c1
      have d2 := cell_regrown t1.c2
      have P1 := Lib.hid t1
      have P2 := Lib.hid t2
      have i1 : 0 ≤ (k : Int) ∧ (k : Int) < n := by omega
      have i2 : 0 ≤ (k : Int) + 1 ∧ (k : Int) + 1 < n := by omega
      have w1 : IntKind.i64.wrap (k : Int) = k := IntWalk.i64_in _ (by omega)
      have dl : decide ((k : Int) + 1 < n) = true := decide_eq_true (by omega)
      unfold col at kt kf
      clear hl1 hl2 t1 t2
      go_wp2
      refine region_below_tail 12 (by kernel_rfl) (by kernel_rfl) ?_
      simp only [List.take_succ_cons, List.take_zero, List.drop_succ_cons, List.drop_zero]
      repeat (first | (go_big_quiet_want; refine quiet_load _ rfl rfl L1.out ?_; go_simp; go_big_quiet_on) | (go_big_quiet_want; refine quiet_load _ rfl rfl L2.out ?_; go_simp; go_big_quiet_on) | go_big_quiet_step ((first | exact kt.out _ _ | exact kf.out _ _)))
      refine wpQuiet_nil ?_
      intro w2 hw2
      replace hw2 := below_of_regrown hw2
      have u1 := P1.out.on hw2
      have x0 := u1.c0
      have x1 := u1.c1
      have x2 := u1.c2
      have y0 := u1.free 0
      have y1 := u1.free 1
      have y2 := u1.free 2
      have U1 := Lib.hid (u1.set3 ((S (k + 1)).fr ((S k).to (cnv S c k))))
      have U2 := Lib.hid (P2.out.on hw2)
      have hq2 := hq.trans (hw2.mono hq.size)
      clear u1 hw2 d0 d1 d2 w1 dl
      go_wp2
      go_roundw
      case rel => exact ⟨k + 1, hlt, by go_num, U1.out, ((U2.out.keep (by omega)).keep (by omega)).keep (by omega), set3_below hq2 (by omega) _ _ _⟩
      case measure => simp [intOf]; omega
    · obtain rfl : n = k + 1 := by omega
      have x0 := t1.c0
      have x1 := t1.c1
      have x2 := t1.c2
      have z0 := t2.c0
      have z1 := t2.c1
      have z2 := t2.c2
      have y0 := t2.free 0
      have y1 := t2.free 1
      have y2 := t2.free 2
      clear t1 t2
      go_wp2
      refine bodyPost_ret (v := .agg #[.int .i64 (cnv S c k 0), .int .i64 (cnv S c k 1), .int .i64 (cnv S c k 2)]) (by simp [results, Try.results52, go_sem, *]) rfl ?_
      exact ⟨rfl, set3_below hq (by simp) _ _ _⟩

theorem convert_any {n B : Nat} {v : Value} {S : Nat → Sp} {c : Nat → Int} {w : World} (hn1 : 1 ≤ n) (hn : n ≤ 4096) (hB : B ≤ w.heap.size) (hc : Chn w B v n S) (hv : ∀ k, k < n → (S k).val = true) :
    Calls Try.prog 52 #[v, col c] w fun e w' => e = .returned (col (cnv S c (n - 1))) ∧ Below w.heap.size w w' := by
  obtain ⟨b, off, cap, rfl, hb, hcs⟩ := hc.at hn1
  exact convert_some hn1 hn hB hb hcs hc.1 hv

end Go.Proofs.Ytmilljlkcbljpaa

/- A region that draws its order: some operations taken in a given order, quiet in a class of worlds; the rest forced, one by one. -/
namespace Go.Proofs.Ytmilljlkcbljpaa
open Go.RowKit Go.Sort
variable {P : Program} {ops : Array Oper} {md : Region.Mode} {C : World → Prop}

/-- Each of the first waits for a later one of the list, or the end waits for it. -/
def sinkL (md : Region.Mode) (ops : Array Oper) (t : Nat) : List Nat → Bool
  | [] => true
  | i :: hd => ((hd ++ [t]).any fun j => Region.waitsFor md ops j i) && sinkL md ops t hd
def chainL (md : Region.Mode) (ops : Array Oper) : Nat → List Nat → Bool
  | _, [] => true
  | t, u :: tl => Region.waitsFor md ops u t && chainL md ops u tl
def seqL (md : Region.Mode) (ops : Array Oper) : List Nat → Array Bool → Bool
  | [], listed => (Region.ready md ops listed).isEmpty
  | t :: tl, listed => decide (Region.ready md ops listed = [t]) && seqL md ops tl (listed.setIfInBounds t true)
def headL (md : Region.Mode) (ops : Array Oper) (tl : List Nat) : List Nat → Array Bool → Bool
  | [], listed => seqL md ops tl listed
  | i :: hd, listed => (Region.ready md ops listed).contains i && Region.free md ops listed i && headL md ops tl hd (listed.setIfInBounds i true)
/-- What is listed has what it waits for listed. -/
def closedL (md : Region.Mode) (ops : Array Oper) (listed : Array Bool) : Bool :=
  (List.range ops.size).all fun j => !listed.getD j false || match ops[j]? with | some o => o.after.all (fun e => !Region.binds md e || listed.getD e.on false) | none => true
def orderB (md : Region.Mode) (ops : Array Oper) (listed : Array Bool) (hd : List Nat) (t : Nat) (tl : List Nat) : Bool :=
  Region.noSelect ops && sinkL md ops t hd && chainL md ops t tl && closedL md ops listed && decide (listed.size = ops.size) &&
  ((List.range ops.size).all fun j => listed.getD j true || hd.contains j || (t :: tl).contains j) && ((t :: tl).all fun j => !listed.getD j true) && ((t :: tl).all fun j => !hd.contains j) && headL md ops (t :: tl) hd listed

structure OrdInv (md : Region.Mode) (ops : Array Oper) (hd tl : List Nat) (listed : Array Bool) : Prop where
  size : listed.size = ops.size
  closed : ∀ j oj, ops[j]? = some oj → listed.getD j false = true → ∀ e ∈ oj.after, Region.binds md e = true → listed.getD e.on false = true
  tail : ∀ t ∈ tl, listed.getD t true = false
  all : ∀ j, j < ops.size → listed.getD j true = false → j ∈ hd ∨ j ∈ tl

theorem OrdInv.set {hd tl : List Nat} {i : Nat} {listed : Array Bool} (inv : OrdInv md ops hd tl listed) (hi : i ∈ Region.ready md ops listed) (hin : i ∉ tl) : OrdInv md ops hd tl (listed.setIfInBounds i true) := by
  obtain ⟨_, oi, hoi, hall⟩ := mem_ready.1 hi
  refine ⟨by simp [inv.size], fun j oj hj hl e he hb => ?_, fun t ht => ?_, fun j hj hun => ?_⟩
  · by_cases hij : i = j
    · subst hij
      have : oj = oi := Option.some.inj (hj.symm.trans hoi)
      subst this
      exact getD_set_true (hall e he hb)
    · rw [getD_set_ne false hij] at hl
      exact getD_set_true (inv.closed j oj hj hl e he hb)
  · rw [getD_set_ne true (i := i) (j := t) (fun e : i = t => hin (by rw [e]; exact ht))]; exact inv.tail t ht
  · by_cases hij : i = j
    · subst hij
      have : i < listed.size := by rw [inv.size]; exact hj
      simp [this] at hun
    · rw [getD_set_ne true hij] at hun
      exact inv.all j hj hun

theorem tail_waits0 {t : Nat} {hd' tl' : List Nat} {listed : Array Bool} (inv : OrdInv md ops hd' tl' listed) : ∀ (hd : List Nat), sinkL md ops t hd = true → ∀ i ∈ hd, listed.getD i true = false → t ∉ Region.ready md ops listed
  | [], _, i, hi, _, _ => by cases hi
  | k :: hd, hs, i, hi, hun, hr => by
    simp only [sinkL, Bool.and_eq_true] at hs
    rcases List.mem_cons.1 hi with rfl | hi
    · obtain ⟨j, hj, hw⟩ := List.any_eq_true.1 hs.1
      obtain ⟨oj, hoj, e, he, hb, hon⟩ := Region.waitsFor_spec hw
      rcases List.mem_append.1 hj with hj | hj
      · cases hl : listed.getD j false with
        | true =>
          have h2 := inv.closed j oj hoj hl e he hb
          rw [hon, getD_both hun] at h2
          cases h2
        | false =>
          have hjs : j < listed.size := by rw [inv.size]; exact (Array.getElem?_eq_some_iff.1 hoj).1
          exact tail_waits0 inv hd hs.2 j hj (getD_in hjs hl) hr
      · have hjt : j = t := by simpa using hj
        subst hjt
        obtain ⟨_, ot, hot, hall⟩ := mem_ready.1 hr
        have : oj = ot := Option.some.inj (hoj.symm.trans hot)
        subst this
        have h2 := hall e he hb
        rw [hon, getD_both hun] at h2
        cases h2
    · exact tail_waits0 inv hd hs.2 i hi hun hr

theorem tail_waits1 {listed : Array Bool} : ∀ (t : Nat) (tl : List Nat), chainL md ops t tl = true → (∀ u ∈ t :: tl, listed.getD u true = false) → ∀ u ∈ tl, u ∉ Region.ready md ops listed
  | _, [], _, _, u, hu, _ => by cases hu
  | t, k :: tl, hc, hun, u, hu, hr => by
    simp only [chainL, Bool.and_eq_true] at hc
    rcases List.mem_cons.1 hu with rfl | hu
    · obtain ⟨oj, hoj, e, he, hb, hon⟩ := Region.waitsFor_spec hc.1
      obtain ⟨_, ot, hot, hall⟩ := mem_ready.1 hr
      have : oj = ot := Option.some.inj (hoj.symm.trans hot)
      subst this
      have h2 := hall e he hb
      rw [hon, getD_both (hun t List.mem_cons_self)] at h2
      cases h2
    · exact tail_waits1 k tl hc.2 (fun v hv => hun v (List.mem_cons_of_mem _ hv)) u hu hr

theorem in_head {t : Nat} {hd tl : List Nat} {listed : Array Bool} (hs : sinkL md ops t hd = true) (hc : chainL md ops t tl = true) (inv : OrdInv md ops hd (t :: tl) listed) {i : Nat} (hi : i ∈ hd) (hun : listed.getD i true = false)
    {j : Nat} (hj : j ∈ Region.ready md ops listed) : j ∉ t :: tl := fun h => by
  rcases List.mem_cons.1 h with rfl | h
  · exact tail_waits0 inv hd hs i hi hun hj
  · exact tail_waits1 t tl hc inv.tail j h hj

def headO (P : Program) (md : Region.Mode) (ops : Array Oper) (C : World → Prop) (tl : List Nat) (L : Array Bool → Act → Prop) : Nat → Array Bool → Act → Prop
  | 0, listed, a => L listed a
  | f + 1, listed, a => Region.ready md ops listed ≠ [] ∧ ∀ i ∈ Region.ready md ops listed, i ∉ tl ∧ qOp P ops C i (headO P md ops C tl L f (listed.setIfInBounds i true)) a

theorem any_of_headO {tl : List Nat} {g : Nat} {L : Array Bool → Act → Prop} {Q' : Exit → Act → World → Prop} (hL : ∀ listed a w, C w → L listed a → wpAny P md ops Q' g listed a w) :
    ∀ (f : Nat) (listed : Array Bool) (a : Act) (w : World), C w → headO P md ops C tl L f listed a → wpAny P md ops Q' (f + g) listed a w
  | 0, _, _, _, hw, h => by rw [Nat.zero_add]; exact hL _ _ _ hw h
  | f + 1, listed, a, w, hw, h => by
    rw [show f + 1 + g = (f + g) + 1 by omega]
    exact ⟨fun h0 => absurd h0 h.1, fun i hi => wpOp_of_qOp hw (fun a' w' hw' h' => any_of_headO hL f _ a' w' hw' h') (h.2 i hi).2⟩

theorem headO_first {t : Nat} {hd tl : List Nat} {i : Nat} {oi : Oper} {v : Value} {L : Array Bool → Act → Prop} (hi : ops[i]? = some oi) (hsel : ∀ (j : Nat) (o : Oper) cs b, ops[j]? = some o → o.op ≠ .select cs b)
    (hs : sinkL md ops t hd = true) (hc : chainL md ops t tl = true) (hin : i ∈ hd) (hdone : ∀ listed a, L listed a → ∀ j ∈ Region.ready md ops listed, j ∈ t :: tl) :
    ∀ (f : Nat) (listed : Array Bool) (a : Act), OrdInv md ops hd (t :: tl) listed →
      (∀ j oj, ops[j]? = some oj → j ≠ i → listed.getD j true = false → (∀ e ∈ oj.after, Region.binds md e = true → e.on ≠ i) → oi.apart ops oj = true) →
      i ∈ Region.ready md ops listed → YieldsIn P ops C oi v a → headO P md ops C (t :: tl) L f (listed.setIfInBounds i true) (a.put oi.dst v) → headO P md ops C (t :: tl) L (f + 1) listed a := by
  intro f
  induction f with
  | zero =>
    intro listed a inv _ hr hy H
    have hun := (mem_ready.1 hr).1
    refine ⟨fun h => (by rw [h] at hr; cases hr), fun j hj => ?_⟩
    have hjn := in_head hs hc inv hin hun hj
    refine ⟨hjn, ?_⟩
    by_cases hji : j = i
    · subst hji; exact hy.qOp hi H
    · exact absurd (hdone _ _ H j (ready_mono hj hji)) hjn
  | succ f ih =>
    intro listed a inv hfree hr hy H
    have hun := (mem_ready.1 hr).1
    refine ⟨fun h => (by rw [h] at hr; cases hr), fun j hj => ?_⟩
    have hjn := in_head hs hc inv hin hun hj
    refine ⟨hjn, ?_⟩
    by_cases hji : j = i
    · subst hji; exact hy.qOp hi H
    · have h1 := (H.2 j (ready_mono hj hji)).2
      obtain ⟨hjun, oj, hoj, hall⟩ := mem_ready.1 hj
      have hnot : ∀ e ∈ oj.after, Region.binds md e = true → e.on ≠ i := fun e he hb heq => by
        have h1 := hall e he hb
        rw [heq, getD_both hun] at h1
        cases h1
      have h2 := qOp_put hoj (hfree j oj hoj hji hjun hnot) (fun cs b => hsel i oi cs b hi) (fun cs b => hsel j oj cs b hoj) hy h1
      have hfree' : ∀ k ok, ops[k]? = some ok → k ≠ i → (listed.setIfInBounds j true).getD k true = false →
          (∀ e ∈ ok.after, Region.binds md e = true → e.on ≠ i) → oi.apart ops ok = true := fun k ok hk hki hun hno => by
        refine hfree k ok hk hki ?_ hno
        by_cases hjk : j = k
        · subst hjk; exact hjun
        · rw [getD_set_ne true hjk] at hun; exact hun
      refine qOp_mono (fun a' h3 => ih (listed.setIfInBounds j true) a' (inv.set hj hjn) hfree' (ready_mono hr (Ne.symm hji)) h3.1 ?_) h2
      rw [Array.setIfInBounds_comm _ _ hji]
      exact h3.2

theorem seqL_ready {t : Nat} {tl : List Nat} {listed : Array Bool} (h : seqL md ops (t :: tl) listed = true) : ∀ j ∈ Region.ready md ops listed, j ∈ t :: tl := by
  intro j hj
  simp only [seqL, Bool.and_eq_true, decide_eq_true_eq] at h
  rw [h.1] at hj
  have : j = t := by simpa using hj
  rw [this]; exact List.mem_cons_self

theorem headO_lex {t : Nat} {tl hd' : List Nat} {Lq : Act → Prop} (hsel : Region.noSelect ops = true) (hs : sinkL md ops t hd' = true) (hc : chainL md ops t tl = true) (hx : ∀ i ∈ hd', i ∉ t :: tl) :
    ∀ (hd : List Nat) (l : List Oper) (listed : Array Bool) (a : Act), hd.map (fun i => ops[i]?) = l.map some → (∀ i ∈ hd, i ∈ hd') → OrdInv md ops hd' (t :: tl) listed →
    headL md ops (t :: tl) hd listed = true → wpQuiet P ops C Lq l a → headO P md ops C (t :: tl) (fun listed' a' => seqL md ops (t :: tl) listed' = true ∧ Lq a') hd.length listed a
  | [], [], listed, a, _, _, _, hB, h => ⟨hB, h⟩
  | [], _ :: _, _, _, hm, _, _, _, _ => by simp at hm
  | _ :: _, [], _, _, hm, _, _, _, _ => by simp at hm
  | i :: hd, o :: l, listed, a, hm, hsub, inv, hB, h => by
    simp only [List.map_cons, List.cons.injEq] at hm
    obtain ⟨h0, hm⟩ := hm
    simp only [headL, Bool.and_eq_true] at hB
    obtain ⟨⟨hr, hf⟩, hB'⟩ := hB
    have hr' : i ∈ Region.ready md ops listed := by simpa using hr
    have hst : qOp P ops C i (wpQuiet P ops C Lq l) a := by unfold qOp; simp only [h0]; exact h
    obtain ⟨v, hy, hK⟩ := yieldsIn_of_qOp h0 hst
    have hi := hsub i List.mem_cons_self
    exact headO_first h0 (Region.noSelect_spec hsel) hs hc hi (fun listed' a' hL => seqL_ready hL.1) hd.length listed a inv (Region.free_spec h0 hf) hr' hy
      (headO_lex hsel hs hc hx hd l _ _ hm (fun j hj => hsub j (List.mem_cons_of_mem _ hj)) (inv.set hr' (hx i hi)) hB' hK)

theorem any_of_seqL {Q' : Exit → Act → World → Prop} : ∀ (tl : List Nat) (l : List Oper) (listed : Array Bool) (a : Act) (w : World), tl.map (fun i => ops[i]?) = l.map some →
    seqL md ops tl listed = true → wpList P ops Q' l a w → wpAny P md ops Q' tl.length listed a w
  | [], [], _, _, _, _, hB, h => ⟨by simpa [seqL] using hB, h⟩
  | [], _ :: _, _, _, _, hm, _, _ => by simp at hm
  | _ :: _, [], _, _, _, hm, _, _ => by simp at hm
  | t :: tl, o :: l, listed, a, w, hm, hB, h => by
    simp only [List.map_cons, List.cons.injEq] at hm
    obtain ⟨h0, hm⟩ := hm
    simp only [seqL, Bool.and_eq_true, decide_eq_true_eq] at hB
    refine ⟨fun h1 => (by rw [hB.1] at h1; cases h1), fun i hi => ?_⟩
    rw [hB.1] at hi
    have hik : i = t := by simpa using hi
    subst hik
    have hw : wpOp P ops Q' i (wpList P ops Q' l) a w := by unfold wpOp; simp only [h0]; exact h
    exact wpOp_mono (fun a' w' h' => any_of_seqL tl l _ a' w' hm hB.2 h') hw

theorem any_order {Q : Exit → Act → World → Prop} {a : Act} {w : World} {listed : Array Bool} (hd : List Nat) (t : Nat) (tl : List Nat) (hdo tlo : List Oper) (hh : hd.map (fun i => ops[i]?) = hdo.map some) (ht : (t :: tl).map (fun i => ops[i]?) = tlo.map some)
    (hB : orderB md ops listed hd t tl = true) (hC : C w) (h : wpQuiet P ops C (fun a' => ∀ w', C w' → wpList P ops Q tlo a' w') hdo a) : wpAny P md ops Q (hd.length + (t :: tl).length) listed a w := by
  simp only [orderB, Bool.and_eq_true, decide_eq_true_eq] at hB
  obtain ⟨⟨⟨⟨⟨⟨⟨⟨hsel, hs⟩, hc⟩, hcl⟩, hsz⟩, hall⟩, htl⟩, hx⟩, hlex⟩ := hB
  have inv0 : OrdInv md ops hd (t :: tl) listed := by
    refine ⟨hsz, fun j oj hj hl e he hb => ?_, fun u hu => ?_, fun j hj hun => ?_⟩
    · have h1 := List.all_eq_true.1 hcl j (List.mem_range.2 (Array.getElem?_eq_some_iff.1 hj).1)
      simp only [hl, Bool.not_true, Bool.false_or, hj] at h1
      have h2 := Array.all_eq_true_iff_forall_mem.1 h1 e he
      simpa [hb] using h2
    · have h1 := List.all_eq_true.1 htl u hu
      simpa using h1
    · have h1 := List.all_eq_true.1 hall j (List.mem_range.2 hj)
      simp only [hun, Bool.false_or, Bool.or_eq_true, List.contains_iff_mem] at h1
      exact h1
  have H := headO_lex (C := C) (P := P) hsel hs hc (fun i hi hi' => by
    have h1 := List.all_eq_true.1 hx i hi'
    simp only [Bool.not_eq_true', List.contains_eq_mem, decide_eq_false_iff_not] at h1
    exact h1 hi) hd hdo listed a hh (fun _ h => h) inv0 hlex h
  exact any_of_headO (Q' := Q) (g := (t :: tl).length) (fun listed' a' w' hw' hL => any_of_seqL (t :: tl) tlo listed' a' w' ht hL.1 (hL.2 w' hw')) _ _ _ _ hC H

end Go.Proofs.Ytmilljlkcbljpaa

/- A region that draws its order: quiet operations, one that acts but keeps the class of worlds, the rest forced. -/
namespace Go.Proofs.Ytmilljlkcbljpaa
open Go.RowKit Go.Sort
variable {P : Program} {ops : Array Oper} {md : Region.Mode} {C : World → Prop} {Q : Exit → Act → World → Prop}

theorem wpOp_putY {j : Nat} {oi oj : Oper} {v : Value} {Y : Act → Prop} (hj : ops[j]? = some oj) (hap : oi.apart ops oj = true)
    (hsj : ∀ cs b, oj.op ≠ .select cs b) (keep : ∀ (a : Act), Y a → ∀ u, Y (a.put oj.dst u)) (keepD : ∀ a d, Y a → Y { a with defers := d :: a.defers })
    (hQ : ∀ c a w, Q (.panic c) (a.put oi.dst v) w → Q (.panic c) a w) {K : Act → World → Prop} {a : Act} {w : World}
    (hy : Y a) (h : wpOp P ops Q j K (a.put oi.dst v) w) :
    wpOp P ops Q j (fun a' w' => Y a' ∧ K (a'.put oi.dst v) w') a w := by
  obtain ⟨h1, h2, h3⟩ := Oper.apart_spec hap
  unfold wpOp at *
  simp only [hj] at *
  rw [wanted_put oj a oi.dst v h1] at h
  split
  · rename_i hw
    simp only [hw, if_true] at h
    rcases h with h | ⟨hasks, hlets⟩
    case inr => exact .inr ⟨by unfold Oper.asks at *; rw [execOp_put oj hsj a oi.dst v h1] at hasks; exact hasks, hlets⟩
    refine .inl ?_
    unfold Oper.wp at *
    rw [execOp_put oj hsj a oi.dst v h1] at h
    generalize (execOp a.eval oj).run P w = r at *
    cases r with
    | ok n w' =>
      cases n <;> simp only [Oper.upon] at h ⊢
      case value u => exact ⟨keep a hy u, by rw [← Act.put_comm a v u h2]; exact h⟩
      case skip => exact ⟨keep a hy _, by rw [← Act.put_comm a v undef h2]; exact h⟩
      case defer d =>
        refine ⟨keep _ (keepD _ d hy) _, ?_⟩
        rw [← Act.put_comm _ v undef h2, ← Act.put_defers]
        exact h
      case enter f args =>
        refine Calls.mono h fun e w'' he => ?_
        cases e with
        | returned u => exact ⟨keep a hy u, by rw [← Act.put_comm a v u h2]; exact he⟩
        | panicked c => exact hQ _ _ _ he
        | outgrown => exact he
      case row row args => exact Rows.mono h fun u w'' he => ⟨keep a hy u, by rw [← Act.put_comm a v u h2]; exact he⟩
    | halt x w' =>
      cases x <;> simp only [Oper.upon] at h ⊢
      case panic u => exact hQ _ _ _ h
  · rename_i hw
    simp only [hw] at h
    exact ⟨keep a hy _, by rw [← Act.put_comm a v undef h2]; exact h⟩

/-- Whatever order is picked of what is not late; the class is kept. -/
def headW (P : Program) (md : Region.Mode) (ops : Array Oper) (C : World → Prop) (Q : Exit → Act → World → Prop) (tl : List Nat) (L : Array Bool → Act → World → Prop) : Nat → Array Bool → Act → World → Prop
  | 0, listed, a, w => L listed a w
  | f + 1, listed, a, w => Region.ready md ops listed ≠ [] ∧ ∀ i ∈ Region.ready md ops listed, i ∉ tl ∧ wpOp P ops Q i (fun a' w' => C w' ∧ headW P md ops C Q tl L f (listed.setIfInBounds i true) a' w') a w

theorem any_of_headW {tl : List Nat} {g : Nat} {L : Array Bool → Act → World → Prop} (hL : ∀ listed a w, L listed a w → wpAny P md ops Q g listed a w) :
    ∀ (f : Nat) (listed : Array Bool) (a : Act) (w : World), headW P md ops C Q tl L f listed a w → wpAny P md ops Q (f + g) listed a w
  | 0, _, _, _, h => by rw [Nat.zero_add]; exact hL _ _ _ h
  | f + 1, listed, a, w, h => by
    rw [show f + 1 + g = (f + g) + 1 by omega]
    exact ⟨fun h0 => absurd h0 h.1, fun i hi => wpOp_mono (fun a' w' h' => any_of_headW hL f _ a' w' h'.2) (h.2 i hi).2⟩

/-- An operation that leaves every world of the class as it is. -/
def PureIn (P : Program) (ops : Array Oper) (C : World → Prop) (o : Oper) (v : Value) (a : Act) : Prop :=
  (Region.wanted o (yielded ops a.tmps) = true ∧ ∀ w, C w → (execOp a.eval o).run P w = .ok (.value v) w) ∨ (Region.wanted o (yielded ops a.tmps) = false ∧ v = undef)
theorem PureIn.of_same {o : Oper} {v : Value} {a a' : Act} (hy : PureIn P ops C o v a) (he : execOp a'.eval o = execOp a.eval o)
    (hw : Region.wanted o (yielded ops a'.tmps) = Region.wanted o (yielded ops a.tmps)) : PureIn P ops C o v a' := by
  unfold PureIn at *
  rw [he, hw]
  exact hy
theorem PureIn.wpOp {i : Nat} {o : Oper} {v : Value} {a : Act} (hi : ops[i]? = some o) (hy : PureIn P ops C o v a) {K : Act → World → Prop} {w : World} (hC : C w) (h : K (a.put o.dst v) w) : wpOp P ops Q i K a w := by
  unfold Go.wpOp
  simp only [hi]
  rcases hy with ⟨hw, hv⟩ | ⟨hw, rfl⟩
  · simp only [hw, if_true, Oper.wp, hv w hC, Oper.upon]; exact .inl h
  · simp only [hw, Bool.false_eq_true, if_false]; exact h

theorem headW_first {t : Nat} {hd tl : List Nat} {i : Nat} {oi : Oper} {v : Value} {L : Array Bool → Act → World → Prop} (hi : ops[i]? = some oi) (hsel : ∀ (j : Nat) (o : Oper) cs b, ops[j]? = some o → o.op ≠ .select cs b)
    (hQ : ∀ c a w, Q (.panic c) (a.put oi.dst v) w → Q (.panic c) a w)
    (hs : sinkL md ops t hd = true) (hc : chainL md ops t tl = true) (hin : i ∈ hd) (hdone : ∀ listed a w, L listed a w → ∀ j ∈ Region.ready md ops listed, j ∈ t :: tl) :
    ∀ (f : Nat) (listed : Array Bool) (a : Act) (w : World), C w → OrdInv md ops hd (t :: tl) listed →
      (∀ j oj, ops[j]? = some oj → j ≠ i → listed.getD j true = false → (∀ e ∈ oj.after, Region.binds md e = true → e.on ≠ i) → oi.apart ops oj = true) →
      i ∈ Region.ready md ops listed → PureIn P ops C oi v a → headW P md ops C Q (t :: tl) L f (listed.setIfInBounds i true) (a.put oi.dst v) w → headW P md ops C Q (t :: tl) L (f + 1) listed a w := by
  intro f
  induction f with
  | zero =>
    intro listed a w hC inv _ hr hy H
    have hun := (mem_ready.1 hr).1
    refine ⟨fun h => (by rw [h] at hr; cases hr), fun j hj => ?_⟩
    have hjn := in_head hs hc inv hin hun hj
    refine ⟨hjn, ?_⟩
    by_cases hji : j = i
    · subst hji; exact hy.wpOp hi hC ⟨hC, H⟩
    · exact absurd (hdone _ _ _ H j (ready_mono hj hji)) hjn
  | succ f ih =>
    intro listed a w hC inv hfree hr hy H
    have hun := (mem_ready.1 hr).1
    refine ⟨fun h => (by rw [h] at hr; cases hr), fun j hj => ?_⟩
    have hjn := in_head hs hc inv hin hun hj
    refine ⟨hjn, ?_⟩
    by_cases hji : j = i
    · subst hji; exact hy.wpOp hi hC ⟨hC, H⟩
    · have h1 := (H.2 j (ready_mono hj hji)).2
      obtain ⟨hjun, oj, hoj, hall⟩ := mem_ready.1 hj
      have hnot : ∀ e ∈ oj.after, Region.binds md e = true → e.on ≠ i := fun e he hb heq => by
        have h1 := hall e he hb
        rw [heq, getD_both hun] at h1
        cases h1
      have hap := hfree j oj hoj hji hjun hnot
      obtain ⟨_, _, h3⟩ := Oper.apart_spec hap
      have h2 := wpOp_putY (Y := PureIn P ops C oi v) hoj hap (fun cs b => hsel j oj cs b hoj) (fun a hy u => hy.of_same (execOp_put oi (fun cs b => hsel i oi cs b hi) a oj.dst u h3) (wanted_put oi a oj.dst u h3)) (fun a d hy => hy.of_same rfl rfl) hQ hy h1
      have hfree' : ∀ k ok, ops[k]? = some ok → k ≠ i → (listed.setIfInBounds j true).getD k true = false →
          (∀ e ∈ ok.after, Region.binds md e = true → e.on ≠ i) → oi.apart ops ok = true := fun k ok hk hki hun hno => by
        refine hfree k ok hk hki ?_ hno
        by_cases hjk : j = k
        · subst hjk; exact hjun
        · rw [getD_set_ne true hjk] at hun; exact hun
      refine wpOp_mono (fun a' w' h3 => ⟨h3.2.1, ih (listed.setIfInBounds j true) a' w' h3.2.1 (inv.set hj hjn) hfree' (ready_mono hr (Ne.symm hji)) h3.1 ?_⟩) h2
      rw [Array.setIfInBounds_comm _ _ hji]
      exact h3.2.2

theorem headW_of_headO {tl : List Nat} {L : Array Bool → Act → Prop} {L' : Array Bool → Act → World → Prop} {g : Nat} (hL : ∀ listed a w, C w → L listed a → headW P md ops C Q tl L' g listed a w) :
    ∀ (f : Nat) (tl' : List Nat) (_ : ∀ i, i ∈ tl → i ∈ tl') (listed : Array Bool) (a : Act) (w : World), C w → headO P md ops C tl' L f listed a → headW P md ops C Q tl L' (f + g) listed a w
  | 0, _, _, _, _, _, hw, h => by rw [Nat.zero_add]; exact hL _ _ _ hw h
  | f + 1, tl', ht, listed, a, w, hw, h => by
    rw [show f + 1 + g = (f + g) + 1 by omega]
    exact ⟨h.1, fun i hi => ⟨fun hh => (h.2 i hi).1 (ht i hh), wpOp_of_qOp hw (fun a' w' hw' h' => ⟨hw', headW_of_headO hL f tl' ht _ a' w' hw' h'⟩) (h.2 i hi).2⟩⟩

/-- The pure operations ahead, one by one. -/
def pureW (P : Program) (ops : Array Oper) (C : World → Prop) (K : Act → Prop) : List Oper → Act → Prop
  | [], a => K a
  | o :: l, a => ∃ v, PureIn P ops C o v a ∧ pureW P ops C K l (a.put o.dst v)

theorem pureW_step {K : Act → Prop} {o : Oper} {l : List Oper} {a : Act} (v : Value) (hw : Region.wanted o (yielded ops a.tmps) = true) (hr : ∀ w, C w → (execOp a.eval o).run P w = .ok (.value v) w) (h : ∀ K' : Act → Prop, (∀ a, pureW P ops C K l a → K' a) → K' (a.put o.dst v)) : pureW P ops C K (o :: l) a :=
  ⟨v, .inl ⟨hw, hr⟩, h _ fun _ h => h⟩
theorem pureW_nil {K : Act → Prop} {a : Act} (h : K a) : pureW P ops C K [] a := h

def freeL (md : Region.Mode) (ops : Array Oper) : List Nat → Array Bool → Bool
  | [], _ => true
  | i :: hd, listed => (Region.ready md ops listed).contains i && Region.free md ops listed i && freeL md ops hd (listed.setIfInBounds i true)
def setL : List Nat → Array Bool → Array Bool
  | [], listed => listed
  | i :: hd, listed => setL hd (listed.setIfInBounds i true)

theorem headW_pure {t : Nat} {hd tl : List Nat} {L : Array Bool → Act → World → Prop} (hsel : Region.noSelect ops = true) (hQ : ∀ c a d v w, Q (.panic c) (a.put d v) w → Q (.panic c) a w)
    (hs : sinkL md ops t hd = true) (hc : chainL md ops t tl = true) (hx : ∀ i ∈ hd, i ∉ t :: tl) (hdone : ∀ listed a w, L listed a w → ∀ j ∈ Region.ready md ops listed, j ∈ t :: tl) (f : Nat) {K : Act → Prop} {listed' : Array Bool}
    (hK : ∀ a w, C w → K a → OrdInv md ops hd (t :: tl) listed' → headW P md ops C Q (t :: tl) L f listed' a w) :
    ∀ (ps : List Nat) (l : List Oper) (listed : Array Bool) (a : Act) (w : World), C w → ps.map (fun i => ops[i]?) = l.map some → (∀ i ∈ ps, i ∈ hd) → OrdInv md ops hd (t :: tl) listed → freeL md ops ps listed = true → setL ps listed = listed' →
      pureW P ops C K l a → headW P md ops C Q (t :: tl) L (ps.length + f) listed a w
  | [], [], listed, a, w, hw, _, _, inv, _, he, h => by rw [List.length_nil, Nat.zero_add]; subst he; exact hK a w hw h inv
  | [], _ :: _, _, _, _, _, hm, _, _, _, _, _ => by simp at hm
  | _ :: _, [], _, _, _, _, hm, _, _, _, _, _ => by simp at hm
  | i :: ps, o :: l, listed, a, w, hw, hm, hsub, inv, hf, he, h => by
    simp only [List.map_cons, List.cons.injEq] at hm
    obtain ⟨h0, hm⟩ := hm
    simp only [freeL, Bool.and_eq_true] at hf
    obtain ⟨⟨hr, hfr⟩, hf⟩ := hf
    obtain ⟨v, hy, hn⟩ := h
    have hr' : i ∈ Region.ready md ops listed := by simpa using hr
    have hi := hsub i List.mem_cons_self
    rw [List.length_cons, show ps.length + 1 + f = (ps.length + f) + 1 by omega]
    exact headW_first h0 (Region.noSelect_spec hsel) (fun c a w => hQ c a _ v w) hs hc hi hdone _ listed a w hw inv (Region.free_spec h0 hfr) hr' hy
      (headW_pure hsel hQ hs hc hx hdone f hK ps l _ _ w hw hm (fun j hj => hsub j (List.mem_cons_of_mem _ hj)) (inv.set hr' (hx i hi)) hf he hn)

def actB (md : Region.Mode) (ops : Array Oper) (listed : Array Bool) (ps hd : List Nat) (m t : Nat) (tl : List Nat) : Bool :=
  Region.noSelect ops && sinkL md ops t (ps ++ hd ++ [m]) && chainL md ops t tl && sinkL md ops m hd && Region.waitsFor md ops t m && closedL md ops listed && decide (listed.size = ops.size) &&
  ((List.range ops.size).all fun j => listed.getD j true || (ps ++ hd ++ [m]).contains j || (t :: tl).contains j) && ((m :: t :: tl).all fun j => !listed.getD j true) && ((t :: tl).all fun j => !(ps ++ hd ++ [m]).contains j) && (hd.all fun j => !(m :: t :: tl).contains j) &&
  freeL md ops ps listed && ((List.range ops.size).all fun j => (setL ps listed).getD j true || hd.contains j || (m :: t :: tl).contains j) && ((m :: t :: tl).all fun j => !(setL ps listed).getD j true) && headL md ops (m :: t :: tl) hd (setL ps listed)

theorem ord_of {hd tl : List Nat} {listed : Array Bool} (hcl : ∀ j oj, ops[j]? = some oj → listed.getD j false = true → ∀ e ∈ oj.after, Region.binds md e = true → listed.getD e.on false = true) (hsz : listed.size = ops.size)
    (hall : ((List.range ops.size).all fun j => listed.getD j true || hd.contains j || tl.contains j) = true) (htl : (tl.all fun j => !listed.getD j true) = true) : OrdInv md ops hd tl listed := by
  refine ⟨hsz, hcl, fun u hu => ?_, fun j hj hun => ?_⟩
  · have h1 := List.all_eq_true.1 htl u hu
    simpa using h1
  · have h1 := List.all_eq_true.1 hall j (List.mem_range.2 hj)
    simp only [hun, Bool.false_or, Bool.or_eq_true, List.contains_iff_mem] at h1
    exact h1

theorem any_act {a : Act} {w : World} {listed : Array Bool} (ps hd : List Nat) (m t : Nat) (tl : List Nat) (pso hdo tlo : List Oper) (mo : Oper) (hp : ps.map (fun i => ops[i]?) = pso.map some) (hh : hd.map (fun i => ops[i]?) = hdo.map some) (hmo : ops[m]? = some mo)
    (ht : (t :: tl).map (fun i => ops[i]?) = tlo.map some) (hB : actB md ops listed ps hd m t tl = true) (hQ : ∀ c a d v w, Q (.panic c) (a.put d v) w → Q (.panic c) a w) (hC : C w)
    (hmid : ∀ a w, C w → ∀ K, wpOp P ops Q m K a w → wpOp P ops Q m (fun a' w' => C w' ∧ K a' w') a w)
    (h : pureW P ops C (fun a1 => wpQuiet P ops C (fun a' => ∀ w', C w' → wpList P ops Q (mo :: tlo) a' w') hdo a1) pso a) : wpAny P md ops Q (ps.length + (hd.length + 1) + (t :: tl).length) listed a w := by
  simp only [actB, Bool.and_eq_true, decide_eq_true_eq] at hB
  obtain ⟨⟨⟨⟨⟨⟨⟨⟨⟨⟨⟨⟨⟨⟨hsel, hs⟩, hc⟩, hs2⟩, hmt⟩, hcl⟩, hsz⟩, hall⟩, htl⟩, hx⟩, hx2⟩, hf⟩, hall2⟩, htl2⟩, hlex⟩ := hB
  have hcl' : ∀ j oj, ops[j]? = some oj → listed.getD j false = true → ∀ e ∈ oj.after, Region.binds md e = true → listed.getD e.on false = true := fun j oj hj hl e he hb => by
    have h1 := List.all_eq_true.1 hcl j (List.mem_range.2 (Array.getElem?_eq_some_iff.1 hj).1)
    simp only [hl, Bool.not_true, Bool.false_or, hj] at h1
    have h2 := Array.all_eq_true_iff_forall_mem.1 h1 e he
    simpa [hb] using h2
  have inv0 : OrdInv md ops (ps ++ hd ++ [m]) (t :: tl) listed := ord_of hcl' hsz hall (by
    simp only [List.all_cons, Bool.and_eq_true] at htl ⊢; exact htl.2)
  have hxx : ∀ i ∈ ps ++ hd ++ [m], i ∉ t :: tl := fun i hi hi' => by
    have h1 := List.all_eq_true.1 hx i hi'
    simp only [Bool.not_eq_true', List.contains_eq_mem, decide_eq_false_iff_not] at h1
    exact h1 hi
  refine any_of_headW (L := fun listed' a' w' => seqL md ops (t :: tl) listed' = true ∧ wpList P ops Q tlo a' w') (C := C) (tl := t :: tl) (fun listed' a' w' hL => any_of_seqL (t :: tl) tlo listed' a' w' ht hL.1 hL.2) _ _ _ _ ?_
  refine headW_pure (hd := ps ++ hd ++ [m]) hsel hQ hs hc hxx (fun listed' a' w' hL => seqL_ready hL.1) _ (listed' := setL ps listed) (fun a1 w1 hC1 hK1 inv1 => ?_) ps pso listed a w hC hp (fun i hi => by simp [hi]) inv0 hf rfl h
  have inv2 : OrdInv md ops hd (m :: t :: tl) (setL ps listed) := ord_of inv1.closed inv1.size hall2 htl2
  have H := headO_lex (C := C) (P := P) hsel hs2 (show chainL md ops m (t :: tl) = true by simp only [chainL, hmt, hc, Bool.and_self]) (fun i hi hi' => by
    have h1 := List.all_eq_true.1 hx2 i hi
    simp only [Bool.not_eq_true', List.contains_eq_mem, decide_eq_false_iff_not] at h1
    exact h1 hi') hd hdo _ a1 hh (fun _ h => h) inv2 hlex hK1
  refine headW_of_headO (fun listed' a' w' hw' hL => ?_) _ (m :: t :: tl) (fun i hi => List.mem_cons_of_mem _ hi) _ _ _ hC1 H
  obtain ⟨hq, hwp⟩ := hL
  simp only [seqL, Bool.and_eq_true, decide_eq_true_eq] at hq
  refine ⟨(fun h0 => by rw [hq.1] at h0; cases h0), fun i hi => ?_⟩
  rw [hq.1] at hi
  have him : i = m := by simpa using hi
  subst him
  refine ⟨fun hh => hxx i (by simp) hh, ?_⟩
  refine wpOp_mono (fun a'' w'' h'' => ⟨h''.1, show seqL md ops (t :: tl) _ = true ∧ wpList P ops Q tlo a'' w'' from ⟨?_, h''.2⟩⟩) (hmid a' w' hw' (wpList P ops Q tlo) ?_)
  · simp only [seqL, Bool.and_eq_true, decide_eq_true_eq]; exact hq.2
  · unfold wpOp; simp only [hmo]; exact hwp w' hw'

/-- At the class of the worlds that hold what w held. -/
theorem region_act {id : Nat} {a : Act} {w : World} {l : List Oper} (ps hd : List Nat) (m t : Nat) (tl : List Nat) (pso hdo tlo : List Oper) (mo : Oper) (hm : P.follows .mixedOrders = true) (hp : ps.map (fun i => l.toArray[i]?) = pso.map some) (hh : hd.map (fun i => l.toArray[i]?) = hdo.map some) (hmo : l.toArray[m]? = some mo)
    (ht : (t :: tl).map (fun i => l.toArray[i]?) = tlo.map some) (hB : actB .any l.toArray (Array.replicate l.toArray.size false) ps hd m t tl = true) (hsz : ps.length + (hd.length + 1) + (t :: tl).length = l.toArray.size) (hQ : ∀ c a d v w, Q (.panic c) (a.put d v) w → Q (.panic c) a w)
    (hmid : ∀ a w', (∃ p : Regrown, w' = grow (redrawn w p.d) p.os) → ∀ K, wpOp P l.toArray Q m K a w' → wpOp P l.toArray Q m (fun a' w' => (∃ p : Regrown, w' = grow (redrawn w p.d) p.os) ∧ K a' w') a w')
    (h : pureW P l.toArray (fun w' => ∃ p : Regrown, w' = grow (redrawn w p.d) p.os) (fun a1 => wpQuiet P l.toArray (fun w' => ∃ p : Regrown, w' = grow (redrawn w p.d) p.os) (fun a' => ∀ w', (∃ p : Regrown, w' = grow (redrawn w p.d) p.os) → wpList P l.toArray Q (mo :: tlo) a' w') hdo a1) pso a) : (Code.region id l.toArray true).wp P Q a w := by
  refine wp_region_any hm ?_
  have := any_act (C := fun w' => ∃ p : Regrown, w' = grow (redrawn w p.d) p.os) (w := { w with drawn := w.drawn + 1 }) ps hd m t tl pso hdo tlo mo hp hh hmo ht hB hQ ⟨⟨w.drawn + 1, #[]⟩, by rw [grow_empty]; rfl⟩ hmid h
  rwa [hsz] at this

/-- .. in the order of the text: p pure operations, n quiet ones, one that acts, k more. -/
theorem region_act3 {id : Nat} {a : Act} {w : World} {l tlo : List Oper} {mo : Oper} (p n k : Nat) (hm : P.follows .mixedOrders = true) (hp : (List.range p).map (fun i => l.toArray[i]?) = (l.take p).map some) (hh : (List.range' p n).map (fun i => l.toArray[i]?) = ((l.drop p).take n).map some)
    (hdr : l.drop (p + n) = mo :: tlo) (hmo : l.toArray[p + n]? = some mo) (ht : ((p + n + 1) :: List.range' (p + n + 2) k).map (fun i => l.toArray[i]?) = tlo.map some)
    (hB : actB .any l.toArray (Array.replicate l.toArray.size false) (List.range p) (List.range' p n) (p + n) (p + n + 1) (List.range' (p + n + 2) k) = true) (hsz : p + (n + 1) + (k + 1) = l.toArray.size) (hQ : ∀ c a d v w, Q (.panic c) (a.put d v) w → Q (.panic c) a w)
    (hmid : ∀ a w', (∃ p : Regrown, w' = grow (redrawn w p.d) p.os) → ∀ K, wpOp P l.toArray Q (p + n) K a w' → wpOp P l.toArray Q (p + n) (fun a' w' => (∃ p : Regrown, w' = grow (redrawn w p.d) p.os) ∧ K a' w') a w')
    (h : pureW P l.toArray (fun w' => ∃ p : Regrown, w' = grow (redrawn w p.d) p.os) (fun a1 => wpQuiet P l.toArray (fun w' => ∃ p : Regrown, w' = grow (redrawn w p.d) p.os) (fun a' => ∀ w', (∃ p : Regrown, w' = grow (redrawn w p.d) p.os) → wpList P l.toArray Q (l.drop (p + n)) a' w') ((l.drop p).take n) a1) (l.take p) a) : (Code.region id l.toArray true).wp P Q a w := by
  rw [hdr] at h
  exact region_act (List.range p) (List.range' p n) (p + n) (p + n + 1) (List.range' (p + n + 2) k) _ _ tlo mo hm hp hh hmo ht hB (by simpa using hsz) hQ hmid h

theorem any_take : ∀ (ps : List Nat) (l : List Oper) (listed : Array Bool) (a : Act) (w : World) (f : Nat), Region.noSelect ops = true → (∀ c a d v w, Q (.panic c) (a.put d v) w → Q (.panic c) a w) → ps.map (fun i => ops[i]?) = l.map some → freeL md ops ps listed = true →
    pureW P ops (fun _ => True) (fun a' => wpAny P md ops Q f (setL ps listed) a' w) l a → wpAny P md ops Q (ps.length + f) listed a w
  | [], [], listed, a, w, f, _, _, _, _, h => by rw [List.length_nil, Nat.zero_add]; exact h
  | [], _ :: _, _, _, _, _, _, _, hm, _, _ => by simp at hm
  | _ :: _, [], _, _, _, _, _, _, hm, _, _ => by simp at hm
  | i :: ps, o :: l, listed, a, w, f, hsel, hQ, hm, hf, h => by
    simp only [List.map_cons, List.cons.injEq] at hm
    obtain ⟨h0, hm⟩ := hm
    simp only [freeL, Bool.and_eq_true] at hf
    obtain ⟨⟨hr, hfr⟩, hf⟩ := hf
    obtain ⟨v, hy, hn⟩ := h
    rw [List.length_cons, show ps.length + 1 + f = (ps.length + f) + 1 by omega]
    exact wpAny_take h0 hsel hfr hr (fun c a w => hQ c a _ v w) (hy.imp (fun h => ⟨h.1, fun w => h.2 w trivial⟩) id) (any_take ps l _ _ w f hsel hQ hm hf hn)

/-- The operations with these numbers. -/
def selL (l : List Oper) (is : List Nat) : List Oper := is.filterMap fun i => l[i]?

/-- Some operations that yield in whatever world, taken first; some that are quiet; the rest forced. -/
theorem region_take {id : Nat} {a : Act} {w : World} {l : List Oper} (ps hd : List Nat) (t : Nat) (tl : List Nat) (hm : P.follows .mixedOrders = true) (hp : ps.map (fun i => l.toArray[i]?) = (selL l ps).map some) (hh : hd.map (fun i => l.toArray[i]?) = (selL l hd).map some)
    (ht : (t :: tl).map (fun i => l.toArray[i]?) = (selL l (t :: tl)).map some) (hf : freeL .any l.toArray ps (Array.replicate l.toArray.size false) = true) (hB : orderB .any l.toArray (setL ps (Array.replicate l.toArray.size false)) hd t tl = true)
    (hsz : ps.length + (hd.length + (t :: tl).length) = l.toArray.size) (hQ : ∀ c a d v w, Q (.panic c) (a.put d v) w → Q (.panic c) a w)
    (h : pureW P l.toArray (fun _ => True) (fun a1 => wpQuiet P l.toArray (fun w' => ∃ p : Regrown, w' = grow (redrawn w p.d) p.os) (fun a' => ∀ w', (∃ p : Regrown, w' = grow (redrawn w p.d) p.os) → wpList P l.toArray Q (selL l (t :: tl)) a' w') (selL l hd) a1) (selL l ps) a) : (Code.region id l.toArray true).wp P Q a w := by
  refine wp_region_any hm ?_
  have hsel : Region.noSelect l.toArray = true := by
    have hB' := hB
    simp only [orderB, Bool.and_eq_true] at hB'
    exact hB'.1.1.1.1.1.1.1.1
  have hmono : ∀ (ls : List Oper) (a : Act), pureW P l.toArray (fun _ => True) (fun a1 => wpQuiet P l.toArray (fun w' => ∃ p : Regrown, w' = grow (redrawn w p.d) p.os) (fun a' => ∀ w', (∃ p : Regrown, w' = grow (redrawn w p.d) p.os) → wpList P l.toArray Q (selL l (t :: tl)) a' w') (selL l hd) a1) ls a →
      pureW P l.toArray (fun _ => True) (fun a1 => wpAny P .any l.toArray Q (hd.length + (t :: tl).length) (setL ps (Array.replicate l.toArray.size false)) a1 { w with drawn := w.drawn + 1 }) ls a := by
    intro ls
    induction ls with
    | nil => intro a h; exact any_order (C := fun w' => ∃ p : Regrown, w' = grow (redrawn w p.d) p.os) hd t tl _ _ hh ht hB ⟨⟨w.drawn + 1, #[]⟩, by rw [grow_empty]; rfl⟩ h
    | cons o ls ih => intro a h; obtain ⟨v, hy, hn⟩ := h; exact ⟨v, hy, ih _ hn⟩
  have := any_take ps _ _ a { w with drawn := w.drawn + 1 } _ hsel hQ hp hf (hmono _ _ h)
  rwa [hsz] at this

end Go.Proofs.Ytmilljlkcbljpaa
