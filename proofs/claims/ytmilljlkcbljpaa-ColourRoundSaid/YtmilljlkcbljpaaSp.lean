/- Matrices and spaces; apply. -/
import Derived.Test.YtmilljlkcbljpaaCj
import Derived.Test.YtmilljlkcbljpaaD
import Derived.Test.YtmilljlkcbljpaaEb
namespace Go.Proofs.Ytmilljlkcbljpaa
open Go.RowKit Go.Sort

/-- A matrix, as a value; in a block. -/
def mat (m : Nat → Int) : Value := .agg #[.int .i64 (m 0), .int .i64 (m 1), .int .i64 (m 2), .int .i64 (m 3), .int .i64 (m 4), .int .i64 (m 5), .int .i64 (m 6), .int .i64 (m 7), .int .i64 (m 8)]
def Mat (t : TypeId) (w : World) (b : Nat) (m : Nat → Int) : Prop :=
  w.heap[b]? = some (.cells #[.int .i64 (m 0), .int .i64 (m 1), .int .i64 (m 2), .int .i64 (m 3), .int .i64 (m 4), .int .i64 (m 5), .int .i64 (m 6), .int .i64 (m 7), .int .i64 (m 8)] t (0, 0))
theorem Mat.lt {t : TypeId} {w : World} {b : Nat} {m : Nat → Int} (h : Mat t w b m) : b < w.heap.size := (Array.getElem?_eq_some_iff.1 h).1
theorem Mat.below {t : TypeId} {w w' : World} {b B : Nat} {m : Nat → Int} (h : Mat t w b m) (hb : Below B w w') (hB : b < B) : Mat t w' b m := (hb.block b hB).trans h
theorem Mat.on {t : TypeId} {w w' : World} {b : Nat} {m : Nat → Int} (h : Mat t w b m) (hb : Below w.heap.size w w') : Mat t w' b m := h.below hb h.lt
theorem Mat.alloc {t : TypeId} {w : World} {b : Nat} {m : Nat → Int} (h : Mat t w b m) (o : Obj) : Mat t (w.alloc o) b m := h.on ((Below.refl _ _).alloc (Nat.le_refl _) _)
theorem Mat.new (w : World) (m : Nat → Int) (t : TypeId) : Mat t (w.alloc (.cells #[.int .i64 (m 0), .int .i64 (m 1), .int .i64 (m 2), .int .i64 (m 3), .int .i64 (m 4), .int .i64 (m 5), .int .i64 (m 6), .int .i64 (m 7), .int .i64 (m 8)] t)) w.heap.size m := heap_alloc_new w _
theorem Mat.cell {t : TypeId} {w : World} {b : Nat} {m : Nat → Int} (h : Mat t w b m) (j : Nat) (hj : j < 9) : w.cell? ⟨b, j, none⟩ = some (.int .i64 (m j)) := by
  obtain rfl | rfl | rfl | rfl | rfl | rfl | rfl | rfl | rfl : j = 0 ∨ j = 1 ∨ j = 2 ∨ j = 3 ∨ j = 4 ∨ j = 5 ∨ j = 6 ∨ j = 7 ∨ j = 8 := by omega
  all_goals simp [World.cell?, show w.heap[b]? = _ from h]

/-- The entries are small. -/
def Ent (m : Nat → Int) : Prop := ∀ j, j < 9 → -65536 ≤ m j ∧ m j ≤ 65536

/-- A matrix, applied. -/
def apV (m c : Nat → Int) (i : Nat) : Int := (m (3 * i) * c 0 + m (3 * i + 1) * c 1 + m (3 * i + 2) * c 2 + 2048) / 4096

theorem mul_both {a b A B : Int} (h0 : -A ≤ a) (h1 : a ≤ A) (h2 : -B ≤ b) (h3 : b ≤ B) : -(A * B) ≤ a * b ∧ a * b ≤ A * B := by
  by_cases h : 0 ≤ b
  · exact mul_abs h0 h1 h h3
  · have := mul_abs (b := -b) (B := B) h0 h1 (by omega) (by omega)
    rw [Int.mul_neg] at this
    omega

set_option maxHeartbeats 1000000 in
theorem apply1_any {m c : Nat → Int} {v : Int} {i b1 b2 : Nat} {t t' : TypeId} {w : World} (hi : i < 3) (hm : Ent m) (hc : InB c) (t1 : Mat t w b1 m) (t2 : Tri t' w b2 c) :
    Calls Try.prog 109 #[.int .i64 i, .int .i64 v, .pointer (some ⟨b1, 0, none⟩), .pointer (some ⟨b2, 0, none⟩)] w fun e w' => e = .returned (.int .i64 (apV m c i)) ∧ Drawn w w' := by
  have e0 := t1.cell (3 * i) (by omega)
  have e1 := t1.cell (3 * i + 1) (by omega)
  have e2 := t1.cell (3 * i + 2) (by omega)
  have d0 := t2.c0
  have d1 := t2.c1
  have d2 := t2.c2
  obtain ⟨p1, p2⟩ := mul_both (hm (3 * i) (by omega)).1 (hm (3 * i) (by omega)).2 (hc 0 (by omega)).1 (hc 0 (by omega)).2
  obtain ⟨p3, p4⟩ := mul_both (hm (3 * i + 1) (by omega)).1 (hm (3 * i + 1) (by omega)).2 (hc 1 (by omega)).1 (hc 1 (by omega)).2
  obtain ⟨p5, p6⟩ := mul_both (hm (3 * i + 2) (by omega)).1 (hm (3 * i + 2) (by omega)).2 (hc 2 (by omega)).1 (hc 2 (by omega)).2
  have E := Lib.hid (show apV m c i = (m (3 * i) * c 0 + m (3 * i + 1) * c 1 + m (3 * i + 2) * c 2 + 2048) / 4096 from rfl)
  generalize m (3 * i) = x0 at *
  generalize m (3 * i + 1) = x1 at *
  generalize m (3 * i + 2) = x2 at *
  generalize c 0 = y0 at *
  generalize c 1 = y1 at *
  generalize c 2 = y2 at *
  clear t1 t2 hm hc
  have i0 : 0 ≤ (i : Int) ∧ (i : Int) < 3 := by omega
  have n0 : (3 * (i : Int)).toNat = 3 * i := by omega
  have n1 : (3 * (i : Int) + 1).toNat = 3 * i + 1 := by omega
  have n2 : (3 * (i : Int) + 2).toNat = 3 * i + 2 := by omega
  go_enter Try.func109, Try.ntmps109
  go_wp2
  go_quiet ((go_at_call 57; exact Calls.quiet_of_same (floor_any (by omega) (by omega) (by omega) (by omega))))
  go_wp2
  go_ret
  exact ⟨ret_int E.out.symm, .of _⟩

theorem apply_new (w : World) (m c : Nat → Int) (t t' : TypeId) : ∃ w0, ((w.alloc (.cells #[.int .i64 (m 0), .int .i64 (m 1), .int .i64 (m 2), .int .i64 (m 3), .int .i64 (m 4), .int .i64 (m 5), .int .i64 (m 6), .int .i64 (m 7), .int .i64 (m 8)] t)).alloc (.cells #[.int .i64 (c 0), .int .i64 (c 1), .int .i64 (c 2)] t')).alloc (.cells #[.int .i64 0, .int .i64 0, .int .i64 0] t') = w0 ∧
    Below w.heap.size w w0 ∧ w0.heap.size = w.heap.size + 3 ∧ Mat t w0 w.heap.size m ∧ Tri t' w0 (w.heap.size + 1) c ∧ Tri t' w0 (w.heap.size + 1 + 1) (fun _ => 0) := by
  refine ⟨_, rfl, (((Below.refl _ w).alloc (Nat.le_refl _) _).alloc (by simp) _).alloc (by simp <;> omega) _, by simp, ((Mat.new w m t).alloc _).alloc _, ?_, ?_⟩
  · have h := Tri.new (w.alloc (.cells #[.int .i64 (m 0), .int .i64 (m 1), .int .i64 (m 2), .int .i64 (m 3), .int .i64 (m 4), .int .i64 (m 5), .int .i64 (m 6), .int .i64 (m 7), .int .i64 (m 8)] t)) c t'
    rw [World.size_alloc] at h
    exact h.alloc _
  · have h := Tri.new ((w.alloc (.cells #[.int .i64 (m 0), .int .i64 (m 1), .int .i64 (m 2), .int .i64 (m 3), .int .i64 (m 4), .int .i64 (m 5), .int .i64 (m 6), .int .i64 (m 7), .int .i64 (m 8)] t)).alloc (.cells #[.int .i64 (c 0), .int .i64 (c 1), .int .i64 (c 2)] t')) (fun _ => 0) t'
    simp only [World.size_alloc] at h
    exact h

set_option maxRecDepth 100000 in
set_option maxHeartbeats 1000000 in
theorem apply_any {m c : Nat → Int} {w : World} (hm : Ent m) (hc : InB c) :
    Calls Try.prog 95 #[mat m, col c] w fun e w' => e = .returned (col (apV m c)) ∧ Below w.heap.size w w' := by
  obtain ⟨w0, h0, hb, hz, t1, t2, t3⟩ := apply_new w m c 61 28
  have hmf : ∀ (fn : Fn) (first cap : Array Value) (w : World), (Instr.makeFunc fn first cap).run Try.prog w = .ok (.func fn first cap) w := fun _ _ _ _ => rfl
  have d0 := t2.c0
  have d1 := t2.c1
  have d2 := t2.c2
  have T1 := Lib.hid t1
  have T2 := Lib.hid t2
  have T3 := Lib.hid t3
  have Z := Lib.hid hz
  have HM := Lib.hid hm
  have HC := Lib.hid hc
  clear t1 t2 t3 hz hm hc
  unfold col mat
  go_enter Try.func95, Try.ntmps95
  go_wp2_with fail
  refine (each_apply (c := c) (r := apV m c) fun i hi W hbW => (apply1_any hi HM.out HC.out (T1.out.on hbW) (T2.out.on hbW)).mono fun e w' ⟨he, hd⟩ => ⟨he, hd.below _⟩).mono ?_
  unfold col
  rintro e w1 ⟨rfl, hb1⟩
  have T := T3.out.on hb1
  have x0 := T.c0
  have x1 := T.c1
  have x2 := T.c2
  have y0 := T.free 0
  have y1 := T.free 1
  have y2 := T.free 2
  have hb2 := hb.trans (hb1.mono (by have := Z.out; omega))
  clear T
  go_wp2
  refine bodyPost_ret (v := .agg #[.int .i64 (apV m c 0), .int .i64 (apV m c 1), .int .i64 (apV m c 2)]) (by simp [results, Try.results95, go_sem, *]) rfl ?_
  exact ⟨rfl, set3_below hb2 (by omega) _ _ _⟩

/-- A space, as a value; in a block. -/
def spA (v : Nat → Value) (t m : Nat → Int) : Array Value :=
  #[v 0, v 1, v 2, .int .i64 (t 0), .int .i64 (t 1), .int .i64 (t 2), .int .i64 (t 3), .int .i64 (t 4), .int .i64 (t 5), .int .i64 (t 6), .int .i64 (t 7), .int .i64 (t 8), .int .i64 (m 0), .int .i64 (m 1), .int .i64 (m 2), .int .i64 (m 3), .int .i64 (m 4), .int .i64 (m 5), .int .i64 (m 6), .int .i64 (m 7), .int .i64 (m 8)]
def spc (v : Nat → Value) (t m : Nat → Int) : Value := .agg (spA v t m)
def Spb (ty : TypeId) (w : World) (b : Nat) (v : Nat → Value) (t m : Nat → Int) : Prop := w.heap[b]? = some (.cells (spA v t m) ty (0, 0))
theorem Spb.lt {ty : TypeId} {w : World} {b : Nat} {v : Nat → Value} {t m : Nat → Int} (h : Spb ty w b v t m) : b < w.heap.size := (Array.getElem?_eq_some_iff.1 h).1
theorem Spb.below {ty : TypeId} {w w' : World} {b B : Nat} {v : Nat → Value} {t m : Nat → Int} (h : Spb ty w b v t m) (hb : Below B w w') (hB : b < B) : Spb ty w' b v t m := (hb.block b hB).trans h
theorem Spb.on {ty : TypeId} {w w' : World} {b : Nat} {v : Nat → Value} {t m : Nat → Int} (h : Spb ty w b v t m) (hb : Below w.heap.size w w') : Spb ty w' b v t m := h.below hb h.lt
theorem Spb.alloc {ty : TypeId} {w : World} {b : Nat} {v : Nat → Value} {t m : Nat → Int} (h : Spb ty w b v t m) (o : Obj) : Spb ty (w.alloc o) b v t m := h.on ((Below.refl _ _).alloc (Nat.le_refl _) _)
theorem Spb.new (w : World) (v : Nat → Value) (t m : Nat → Int) (ty : TypeId) : Spb ty (w.alloc (.cells (spA v t m) ty)) w.heap.size v t m := heap_alloc_new w _
theorem Spb.free {ty : TypeId} {w : World} {b : Nat} {v : Nat → Value} {t m : Nat → Int} (h : Spb ty w b v t m) (j : Nat) : w.frozen? ⟨b, j, none⟩ = false := frozen_of_row w b j _ _ h
theorem Spb.curve {ty : TypeId} {w : World} {b : Nat} {v : Nat → Value} {t m : Nat → Int} (h : Spb ty w b v t m) (j : Nat) (hj : j < 3) : w.cell? ⟨b, j, none⟩ = some (v j) := by
  obtain rfl | rfl | rfl : j = 0 ∨ j = 1 ∨ j = 2 := by omega
  all_goals simp [World.cell?, show w.heap[b]? = _ from h, spA]
theorem Spb.to {ty : TypeId} {w : World} {b : Nat} {v : Nat → Value} {t m : Nat → Int} (h : Spb ty w b v t m) (j : Nat) (hj : j < 9) : w.cell? ⟨b, 3 + j, none⟩ = some (.int .i64 (t j)) := by
  obtain rfl | rfl | rfl | rfl | rfl | rfl | rfl | rfl | rfl : j = 0 ∨ j = 1 ∨ j = 2 ∨ j = 3 ∨ j = 4 ∨ j = 5 ∨ j = 6 ∨ j = 7 ∨ j = 8 := by omega
  all_goals simp [World.cell?, show w.heap[b]? = _ from h, spA]
theorem Spb.fr {ty : TypeId} {w : World} {b : Nat} {v : Nat → Value} {t m : Nat → Int} (h : Spb ty w b v t m) (j : Nat) (hj : j < 9) : w.cell? ⟨b, 12 + j, none⟩ = some (.int .i64 (m j)) := by
  obtain rfl | rfl | rfl | rfl | rfl | rfl | rfl | rfl | rfl : j = 0 ∨ j = 1 ∨ j = 2 ∨ j = 3 ∨ j = 4 ∨ j = 5 ∨ j = 6 ∨ j = 7 ∨ j = 8 := by omega
  all_goals simp [World.cell?, show w.heap[b]? = _ from h, spA]

/-- The curves of a space, in the world. -/
def Crv (w : World) (B : Nat) (v : Nat → Value) (n : Nat → Nat) (f : Nat → Nat → Int) : Prop := ∀ i, i < 3 → n i ≤ 9223372036854775807 ∧ Sl w B (v i) (n i) (f i)
theorem Crv.below {w w' : World} {B B' : Nat} {v : Nat → Value} {n : Nat → Nat} {f : Nat → Nat → Int} (h : Crv w B v n f) (hb : Below B' w w') (hB : B ≤ B') : Crv w' B v n f := fun i hi => ⟨(h i hi).1, (h i hi).2.below hb hB⟩

/-- To the reference space. -/
noncomputable def toV (n : Nat → Nat) (f : Nat → Nat → Int) (t c : Nat → Int) : Nat → Int := apV t fun i => AtV (n i) (f i) (bnd c i)

set_option maxHeartbeats 1000000 in
theorem to1_any {v : Nat → Value} {n : Nat → Nat} {f : Nat → Nat → Int} {t m : Nat → Int} {x : Int} {i b B : Nat} {ty : TypeId} {w : World} (hi : i < 3) (hc : Crv w B v n f) (hs : Spb ty w b v t m) :
    Calls Try.prog 96 #[.int .i64 i, .int .i64 x, .pointer (some ⟨b, 0, none⟩)] w fun e w' => e = .returned (.int .i64 (AtV (n i) (f i) x)) ∧ Drawn w w' := by
  have c1 := hs.curve i hi
  have i0 : 0 ≤ (i : Int) ∧ (i : Int) < 3 := by omega
  obtain ⟨h1, h2⟩ := hc i hi
  clear hs hc
  go_enter Try.func96, Try.ntmps96
  go_wp2_with fail
  refine (At_any h1 h2).mono ?_
  rintro e w' ⟨rfl, hd⟩
  go_wp2
  go_ret
  exact ⟨rfl, hd⟩

end Go.Proofs.Ytmilljlkcbljpaa
