/- Look, Narrow. -/
import Derived.Test.YtmilljlkcbljpaaLl
namespace Go.Proofs.Ytmilljlkcbljpaa
open Go.RowKit Go.Sort

/-- The boxes of Look. -/
theorem lookB_new (w : World) (n : Int) (v : Value) (c : Nat → Int) (tg t : TypeId) : ∃ w0, ((w.alloc (.cells #[.int .i64 n, v] tg)).alloc (.cells #[.int .i64 (c 0), .int .i64 (c 1), .int .i64 (c 2)] t)).alloc (.cells #[.int .i64 0, .int .i64 0, .int .i64 0] t) = w0 ∧
    Below w.heap.size w w0 ∧ w0.heap.size = w.heap.size + 3 ∧ Two tg w0 w.heap.size (.int .i64 n) v ∧ Tri t w0 (w.heap.size + 1) c ∧ Tri t w0 (w.heap.size + 1 + 1) (fun _ => 0) := by
  refine ⟨_, rfl, (((Below.refl _ w).alloc (Nat.le_refl _) _).alloc (by simp) _).alloc (by simp <;> omega) _, by simp, ((Two.new w _ v tg).alloc _).alloc _, ?_, ?_⟩
  · have h := Tri.new (w.alloc (.cells #[.int .i64 n, v] tg)) c t
    simp only [World.size_alloc] at h
    exact h.alloc _
  · have h := Tri.new ((w.alloc (.cells #[.int .i64 n, v] tg)).alloc (.cells #[.int .i64 (c 0), .int .i64 (c 1), .int .i64 (c 2)] t)) (fun _ => 0) t
    simp only [World.size_alloc] at h
    exact h

set_option maxRecDepth 100000 in
set_option maxHeartbeats 2000000 in
theorem Look_no {N n B : Nat} {v : Value} {g : Nat → Nat → Int} {c : Nat → Int} {w : World} (hN : N ≤ 1000000) (hB : B ≤ w.heap.size) (hv : Cls w B v n g) (hG : ¬ GrV N n g) :
    Calls Try.prog 22 #[.agg #[.int .i64 N, v], col c] w fun e w' => e = .returned (.tuple #[col (fun _ => 0), .int .i64 1]) ∧ Below w.heap.size w w' := by
  obtain ⟨w0, h0, hb0, hz, t1, t2, t3⟩ := lookB_new w N v c 31 28
  have kv := Lib.hid (grid_any (g := g) (N := N) (w := w0) hN (Nat.le_trans hB hb0.size) (hv.below hb0 hB))
  rw [grB_f hG] at kv
  have T3 := Lib.hid t3
  have g0 := t1.c0
  have g1 := t1.c1
  have hsh := hv.shape
  obtain ⟨a, cap, rfl⟩ := hsh
  clear t1 t2 t3 hv hG
  unfold col
  go_enter Try.func22, Try.ntmps22
  go_wp2_with fail
  refine kv.out.mono ?_
  rintro e w1 ⟨rfl, hb1⟩
  have t3 := T3.out.on hb1
  have x0 := t3.c0
  have x1 := t3.c1
  have x2 := t3.c2
  have y0 := t3.free 0
  have y1 := t3.free 1
  have y2 := t3.free 2
  have hq := hb0.trans (hb1.mono hb0.size)
  clear t3 h0 g0 g1
  go_wp2
  refine bodyPost_ret (v := .tuple #[.agg #[.int .i64 0, .int .i64 0, .int .i64 0], .int .i64 1]) (by simp [results, Try.results22, go_sem, *]) rfl ?_
  exact ⟨rfl, set3_below hq (by omega) _ _ _⟩

set_option maxRecDepth 100000 in
set_option maxHeartbeats 2000000 in
theorem Look_yes {N n B : Nat} {v : Value} {g : Nat → Nat → Int} {c : Nat → Int} {w : World} (hB : B ≤ w.heap.size) (hv : Cls w B v n g) (hG : GrV N n g) :
    Calls Try.prog 22 #[.agg #[.int .i64 N, v], col c] w fun e w' => e = .returned (.tuple #[col (lkV N g c), .int .i64 0]) ∧ Below w.heap.size w w' := by
  obtain ⟨w0, h0, hb0, hz, t1, t2, t3⟩ := lookB_new w N v c 31 28
  have kv := Lib.hid (grid_any (g := g) (N := N) (w := w0) (by have := hG.2.1; omega) (Nat.le_trans hB hb0.size) (hv.below hb0 hB))
  rw [grB_t hG] at kv
  have T1 := Lib.hid t1
  have T2 := Lib.hid t2
  have T3 := Lib.hid t3
  have g0 := t1.c0
  have g1 := t1.c1
  have HV := Lib.hid hv
  have HG := Lib.hid hG
  have hsh := hv.shape
  obtain ⟨a, cap, rfl⟩ := hsh
  clear t1 t2 t3 hv hG
  unfold col
  go_enter Try.func22, Try.ntmps22
  go_wp2_with fail
  refine kv.out.mono ?_
  rintro e w1 ⟨rfl, hb1⟩
  have hq := hb0.trans (hb1.mono hb0.size)
  have t1 := T1.out.on hb1
  have t2 := T2.out.on hb1
  have T3' := Lib.hid (T3.out.on hb1)
  have kl := Lib.hid (look_any (c := c) (w := w1) HG.out (Nat.le_trans hB hq.size) (HV.out.below hq hB))
  unfold col at kl
  have d0 := t2.c0
  have d1 := t2.c1
  have d2 := t2.c2
  clear h0 g0 g1 hb1
  have g0 := t1.c0
  have g1 := t1.c1
  clear t1 t2
  go_wp2_with fail
  refine kl.out.mono ?_
  rintro e w2 ⟨rfl, hb2⟩
  have t3 := T3'.out.on hb2
  have x0 := t3.c0
  have x1 := t3.c1
  have x2 := t3.c2
  have y0 := t3.free 0
  have y1 := t3.free 1
  have y2 := t3.free 2
  have hq2 := hq.trans (hb2.mono hq.size)
  clear t3 g0 g1 d0 d1 d2
  go_wp2
  refine bodyPost_ret (v := .tuple #[.agg #[.int .i64 (lkV N g c 0), .int .i64 (lkV N g c 1), .int .i64 (lkV N g c 2)], .int .i64 0]) (by simp [results, Try.results22, go_sem, *]) rfl ?_
  exact ⟨rfl, set3_below hq2 (by omega) _ _ _⟩

/-- Four bytes in a block. -/
def Fou (t : TypeId) (w : World) (b : Nat) (p : Nat → Int) : Prop := w.heap[b]? = some (.cells #[.int .u8 (p 0), .int .u8 (p 1), .int .u8 (p 2), .int .u8 (p 3)] t (0, 0))
theorem Fou.cell {t : TypeId} {w : World} {b : Nat} {p : Nat → Int} (h : Fou t w b p) (j : Nat) (hj : j < 4) : w.cell? ⟨b, j, none⟩ = some (.int .u8 (p j)) := by
  obtain rfl | rfl | rfl | rfl : j = 0 ∨ j = 1 ∨ j = 2 ∨ j = 3 := by omega
  all_goals simp [World.cell?, show w.heap[b]? = _ from h]
theorem Fou.free {t : TypeId} {w : World} {b : Nat} {p : Nat → Int} (h : Fou t w b p) (j : Nat) : w.frozen? ⟨b, j, none⟩ = false := frozen_of_row w b j _ _ h
theorem Fou.lt {t : TypeId} {w : World} {b : Nat} {p : Nat → Int} (h : Fou t w b p) : b < w.heap.size := (Array.getElem?_eq_some_iff.1 h).1
theorem Fou.below {t : TypeId} {w w' : World} {b B : Nat} {p : Nat → Int} (h : Fou t w b p) (hb : Below B w w') (hB : b < B) : Fou t w' b p := (hb.block b hB).trans h
theorem Fou.on {t : TypeId} {w w' : World} {b : Nat} {p : Nat → Int} (h : Fou t w b p) (hb : Below w.heap.size w w') : Fou t w' b p := h.below hb h.lt
theorem Fou.new (w : World) (p : Nat → Int) (t : TypeId) : Fou t (w.alloc (.cells #[.int .u8 (p 0), .int .u8 (p 1), .int .u8 (p 2), .int .u8 (p 3)] t)) w.heap.size p := heap_alloc_new w _
theorem set4_below {B b : Nat} {w w0 : World} (h : Below B w w0) (hb : B ≤ b) (x0 x1 x2 x3 : Value) : Below B w ((((w0.setCell ⟨b, 0, none⟩ x0).setCell ⟨b, 1, none⟩ x1).setCell ⟨b, 2, none⟩ x2).setCell ⟨b, 3, none⟩ x3) :=
  (set3_below h hb x0 x1 x2).setCell (p := ⟨b, 3, none⟩) hb _

/-- A pixel, as a value. -/
def pix (p : Nat → Int) : Value := .agg #[.int .u8 (p 0), .int .u8 (p 1), .int .u8 (p 2), .int .u8 (p 3)]
/-- Narrow. -/
def narV (c : Nat → Int) (al : Int) (i : Nat) : Int := if clm 0 255 al = 0 then 0 else if i = 3 then clm 0 255 al else (gam c i + 128) / 257

theorem clamp_mn8 (s : Int) (ts : Array TypeId) (t : TypeId) (w : World) : (Builtin.min_ ts t #[.int .i64 s, .int .i64 255]).run Try.prog w = .ok (.int .i64 (if 255 < s then 255 else s)) w := run_min_int2 w ts t .i64 .i64 s 255

set_option maxRecDepth 100000 in
set_option maxHeartbeats 2000000 in
theorem narrow_any {c : Nat → Int} {al : Int} {w : World} :
    Calls Try.prog 41 #[col c, .int .i64 al] w fun e w' => e = .returned (pix (narV c al)) ∧ Below w.heap.size w w' := by
  obtain ⟨A, hA⟩ : ∃ A, clm 0 255 al = A := ⟨_, rfl⟩
  obtain ⟨M, hM⟩ : ∃ M, (if 255 < al then 255 else al) = M := ⟨_, rfl⟩
  have hmn : ∀ (ts : Array TypeId) (t : TypeId) (w : World), (Builtin.min_ ts t #[.int .i64 al, .int .i64 255]).run Try.prog w = .ok (.int .i64 M) w := fun ts t w => by rw [clamp_mn8, hM]
  have hmx : ∀ (ts : Array TypeId) (t : TypeId) (w : World), (Builtin.max_ ts t #[.int .i64 0, .int .i64 M]).run Try.prog w = .ok (.int .i64 A) w := fun ts t w => by
    rw [run_max_int2]
    congr 2
    rw [← hA, ← hM]
    unfold clm
    split <;> split <;> (try split) <;> omega
  obtain ⟨a0, a1⟩ : 0 ≤ A ∧ A ≤ 255 := by rw [← hA]; exact clm_bd (by omega) al
  have HN : Hid (∀ i, narV c al i = if A = 0 then 0 else if i = 3 then A else (gam c i + 128) / 257) := Lib.hid (fun i => by unfold narV; rw [hA])
  clear hA hM
  by_cases h : A = 0
  · unfold col pix
    subst h
    have e0 : narV c al 0 = 0 := (HN.out 0).trans (if_pos rfl)
    have e1 : narV c al 1 = 0 := (HN.out 1).trans (if_pos rfl)
    have e2 : narV c al 2 = 0 := (HN.out 2).trans (if_pos rfl)
    have e3 : narV c al 3 = 0 := (HN.out 3).trans (if_pos rfl)
    rw [e0, e1, e2, e3]
    clear e0 e1 e2 e3
    go_enter Try.func41, Try.ntmps41
    go_wp2
    refine bodyPost_ret (v := .agg #[.int .u8 0, .int .u8 0, .int .u8 0, .int .u8 0]) (by simp [results, Try.results41, go_sem]) rfl ?_
    exact ⟨rfl, ((Below.refl _ w).alloc (Nat.le_refl _) _).alloc (by simp) _⟩
  · have d0 : (A == 0) = false := by simp [h]
    have t1 := (Tri.new w c 28).alloc (.cells #[.int .u8 0, .int .u8 0, .int .u8 0, .int .u8 0] 33)
    have t2 := Fou.new (w.alloc (.cells #[.int .i64 (c 0), .int .i64 (c 1), .int .i64 (c 2)] 28)) (fun _ => 0) 33
    rw [World.size_alloc] at t2
    have hb0 := ((Below.refl w.heap.size w).alloc (Nat.le_refl _) (.cells #[.int .i64 (c 0), .int .i64 (c 1), .int .i64 (c 2)] 28)).alloc (by simp) (.cells #[.int .u8 0, .int .u8 0, .int .u8 0, .int .u8 0] 33)
    obtain ⟨w0, h0⟩ : ∃ w0, (w.alloc (.cells #[.int .i64 (c 0), .int .i64 (c 1), .int .i64 (c 2)] 28)).alloc (.cells #[.int .u8 0, .int .u8 0, .int .u8 0, .int .u8 0] 33) = w0 := ⟨_, rfl⟩
    rw [h0] at t1 t2 hb0
    have T2 := Lib.hid t2
    have c0 := t1.c0
    have c1 := t1.c1
    have c2 := t1.c2
    have e0 : narV c al 0 = (gam c 0 + 128) / 257 := (HN.out 0).trans (by rw [if_neg h, if_neg (by omega)])
    have e1 : narV c al 1 = (gam c 1 + 128) / 257 := (HN.out 1).trans (by rw [if_neg h, if_neg (by omega)])
    have e2 : narV c al 2 = (gam c 2 + 128) / 257 := (HN.out 2).trans (by rw [if_neg h, if_neg (by omega)])
    have e3 : narV c al 3 = A := (HN.out 3).trans (by rw [if_neg h, if_pos rfl])
    unfold col pix
    rw [e0, e1, e2, e3]
    have b0 : 0 ≤ gam c 0 ∧ gam c 0 ≤ 65535 := InG.of c 0 (by omega)
    have b1 : 0 ≤ gam c 1 ∧ gam c 1 ≤ 65535 := InG.of c 1 (by omega)
    have b2 : 0 ≤ gam c 2 ∧ gam c 2 ≤ 65535 := InG.of c 2 (by omega)
    have HI := Lib.hid (InG.of c)
    clear t1 t2 e0 e1 e2 e3 h
    go_enter Try.func41, Try.ntmps41
    go_wp2_with fail
    refine (gamut_any (c := c)).mono ?_
    unfold col
    rintro e w1 ⟨rfl, hb1⟩
    have T3 := Lib.hid (T2.out.on hb1)
    have hq := hb0.trans (hb1.mono hb0.size)
    clear h0 c0 c1 c2 hb1
    go_wp2_with fail
    refine (each_narrow (c := gam c) (r := fun i => (gam c i + 128) / 257) fun i hi W hbW => (narrow1_any (HI.out i hi).1 (HI.out i hi).2).mono fun e w' ⟨he, hd⟩ => ⟨he, hd.below _⟩).mono ?_
    unfold col
    rintro e w2 ⟨rfl, hb2⟩
    have T4 := Lib.hid (T3.out.on hb2)
    have hq2 := hq.trans (hb2.mono hq.size)
    obtain ⟨w3, h3⟩ : ∃ w3, w2.alloc (.cells #[.int .i64 ((gam c 0 + 128) / 257), .int .i64 ((gam c 1 + 128) / 257), .int .i64 ((gam c 2 + 128) / 257)] 28) = w3 := ⟨_, rfl⟩
    have t5 := Tri.new w2 (fun i => (gam c i + 128) / 257) 28
    have hb3 : Below w2.heap.size w2 w3 := by rw [← h3]; exact (Below.refl _ _).alloc (Nat.le_refl _) _
    simp only [h3] at t5
    have u0 := t5.c0
    have u1 := t5.c1
    have u2 := t5.c2
    have t4 := T4.out.on hb3
    have x0 := t4.cell 0 (by omega)
    have x1 := t4.cell 1 (by omega)
    have x2 := t4.cell 2 (by omega)
    have x3 := t4.cell 3 (by omega)
    have y0 := t4.free 0
    have y1 := t4.free 1
    have y2 := t4.free 2
    have y3 := t4.free 3
    have hq3 := hq2.trans (hb3.mono hq2.size)
    clear t4 t5 hb2 hb3
    go_wp2
    refine bodyPost_ret (v := .agg #[.int .u8 ((gam c 0 + 128) / 257), .int .u8 ((gam c 1 + 128) / 257), .int .u8 ((gam c 2 + 128) / 257), .int .u8 A]) (by simp [results, Try.results41, go_sem, *]) rfl ?_
    exact ⟨rfl, set4_below hq3 (by omega) _ _ _ _⟩

end Go.Proofs.Ytmilljlkcbljpaa
