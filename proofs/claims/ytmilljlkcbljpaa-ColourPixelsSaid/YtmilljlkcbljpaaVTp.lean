/- Texts of this proof, one behind another: Wi Px Ic Tp Av. -/
import Derived.Test.YtmilljlkcbljpaaV9
import Derived.Deep.CutRange
/- Wide; Narrow of the reference; Pixel and its reference. -/
namespace Go.Proofs.Ytmilljlkcbljpaa
open Go.RowKit Go.Sort

theorem list4 {α : Type} (l : List α) (h : l.length = 4) : ∃ a b c d, l = [a, b, c, d] := by
  match l, h with
  | [a, b, c, d], _ => exact ⟨a, b, c, d, rfl⟩
theorem eql_pix (p : Nat → Int) (w : World) : (binOp .eql 33 (.agg #[.int .u8 (p 0), .int .u8 (p 1), .int .u8 (p 2), .int .u8 (p 3)]) (.agg #[.int .u8 (p 0), .int .u8 (p 1), .int .u8 (p 2), .int .u8 (p 3)])).run Try.prog w = .ok (.bool true) w := by
  have hu : Try.prog.underlying 33 = some (.struct (Try.prog.fieldsOf 33)) := by kernel_rfl
  have h5 : Try.prog.underlying 5 = some (.int .u8) := Try.underlying5
  rw [run_eql_struct, run_equalIn_agg w 9999 33 _ _ hu (by kernel_rfl)]
  have hf : (Try.prog.fieldsOf 33).toList.map (fun f => (f.type, f.offset)) = [(5, 0), (5, 1), (5, 2), (5, 3)] := by kernel_rfl
  generalize (Try.prog.fieldsOf 33).toList = l at hf ⊢
  obtain ⟨f0, f1, f2, f3, rfl⟩ := list4 l (by simpa using congrArg List.length hf)
  simp only [List.map_cons, List.map_nil, List.cons.injEq, Prod.mk.injEq, and_true] at hf
  obtain ⟨⟨a0, o0⟩, ⟨a1, o1⟩, ⟨a2, o2⟩, a3, o3⟩ := hf
  simp [Op.eqFields, part, isAgg, run_underlying h5, run_equalIn_int _ _ _ _ _ _ _ h5, Sem.run_bind, a0, a1, a2, a3, o0, o1, o2, o3]

/-- Wide. -/
def widV (x : Nat → Int) (i : Nat) : Int := 257 * x i

theorem wide_new (w : World) (x : Nat → Int) (t t' : TypeId) : ∃ w0, (w.alloc (.cells #[.int .u8 (x 0), .int .u8 (x 1), .int .u8 (x 2), .int .u8 (x 3)] t)).alloc (.cells #[.int .i64 0, .int .i64 0, .int .i64 0] t') = w0 ∧
    Below w.heap.size w w0 ∧ Fou t w0 w.heap.size x ∧ Tri t' w0 (w.heap.size + 1) (fun _ => 0) := by
  refine ⟨_, rfl, ((Below.refl _ w).alloc (Nat.le_refl _) _).alloc (by simp) _, (Fou.new w x t).on ((Below.refl _ _).alloc (Nat.le_refl _) _), ?_⟩
  have h := Tri.new (w.alloc (.cells #[.int .u8 (x 0), .int .u8 (x 1), .int .u8 (x 2), .int .u8 (x 3)] t)) (fun _ => 0) t'
  rw [World.size_alloc] at h
  exact h

set_option maxRecDepth 100000 in
set_option maxHeartbeats 1000000 in
theorem wide_any {x : Nat → Int} {w : World} (hx : ∀ i, i < 4 → 0 ≤ x i ∧ x i ≤ 255) :
    Calls Try.prog 39 #[pix x] w fun e w' => e = .returned (col (widV x)) ∧ Below w.heap.size w w' := by
  obtain ⟨w0, h0, hb0, t1, t2⟩ := wide_new w x 33 28
  have c0 := t1.cell 0 (by omega)
  have c1 := t1.cell 1 (by omega)
  have c2 := t1.cell 2 (by omega)
  have x0 := t2.c0
  have x1 := t2.c1
  have x2 := t2.c2
  have y0 := t2.free 0
  have y1 := t2.free 1
  have y2 := t2.free 2
  have b0 := hx 0 (by omega)
  have b1 := hx 1 (by omega)
  have b2 := hx 2 (by omega)
  clear t1 t2 hx
  unfold pix
  go_enter Try.func39, Try.ntmps39
  go_wp2
  refine bodyPost_ret (v := .agg #[.int .i64 (257 * x 0), .int .i64 (257 * x 1), .int .i64 (257 * x 2)]) (by simp [results, Try.results39, go_sem, *]) rfl ?_
  exact ⟨rfl, set3_below hb0 (by omega) _ _ _⟩

set_option maxRecDepth 100000 in
set_option maxHeartbeats 1000000 in
theorem refWide_any {x : Nat → Int} {w : World} (hx : ∀ i, i < 4 → 0 ≤ x i ∧ x i ≤ 255) :
    Calls Try.prog 40 #[pix x] w fun e w' => e = .returned (col (widV x)) ∧ Below w.heap.size w w' := by
  obtain ⟨w0, h0, hb0, t1, t2⟩ := wide_new w x 33 28
  have c0 := t1.cell 0 (by omega)
  have c1 := t1.cell 1 (by omega)
  have c2 := t1.cell 2 (by omega)
  have x0 := t2.c0
  have x1 := t2.c1
  have x2 := t2.c2
  have y0 := t2.free 0
  have y1 := t2.free 1
  have y2 := t2.free 2
  have b0 := hx 0 (by omega)
  have b1 := hx 1 (by omega)
  have b2 := hx 2 (by omega)
  clear t1 t2 hx
  unfold pix
  go_enter Try.func40, Try.ntmps40
  go_wp2
  refine bodyPost_ret (v := .agg #[.int .i64 (257 * x 0), .int .i64 (257 * x 1), .int .i64 (257 * x 2)]) (by simp [results, Try.results40, go_sem, *]) rfl ?_
  exact ⟨rfl, set3_below hb0 (by omega) _ _ _⟩

theorem narB_new (w : World) (c : Nat → Int) (t t' : TypeId) : ∃ w0, (w.alloc (.cells #[.int .i64 (c 0), .int .i64 (c 1), .int .i64 (c 2)] t)).alloc (.cells #[.int .u8 0, .int .u8 0, .int .u8 0, .int .u8 0] t') = w0 ∧
    Below w.heap.size w w0 ∧ Tri t w0 w.heap.size c ∧ Fou t' w0 (w.heap.size + 1) (fun _ => 0) := by
  refine ⟨_, rfl, ((Below.refl _ w).alloc (Nat.le_refl _) _).alloc (by simp) _, (Tri.new w c t).alloc _, ?_⟩
  have h := Fou.new (w.alloc (.cells #[.int .i64 (c 0), .int .i64 (c 1), .int .i64 (c 2)] t)) (fun _ => 0) t'
  rw [World.size_alloc] at h
  exact h

set_option maxRecDepth 100000 in
set_option maxHeartbeats 2000000 in
theorem refNarrow_any {c : Nat → Int} {al : Int} {w : World} :
    Calls Try.prog 42 #[col c, .int .i64 al] w fun e w' => e = .returned (pix (narV c al)) ∧ Below w.heap.size w w' := by
  obtain ⟨w0, h0, hb0, t1, t2⟩ := narB_new w c 28 33
  have T2 := Lib.hid t2
  have c0 := t1.c0
  have c1 := t1.c1
  have c2 := t1.c2
  have hl0 := t2.lt
  obtain ⟨A, hA⟩ : ∃ A, clm 0 255 al = A := ⟨_, rfl⟩
  obtain ⟨a0, a1⟩ : 0 ≤ A ∧ A ≤ 255 := by rw [← hA]; exact clm_bd (by omega) al
  have HN : Hid (∀ i, narV c al i = if A = 0 then 0 else if i = 3 then A else (gam c i + 128) / 257) := Lib.hid (fun i => by unfold narV; rw [hA])
  have HA := Lib.hid hA
  have b0 : 0 ≤ gam c 0 ∧ gam c 0 ≤ 65535 := InG.of c 0 (by omega)
  have b1 : 0 ≤ gam c 1 ∧ gam c 1 ≤ 65535 := InG.of c 1 (by omega)
  have b2 : 0 ≤ gam c 2 ∧ gam c 2 ≤ 65535 := InG.of c 2 (by omega)
  clear t1 t2 hA
  unfold col
  go_enter Try.func42, Try.ntmps42
  go_wp2_with fail
  refine (refGamut_any (c := c)).mono ?_
  unfold col
  rintro e w1 ⟨rfl, hb1⟩
  obtain ⟨g, hg⟩ : ∃ g, gam c = g := ⟨_, rfl⟩
  rw [hg] at b0 b1 b2 HN ⊢
  clear hg
  obtain ⟨w2, h2⟩ : ∃ w2, w1.alloc (.cells #[.int .i64 (g 0), .int .i64 (g 1), .int .i64 (g 2)] 28) = w2 := ⟨_, rfl⟩
  have tg : Tri 28 w2 w1.heap.size g := by rw [← h2]; exact Tri.new w1 g _
  have hb2 : Below w1.heap.size w1 w2 := by rw [← h2]; exact (Below.refl _ _).alloc (Nat.le_refl _) _
  have hb02 := hb1.trans (hb2.mono hb1.size)
  have hq2 := hb0.trans (hb02.mono hb0.size)
  have TG := Lib.hid tg
  have T3 := Lib.hid (T2.out.on hb02)
  clear h0 c0 c1 c2 tg hb1 hb2 hb02
  have kc := Lib.hid (clamp_any (a := 0) (b := 255) (v := al) (w := w2) (by omega))
  rw [HA.out] at kc
  clear HA
  go_wp2_with fail
  refine kc.out.mono ?_
  rintro e w3 ⟨rfl, rfl⟩
  have x0 := T3.out.cell 0 (by omega)
  have x1 := T3.out.cell 1 (by omega)
  have x2 := T3.out.cell 2 (by omega)
  have x3 := T3.out.cell 3 (by omega)
  have y0 := T3.out.free 0
  have y1 := T3.out.free 1
  have y2 := T3.out.free 2
  have y3 := T3.out.free 3
  clear kc h2
  by_cases h : A = 0
  · subst h
    have e0 : narV c al 0 = 0 := (HN.out 0).trans (if_pos rfl)
    have e1 : narV c al 1 = 0 := (HN.out 1).trans (if_pos rfl)
    have e2 : narV c al 2 = 0 := (HN.out 2).trans (if_pos rfl)
    have e3 : narV c al 3 = 0 := (HN.out 3).trans (if_pos rfl)
    have HP : Hid (pix (narV c al) = .agg #[.int .u8 0, .int .u8 0, .int .u8 0, .int .u8 0]) := Lib.hid (by unfold pix; rw [e0, e1, e2, e3])
    clear e0 e1 e2 e3 HN
    go_wp2
    refine bodyPost_ret (v := .agg #[.int .u8 0, .int .u8 0, .int .u8 0, .int .u8 0]) (by simp [results, Try.results42, go_sem, *]) rfl ?_
    exact ⟨by rw [HP.out], set4_below hq2 (by omega) _ _ _ _⟩
  · have d0 : (A == 0) = false := by simp [h]
    have e0 : narV c al 0 = (g 0 + 128) / 257 := (HN.out 0).trans (by rw [if_neg h, if_neg (by omega)])
    have e1 : narV c al 1 = (g 1 + 128) / 257 := (HN.out 1).trans (by rw [if_neg h, if_neg (by omega)])
    have e2 : narV c al 2 = (g 2 + 128) / 257 := (HN.out 2).trans (by rw [if_neg h, if_neg (by omega)])
    have e3 : narV c al 3 = A := (HN.out 3).trans (by rw [if_neg h, if_pos rfl])
    have HP : Hid (pix (narV c al) = .agg #[.int .u8 ((g 0 + 128) / 257), .int .u8 ((g 1 + 128) / 257), .int .u8 ((g 2 + 128) / 257), .int .u8 A]) := Lib.hid (by unfold pix; rw [e0, e1, e2, e3])
    have c0 := TG.out.c0
    have c1 := TG.out.c1
    have c2 := TG.out.c2
    clear e0 e1 e2 e3 HN h
    go_wp2
    refine bodyPost_ret (v := .agg #[.int .u8 ((g 0 + 128) / 257), .int .u8 ((g 1 + 128) / 257), .int .u8 ((g 2 + 128) / 257), .int .u8 A]) (by simp [results, Try.results42, go_sem, *]) rfl ?_
    exact ⟨by rw [HP.out], set4_below hq2 (by omega) _ _ _ _⟩

end Go.Proofs.Ytmilljlkcbljpaa

/- Pixel and its reference. -/
namespace Go.Proofs.Ytmilljlkcbljpaa
open Go.RowKit Go.Sort

/-- Pixel. -/
noncomputable def pxV (n : Nat) (S : Nat → Sp) (x : Nat → Int) (i : Nat) : Int := if chkV n S = 0 then (if x 3 = 0 then 0 else narV (cnv S (widV x) (n - 1)) (x 3) i) else 0

theorem pxB_new (w : World) (x : Nat → Int) (t : TypeId) : ∃ w0, (w.alloc (.cells #[.int .u8 (x 0), .int .u8 (x 1), .int .u8 (x 2), .int .u8 (x 3)] t)).alloc (.cells #[.int .u8 0, .int .u8 0, .int .u8 0, .int .u8 0] t) = w0 ∧
    Below w.heap.size w w0 ∧ Fou t w0 w.heap.size x ∧ Fou t w0 (w.heap.size + 1) (fun _ => 0) := by
  refine ⟨_, rfl, ((Below.refl _ w).alloc (Nat.le_refl _) _).alloc (by simp) _, (Fou.new w x t).on ((Below.refl _ _).alloc (Nat.le_refl _) _), ?_⟩
  have h := Fou.new (w.alloc (.cells #[.int .u8 (x 0), .int .u8 (x 1), .int .u8 (x 2), .int .u8 (x 3)] t)) (fun _ => 0) t
  rw [World.size_alloc] at h
  exact h

theorem pxV_0 {n : Nat} {S : Nat → Sp} {x : Nat → Int} (h : chkV n S ≠ 0 ∨ x 3 = 0) : pix (pxV n S x) = .agg #[.int .u8 0, .int .u8 0, .int .u8 0, .int .u8 0] := by
  have e : ∀ i, pxV n S x i = 0 := fun i => by
    unfold pxV
    rcases h with h | h
    · rw [if_neg h]
    · rw [if_pos h]; split <;> rfl
  unfold pix
  rw [e, e, e, e]

set_option maxRecDepth 100000 in
set_option maxHeartbeats 2000000 in
theorem Pixel_any {n B : Nat} {v : Value} {S : Nat → Sp} {x : Nat → Int} {w : World} (hn : n ≤ 9223372036854775807) (hB : B ≤ w.heap.size) (hc : Chn w B v n S) (hx : ∀ i, i < 4 → 0 ≤ x i ∧ x i ≤ 255) :
    Calls Try.prog 36 #[v, pix x] w fun e w' => e = .returned (.tuple #[pix (pxV n S x), .int .i64 (chkV n S)]) ∧ Below w.heap.size w w' := by
  obtain ⟨w0, h0, hb0, t1, t2⟩ := pxB_new w x 33
  have kc := Lib.hid (check_any (w := w0) hn (Nat.le_trans hB hb0.size) (hc.below hb0 hB))
  have T1 := Lib.hid t1
  have T2 := Lib.hid t2
  have HC := Lib.hid hc
  have HX := Lib.hid hx
  have hl0 := t2.lt
  obtain ⟨av, cv, rfl⟩ := hc.shape
  have b3 := hx 3 (by omega)
  have HZ := Lib.hid (@pxV_0 n S x)
  have HY : Hid (chkV n S = 0 → x 3 ≠ 0 → ∀ i, pxV n S x i = narV (cnv S (widV x) (n - 1)) (x 3) i) := Lib.hid (fun h1 h2 i => by unfold pxV; rw [if_pos h1, if_neg h2])
  have HK : Hid (chkV n S = 0 → n ≠ 0 ∧ n ≤ 8 ∧ ∀ k, k < n → (S k).val = true) := Lib.hid chkV_ok
  obtain ⟨E, hE⟩ : ∃ E, chkV n S = E := ⟨_, rfl⟩
  rw [hE] at kc HZ HY HK ⊢
  clear t1 t2 hc hx hE
  unfold pix
  go_enter Try.func36, Try.ntmps36
  go_wp2_with fail
  refine kc.out.mono ?_
  rintro e w1 ⟨rfl, hb1⟩
  have hq := hb0.trans (hb1.mono hb0.size)
  have T1' := Lib.hid (T1.out.on hb1)
  have T2' := Lib.hid (T2.out.on hb1)
  clear h0 hb1
  by_cases he : E = 0
  · subst he
    have c0 := T1'.out.cell 0 (by omega)
    have c1 := T1'.out.cell 1 (by omega)
    have c2 := T1'.out.cell 2 (by omega)
    have c3 := T1'.out.cell 3 (by omega)
    by_cases ha : x 3 = 0
    · have da : (x 3 == 0) = true := by simp [ha]
      have x0 := T2'.out.cell 0 (by omega)
      have x1 := T2'.out.cell 1 (by omega)
      have x2 := T2'.out.cell 2 (by omega)
      have x3 := T2'.out.cell 3 (by omega)
      have y0 := T2'.out.free 0
      have y1 := T2'.out.free 1
      have y2 := T2'.out.free 2
      have y3 := T2'.out.free 3
      have HZ' := Lib.hid (HZ.out (.inr ha))
      clear ha
      go_wp2
      refine bodyPost_ret (v := .tuple #[.agg #[.int .u8 0, .int .u8 0, .int .u8 0, .int .u8 0], .int .i64 0]) (by simp [results, Try.results36, go_sem, *]) rfl ?_
      exact ⟨by rw [← HZ'.out]; rfl, set4_below hq (by omega) _ _ _ _⟩
    · have da : (x 3 == 0) = false := by simp [ha]
      obtain ⟨hn0, hn8, hval⟩ := HK.out rfl
      have HVV := Lib.hid hval
      have HY' := Lib.hid (HY.out rfl ha)
      have r0 := cell_regrown c0
      have r1 := cell_regrown c1
      have r2 := cell_regrown c2
      have r3 := cell_regrown c3
      have kw := Lib.hid (Calls.grown_of (w := w1) (f := 39) fun W hW => wide_any (x := x) (w := W) HX.out)
      have kv := Lib.hid (Calls.grown_of (w := w1) (f := 52) fun W hW => convert_any (n := n) (S := S) (c := widV x) (w := W) (B := B) (by omega) (by omega) (Nat.le_trans (Nat.le_trans hB hq.size) hW.size) (HC.out.below (hq.trans (hW.mono hq.size)) hB) HVV.out)
      obtain ⟨Y, hY⟩ : ∃ Y, cnv S (widV x) (n - 1) = Y := ⟨_, rfl⟩
      rw [hY] at kv HY'
      have kn := Lib.hid (Calls.grown_of (w := w1) (f := 41) fun W hW => narrow_any (c := Y) (al := x 3) (w := W))
      obtain ⟨P, hP⟩ : ∃ P, narV Y (x 3) = P := ⟨_, rfl⟩
      have HP : Hid (pix (pxV n S x) = .agg #[.int .u8 (P 0), .int .u8 (P 1), .int .u8 (P 2), .int .u8 (P 3)]) := Lib.hid (by unfold pix; rw [HY'.out, HY'.out, HY'.out, HY'.out, hP])
      rw [hP] at kn
      unfold pix col at kw kn
      unfold col at kv
      clear ha hval hY hP
      go_wp2
      refine region_below_tail 8 (by kernel_rfl) (by kernel_rfl) ?_
      simp only [List.take_succ_cons, List.take_zero, List.drop_succ_cons, List.drop_zero]
      repeat (go_big_quiet_step ((first | with_reducible exact kw.out _ _ | with_reducible exact kv.out _ _ | with_reducible exact kn.out _ _)))
      refine wpQuiet_nil ?_
      intro w2 hw2
      replace hw2 := below_of_regrown hw2
      have T3 := T2'.out.on hw2
      have x0 := T3.cell 0 (by omega)
      have x1 := T3.cell 1 (by omega)
      have x2 := T3.cell 2 (by omega)
      have x3 := T3.cell 3 (by omega)
      have y0 := T3.free 0
      have y1 := T3.free 1
      have y2 := T3.free 2
      have y3 := T3.free 3
      have hq2 := hq.trans (hw2.mono hq.size)
      clear T3 r0 r1 r2 r3 c0 c1 c2 c3
      go_wp2
      refine bodyPost_ret (v := .tuple #[.agg #[.int .u8 (P 0), .int .u8 (P 1), .int .u8 (P 2), .int .u8 (P 3)], .int .i64 0]) (by simp [results, Try.results36, go_sem, *]) rfl ?_
      exact ⟨by rw [← HP.out]; rfl, set4_below hq2 (by omega) _ _ _ _⟩
  · have de : (E != 0) = true := by simpa using he
    have x0 := T2'.out.cell 0 (by omega)
    have x1 := T2'.out.cell 1 (by omega)
    have x2 := T2'.out.cell 2 (by omega)
    have x3 := T2'.out.cell 3 (by omega)
    have y0 := T2'.out.free 0
    have y1 := T2'.out.free 1
    have y2 := T2'.out.free 2
    have y3 := T2'.out.free 3
    have HZ' := Lib.hid (HZ.out (.inl he))
    clear he
    go_wp2
    refine bodyPost_ret (v := .tuple #[.agg #[.int .u8 0, .int .u8 0, .int .u8 0, .int .u8 0], .int .i64 E]) (by simp [results, Try.results36, go_sem, *]) rfl ?_
    exact ⟨by rw [← HZ'.out]; rfl, set4_below hq (by omega) _ _ _ _⟩

theorem pxG_new (w : World) (x : Nat → Int) (t : TypeId) : ∃ w0, (w.alloc (.cells #[.int .u8 (x 0), .int .u8 (x 1), .int .u8 (x 2), .int .u8 (x 3)] t)).alloc (.cells #[.int .i64 0, .int .i64 0, .int .i64 0, .int .i64 0, .slice none 0 0, .int .i64 0, .int .u8 0, .int .u8 0, .int .u8 0, .int .u8 0, .int .i64 0] 36) = w0 ∧
    Below w.heap.size w w0 ∧ Fou t w0 w.heap.size x ∧ Gox w0 (w.heap.size + 1) := by
  refine ⟨_, rfl, ((Below.refl _ w).alloc (Nat.le_refl _) _).alloc (by simp) _, (Fou.new w x t).on ((Below.refl _ _).alloc (Nat.le_refl _) _), ?_⟩
  have h := heap_alloc_new (w.alloc (.cells #[.int .u8 (x 0), .int .u8 (x 1), .int .u8 (x 2), .int .u8 (x 3)] t)) (.cells (gotE 0) 36)
  rw [World.size_alloc] at h
  exact h

theorem gotA_pix {p p' : Nat → Int} {c : Nat → Int} {N : Int} {x : Value} {k e : Int} (h : pix p = .agg #[.int .u8 (p' 0), .int .u8 (p' 1), .int .u8 (p' 2), .int .u8 (p' 3)]) : gotA c N x k p e = gotA c N x k p' e := by
  unfold pix at h
  simp only [Value.agg.injEq, Array.mk.injEq, List.cons.injEq, Value.int.injEq, true_and, and_true] at h
  unfold gotA
  rw [h.1, h.2.1, h.2.2.1, h.2.2.2]

set_option maxRecDepth 100000 in
set_option maxHeartbeats 2000000 in
theorem refPixel_any {n B : Nat} {v : Value} {S : Nat → Sp} {x : Nat → Int} {w : World} (hn : n ≤ 9223372036854775807) (hB : B ≤ w.heap.size) (hc : Chn w B v n S) (hx : ∀ i, i < 4 → 0 ≤ x i ∧ x i ≤ 255) :
    Calls Try.prog 38 #[v, pix x] w fun e w' => e = .returned (.agg (gotA (fun _ => 0) 0 (.slice none 0 0) 0 (pxV n S x) (chkV n S))) ∧ Below w.heap.size w w' := by
  obtain ⟨w0, h0, hb0, t1, t2⟩ := pxG_new w x 33
  have kc := Lib.hid (refCheck_any (w := w0) hn (Nat.le_trans hB hb0.size) (hc.below hb0 hB))
  have T1 := Lib.hid t1
  have T2 := Lib.hid t2
  have HC := Lib.hid hc
  have HX := Lib.hid hx
  have hl0 := t2.lt
  obtain ⟨av, cv, rfl⟩ := hc.shape
  have b3 := hx 3 (by omega)
  have HZ := Lib.hid (@pxV_0 n S x)
  have HY : Hid (chkV n S = 0 → x 3 ≠ 0 → ∀ i, pxV n S x i = narV (cnv S (widV x) (n - 1)) (x 3) i) := Lib.hid (fun h1 h2 i => by unfold pxV; rw [if_pos h1, if_neg h2])
  have HK : Hid (chkV n S = 0 → n ≠ 0 ∧ n ≤ 8 ∧ ∀ k, k < n → (S k).val = true) := Lib.hid chkV_ok
  obtain ⟨E, hE⟩ : ∃ E, chkV n S = E := ⟨_, rfl⟩
  rw [hE] at kc HZ HY HK ⊢
  clear t1 t2 hc hx hE
  unfold pix
  go_enter Try.func38, Try.ntmps38
  go_wp2_with fail
  refine kc.out.mono ?_
  rintro e w1 ⟨rfl, hb1⟩
  have hq := hb0.trans (hb1.mono hb0.size)
  have T1' := Lib.hid (T1.out.on hb1)
  have T2' := Lib.hid (T2.out.on hb1)
  clear h0 hb1
  by_cases he : E = 0
  · subst he
    have c0 := T1'.out.cell 0 (by omega)
    have c1 := T1'.out.cell 1 (by omega)
    have c2 := T1'.out.cell 2 (by omega)
    have c3 := T1'.out.cell 3 (by omega)
    by_cases ha : x 3 = 0
    · have da : (x 3 == 0) = true := by simp [ha]
      have HZ' := Lib.hid (HZ.out (.inr ha))
      clear ha
      go_wp2_with (refine list_store (cs := gotE 0) rfl 36 (.tmp 4) (.tmp 15) (by rfl) (by rfl) (by rfl) T2'.out info_got rfl (gotA_one _ _ _ _ _ _ _ _) ?_; intro W4 h4 hx; have h4' := Lib.hid h4; clear h4)
      refine bodyPost_ret (v := .agg (gotE 0)) (results_cell_row rfl _ _ (w.heap.size + 1) _ _ _ _ rfl h4'.out Try.underlying36 rfl info_got) rfl ?_
      exact ⟨by rw [gotA_pix (p' := fun _ => 0) HZ'.out]; rfl, Exc.below hq hx (by omega) hq.size⟩
    · have da : (x 3 == 0) = false := by simp [ha]
      obtain ⟨hn0, hn8, hval⟩ := HK.out rfl
      have HVV := Lib.hid hval
      have HY' := Lib.hid (HY.out rfl ha)
      have r0 := cell_regrown c0
      have r1 := cell_regrown c1
      have r2 := cell_regrown c2
      have r3 := cell_regrown c3
      have kw := Lib.hid (Calls.grown_of (w := w1) (f := 40) fun W hW => refWide_any (x := x) (w := W) HX.out)
      have kv := Lib.hid (Calls.grown_of (w := w1) (f := 75) fun W hW => refConvert_any (n := n) (S := S) (c := widV x) (w := W) (B := B) (by omega) (by omega) (Nat.le_trans (Nat.le_trans hB hq.size) hW.size) (HC.out.below (hq.trans (hW.mono hq.size)) hB) HVV.out)
      obtain ⟨Y, hY⟩ : ∃ Y, cnv S (widV x) (n - 1) = Y := ⟨_, rfl⟩
      rw [hY] at kv HY'
      have kn := Lib.hid (Calls.grown_of (w := w1) (f := 42) fun W hW => refNarrow_any (c := Y) (al := x 3) (w := W))
      obtain ⟨P, hP⟩ : ∃ P, narV Y (x 3) = P := ⟨_, rfl⟩
      have HP : Hid (pix (pxV n S x) = .agg #[.int .u8 (P 0), .int .u8 (P 1), .int .u8 (P 2), .int .u8 (P 3)]) := Lib.hid (by unfold pix; rw [HY'.out, HY'.out, HY'.out, HY'.out, hP])
      rw [hP] at kn
      unfold pix col at kw kn
      unfold col at kv
      clear ha hval hY hP
      go_wp2
      refine region_below_tail 9 (by kernel_rfl) (by kernel_rfl) ?_
      simp only [List.take_succ_cons, List.take_zero, List.drop_succ_cons, List.drop_zero]
      repeat (go_big_quiet_step ((first | with_reducible exact kw.out _ _ | with_reducible exact kv.out _ _ | with_reducible exact kn.out _ _)))
      refine wpQuiet_nil ?_
      intro w2 hw2
      replace hw2 := below_of_regrown hw2
      have T3 := Lib.hid (T2'.out.on hw2)
      have hq2 := hq.trans (hw2.mono hq.size)
      clear r0 r1 r2 r3 c0 c1 c2 c3
      go_wp2_with (refine list_store (cs := gotP P) rfl 36 (.tmp 4) (.tmp 24) (by rfl) (by rfl) (by rfl) T3.out info_got rfl (gotA_one _ _ _ _ _ _ _ _) ?_; intro W4 h4 hx; have h4' := Lib.hid h4; clear h4)
      refine bodyPost_ret (v := .agg (gotP P)) (results_cell_row rfl _ _ (w.heap.size + 1) _ _ _ _ rfl h4'.out Try.underlying36 rfl info_got) rfl ?_
      exact ⟨by rw [gotA_pix (p' := P) HP.out]; rfl, Exc.below hq2 hx (by omega) hq2.size⟩
  · have de : (E != 0) = true := by simpa using he
    have HZ' := Lib.hid (HZ.out (.inl he))
    clear he
    go_wp2_with (refine list_store (cs := gotE E) rfl 36 (.tmp 4) (.tmp 11) (by rfl) (by rfl) (by rfl) T2'.out info_got rfl (gotA_one _ _ _ _ _ _ _ _) ?_; intro W4 h4 hx; have h4' := Lib.hid h4; clear h4)
    refine bodyPost_ret (v := .agg (gotE E)) (results_cell_row rfl _ _ (w.heap.size + 1) _ _ _ _ rfl h4'.out Try.underlying36 rfl info_got) rfl ?_
    exact ⟨by rw [gotA_pix (p' := fun _ => 0) HZ'.out]; rfl, Exc.below hq hx (by omega) hq.size⟩

end Go.Proofs.Ytmilljlkcbljpaa

/- Chains that the call owns: doubled, one entry struck. -/
namespace Go.Proofs.Ytmilljlkcbljpaa
open Go.RowKit Go.Sort

/-- A chain in a row of the call's own; its curves lie elsewhere. -/
def IsCh (w : World) (base : Nat) (x : Value) (n : Nat) (S : Nat → Sp) : Prop :=
  w.ownsRow base 63 21 x n (valsS S n) ∧ ∀ j, j < n → ∀ i, i < 3 → (S j).n i ≤ 9223372036854775807 ∧ SlN x w ((S j).v i) ((S j).n i) ((S j).f i)
theorem IsCh.of {w : World} {base n : Nat} {x : Value} {vs : Nat → Nat → Value} {f : Nat → Int} (h : IsChn w base x n vs f) : IsCh w base x n (fun j => Sq (vs j) (f j)) :=
  ⟨h.1, fun j hj i hi => ⟨cvN_le _, h.2 j hj i hi⟩⟩
theorem IsCh.chn {w : World} {base n : Nat} {x : Value} {S : Nat → Sp} (h : IsCh w base x n S) : Chn w w.heap.size x n S :=
  chn_of_own h.1 fun k hk i hi => ⟨(h.2 k hk i hi).1, (h.2 k hk i hi).2.sl⟩
theorem IsCh.on {w w' : World} {base n : Nat} {x : Value} {S : Nat → Sp} (h : IsCh w base x n S) (hb : Below w.heap.size w w') : IsCh w' base x n S :=
  ⟨own_below h.1 hb, fun j hj i hi => ⟨(h.2 j hj i hi).1, (h.2 j hj i hi).2.on hb⟩⟩

theorem valsS_add (S : Nat → Sp) (n : Nat) : ∀ m, valsS S (n + m) = valsS S n ++ valsS (fun j => S (n + j)) m
  | 0 => by rw [valsS_zero, List.append_nil]; rfl
  | m + 1 => by rw [← Nat.add_assoc, valsS_snoc, valsS_snoc, valsS_add S n m, List.append_assoc]
/-- A chain behind itself. -/
def dupS (S : Nat → Sp) (n j : Nat) : Sp := if j < n then S j else S (j - n)
theorem valsS_dup (S : Nat → Sp) (n : Nat) : valsS (dupS S n) (n + n) = valsS S n ++ valsS S n := by
  rw [valsS_add]
  congr 1
  · exact valsS_congr n fun k hk => by unfold dupS; rw [if_pos hk]
  · exact valsS_congr n fun k hk => by unfold dupS; rw [if_neg (by omega), show n + k - n = k by omega]
theorem IsCh.dup {w w' : World} {base n : Nat} {x x' : Value} {S : Nat → Sp} (h : IsCh w base x n S) (ho : w'.ownsRow base 63 21 x' (n + n) (valsS S n ++ valsS S n)) (hg : w.grownBy w' x.ownBlock) (hx : x'.ownBlock = x.ownBlock ∨ x'.ownBlock = some w.heap.size) :
    IsCh w' base x' (n + n) (dupS S n) := by
  refine ⟨by rw [valsS_dup]; exact ho, fun j hj i hi => ?_⟩
  unfold dupS
  split
  · exact ⟨(h.2 j (by omega) i hi).1, (h.2 j (by omega) i hi).2.grown hg hx⟩
  · exact ⟨(h.2 (j - n) (by omega) i hi).1, (h.2 (j - n) (by omega) i hi).2.grown hg hx⟩

/-- The first entry of a matrix, struck. -/
def Sp.z (s : Sp) : Sp := { s with t := fun i => if i = 0 then 0 else s.t i }
theorem Sp.z_cells (s : Sp) : s.z.cells = s.cells.setIfInBounds 3 (.int .i64 0) := rfl
def setZ (S : Nat → Sp) (j k : Nat) : Sp := if k = j then (S j).z else S k
theorem valsS_set (S : Nat → Sp) (n j : Nat) (hj : j < n) : (valsS S n).set (j * 21 + 3) (.int .i64 0) = valsS (setZ S j) n := by
  apply List.ext_getElem?
  intro idx
  by_cases hi : idx < n * 21
  · obtain ⟨k, r, rfl, hk, hr⟩ : ∃ k r, idx = k * 21 + r ∧ k < n ∧ r < 21 := ⟨idx / 21, idx % 21, by omega, by omega, by omega⟩
    have sz : ∀ s : Sp, s.cells.size = 21 := fun s => rfl
    by_cases e : k = j
    · subst e
      obtain ⟨y, hy⟩ : ∃ y, (S k).z.cells[r]? = some y := ⟨_, Array.getElem?_eq_getElem (by rw [sz]; exact hr)⟩
      have h1 : (valsS (setZ S k) n)[k * 21 + r]? = some y := valsS_get _ n k r y hk (by unfold setZ; rw [if_pos rfl]; exact hy)
      rw [h1]
      by_cases e3 : r = 3
      · subst e3
        rw [List.getElem?_set_self (by rw [valsS_len]; omega)]
        rw [Sp.z_cells, Array.getElem?_setIfInBounds_self_of_lt (by rw [sz]; omega)] at hy
        exact hy
      · rw [List.getElem?_set_ne (by omega)]
        rw [Sp.z_cells, Array.getElem?_setIfInBounds_ne (by omega)] at hy
        exact valsS_get S n k r y hk hy
    · obtain ⟨y, hy⟩ : ∃ y, (S k).cells[r]? = some y := ⟨_, Array.getElem?_eq_getElem (by rw [sz]; exact hr)⟩
      rw [List.getElem?_set_ne (by omega), valsS_get S n k r y hk hy, valsS_get (setZ S j) n k r y hk (by unfold setZ; rw [if_neg e]; exact hy)]
  · rw [List.getElem?_eq_none (by rw [List.length_set, valsS_len]; omega), List.getElem?_eq_none (by rw [valsS_len]; omega)]
theorem IsCh.strike {w : World} {base n g cap j : Nat} {S : Nat → Sp} (h : IsCh w base (.slice (some ⟨g, 0, none⟩) n cap) n S) (hj : j < n) :
    IsCh (w.setCell ⟨g, j * 21 + 3, none⟩ (.int .i64 0)) base (.slice (some ⟨g, 0, none⟩) n cap) n (setZ S j) ∧ base ≤ g := by
  obtain ⟨h1, h2⟩ := h.1.stored (j * 21 + 3) (.int .i64 0)
  refine ⟨⟨by rw [← valsS_set S n j hj]; exact h1, fun k hk i hi => ?_⟩, ?_⟩
  · have e : (setZ S j k).n i = (S k).n i ∧ (setZ S j k).v i = (S k).v i ∧ (setZ S j k).f i = (S k).f i := by
      unfold setZ
      split
      · rename_i e; subst e; exact ⟨rfl, rfl, rfl⟩
      · exact ⟨rfl, rfl, rfl⟩
    rw [e.1, e.2.1, e.2.2]
    exact ⟨(h.2 k hk i hi).1, (h.2 k hk i hi).2.grown h2 (.inl rfl)⟩
  · rcases h.1.2 with ⟨h', _⟩ | ⟨g', cap', cur, h', hb, _⟩
    · simp at h'
    · simp only [Value.slice.injEq, Option.some.injEq, Addr.mk.injEq, and_true, true_and] at h'
      obtain ⟨rfl, rfl⟩ := h'
      exact hb
theorem IsCh.cell {w : World} {base n g cap j : Nat} {S : Nat → Sp} (h : IsCh w base (.slice (some ⟨g, 0, none⟩) n cap) n S) (hj : j < n) :
    w.cell? ⟨g, j * 21 + 3, none⟩ = some (.int .i64 ((S j).t 0)) ∧ ∀ k, w.frozen? ⟨g, k, none⟩ = false := by
  refine ⟨?_, fun k => h.1.frozenAt k⟩
  rw [h.1.cellAt _ (by omega)]
  exact valsS_get S n j 3 _ hj rfl

end Go.Proofs.Ytmilljlkcbljpaa

/- The statement ColourPixels, walked. -/
namespace Go.Proofs.Ytmilljlkcbljpaa
open Go.RowKit Go.Sort

/-- A pixel and a colour. -/
def both (x c : Nat → Int) : Value := .agg #[.int .u8 (x 0), .int .u8 (x 1), .int .u8 (x 2), .int .u8 (x 3), .int .i64 (c 0), .int .i64 (c 1), .int .i64 (c 2)]
def Sev (t : TypeId) (w : World) (b : Nat) (x c : Nat → Int) : Prop := w.heap[b]? = some (.cells #[.int .u8 (x 0), .int .u8 (x 1), .int .u8 (x 2), .int .u8 (x 3), .int .i64 (c 0), .int .i64 (c 1), .int .i64 (c 2)] t (0, 0))
theorem Sev.on {t : TypeId} {w w' : World} {b : Nat} {x c : Nat → Int} (h : Sev t w b x c) (hb : Below w.heap.size w w') : Sev t w' b x c := (hb.block b (Array.getElem?_eq_some_iff.1 h).1).trans h
theorem Sev.px {t : TypeId} {w : World} {b : Nat} {x c : Nat → Int} (h : Sev t w b x c) : w.cell? ⟨b, 0, none⟩ = some (.int .u8 (x 0)) ∧ w.cell? ⟨b, 1, none⟩ = some (.int .u8 (x 1)) ∧ w.cell? ⟨b, 2, none⟩ = some (.int .u8 (x 2)) ∧ w.cell? ⟨b, 3, none⟩ = some (.int .u8 (x 3)) := by
  have h' : w.heap[b]? = _ := h
  simp [World.cell?, h']
theorem Sev.cl {t : TypeId} {w : World} {b : Nat} {x c : Nat → Int} (h : Sev t w b x c) : w.cell? ⟨b, 4, none⟩ = some (.int .i64 (c 0)) ∧ w.cell? ⟨b, 5, none⟩ = some (.int .i64 (c 1)) ∧ w.cell? ⟨b, 6, none⟩ = some (.int .i64 (c 2)) := by
  have h' : w.heap[b]? = _ := h
  simp [World.cell?, h']

theorem pixelsB_new (w : World) (a b : Int) (x c : Nat → Int) : ∃ w0, (w.alloc (.cells #[.int .i64 a, .int .i64 b] 51)).alloc (.cells #[.int .u8 (x 0), .int .u8 (x 1), .int .u8 (x 2), .int .u8 (x 3), .int .i64 (c 0), .int .i64 (c 1), .int .i64 (c 2)] 73) = w0 ∧
    Below w.heap.size w w0 ∧ Two 51 w0 w.heap.size (.int .i64 a) (.int .i64 b) ∧ Sev 73 w0 (w.heap.size + 1) x c := by
  refine ⟨_, rfl, ((Below.refl _ w).alloc (Nat.le_refl _) _).alloc (by simp) _, (Two.new w _ _ _).alloc _, ?_⟩
  have h := heap_alloc_new (w.alloc (.cells #[.int .i64 a, .int .i64 b] 51)) (.cells #[.int .u8 (x 0), .int .u8 (x 1), .int .u8 (x 2), .int .u8 (x 3), .int .i64 (c 0), .int .i64 (c 1), .int .i64 (c 2)] 73)
  rw [World.size_alloc] at h
  exact h

theorem valsS_one {S : Nat → Sp} {n : Nat} {w : World} {B : Nat} (h : ∀ k, k < n → (S k).ok w B) : ∀ u ∈ valsS S n, u.oneCell' = true := fun u hu => by
  unfold valsS at hu
  rw [List.mem_flatMap] at hu
  obtain ⟨k, hk, hu⟩ := hu
  exact Array.all_eq_true_iff_forall_mem.1 (sp_one (h k (List.mem_range.1 hk)) (S k).t (S k).m) u (by simpa [Sp.cells] using hu)

set_option maxRecDepth 100000 in
set_option maxHeartbeats 8000000 in
theorem colourPixels_walk {n0 : Nat} {v0 : Value} {f0 : Nat → Int} {a b : Int} {x c : Nat → Int} {w : World} (hn0 : n0 ≤ 9223372036854775807) (hs0 : Sl w w.heap.size v0 n0 f0) (hx : ∀ i, i < 4 → 0 ≤ x i ∧ x i ≤ 255) :
    Calls Try.prog 11 #[v0, .agg #[.int .i64 a, .int .i64 b], both x c] w fun e w' => e = .returned (.bool true) ∧ Below w.heap.size w w' := by
  obtain ⟨i0, hi, hz0, hz1, hz2⟩ := info_parts Try.info21
  obtain ⟨w0, h0, hq0, t0, t1⟩ := pixelsB_new w a b x c
  obtain ⟨aq, cq, rfl⟩ := hs0.shape
  have HS := Lib.hid hs0
  have HX := Lib.hid hx
  have A0 := Lib.hid t0
  have B0 := Lib.hid t1
  clear t0 t1 hs0 hx
  unfold both
  go_enter Try.func11, Try.ntmps11
  go_wp2_with fail
  refine (sanity_any w0).mono ?_
  rintro e w1 ⟨rfl, hb1⟩
  have hq1 := hq0.trans (hb1.mono hq0.size)
  have A1 := Lib.hid (A0.out.on hb1)
  have B1 := Lib.hid (B0.out.on hb1)
  obtain ⟨p0, p1, p2, p3⟩ := B1.out.px
  obtain ⟨w2, h2⟩ : ∃ w2, w1.alloc (.cells #[.int .u8 (x 0), .int .u8 (x 1), .int .u8 (x 2), .int .u8 (x 3)] 33) = w2 := ⟨_, rfl⟩
  have tp : Fou 33 w2 w1.heap.size x := by rw [← h2]; exact Fou.new w1 x _
  have hb2 : Below w1.heap.size w1 w2 := by rw [← h2]; exact (Below.refl _ _).alloc (Nat.le_refl _) _
  obtain ⟨p4, p5, p6⟩ := (B1.out.on hb2).cl
  obtain ⟨w3, h3⟩ : ∃ w3, w2.alloc (.cells #[.int .i64 (c 0), .int .i64 (c 1), .int .i64 (c 2)] 28) = w3 := ⟨_, rfl⟩
  have tc : Tri 28 w3 w2.heap.size c := by rw [← h3]; exact Tri.new w2 c _
  have hb3 : Below w2.heap.size w2 w3 := by rw [← h3]; exact (Below.refl _ _).alloc (Nat.le_refl _) _
  have hb13 := hb2.trans (hb3.mono hb2.size)
  have hq3 := hq1.trans (hb13.mono hq1.size)
  have A3 := Lib.hid (A1.out.on hb13)
  have P3 := Lib.hid (tp.on hb3)
  have C3 := Lib.hid tc
  clear h0 A0 B0 tp tc hb2 hb3 hb13
  go_wp2_with fail
  clear p0 p1 p2 p3 p4 p5 p6 h2 h3
  refine (refChain_any (B := w.heap.size) (by omega) hq3.size (HS.out.below hq3 (Nat.le_refl _))).mono ?_
  rintro e w4 ⟨xc, vs, rfl, hch, hb4⟩
  have HCH := Lib.hid (IsCh.of hch)
  clear hch
  obtain ⟨D, hD⟩ : ∃ D : Bool, decide (6 < (n0 : Int)) = D := ⟨_, rfl⟩
  go_upto_if 26 with (fail)
  go_cut [10] from 27 to 29 (fun y wx => ∃ (n : Nat) (S : Nat → Sp), n ≤ 10 ∧ IsCh wx w3.heap.size y n S ∧ Below w3.heap.size w3 wx)
  case first =>
    cases D with
    | true =>
      have h6 : 6 < n0 := by have := of_decide_eq_true hD; omega
      obtain ⟨S, hS⟩ : ∃ S : Nat → Sp, (fun j => Sq (vs j) (f0 j)) = S := ⟨_, rfl⟩
      obtain ⟨n, hn⟩ : ∃ n, min n0 5 = n := ⟨_, rfl⟩
      have hn5 : n = 5 := by omega
      rw [hS, hn] at HCH
      subst hn5
      obtain ⟨g, cap, rfl⟩ := own_pos HCH.out.1 (by omega)
      have hnews : Hid (∀ (j : Nat) (u : Value), (valsS S 5)[j]? = some u → w4.cell? ((⟨g, 0, none⟩ : Addr).add j) = some u) := Lib.hid (HCH.out.1.cells rfl)
      have hones : Hid (∀ u ∈ valsS S 5, u.oneCell' = true) := Lib.hid (valsS_one HCH.out.chn.1)
      clear hS hn h6 hD
      go_wp2_with (at_builtin; refine wpList_append_own_at _ rfl _ _ 25 rfl w3.heap.size 63 i0 (.agg #[.slice none 0 0, .slice none 0 0, .slice none 0 0, .int .i64 0, .int .i64 0, .int .i64 0, .int .i64 0, .int .i64 0, .int .i64 0, .int .i64 0, .int .i64 0, .int .i64 0, .int .i64 0, .int .i64 0, .int .i64 0, .int .i64 0, .int .i64 0, .int .i64 0, .int .i64 0, .int .i64 0, .int .i64 0]) 21 216 Try.underlying25 hi hz0 hz1 hz2 rfl (by decide) _ 5 (valsS S 5) rfl HCH.out.1 ⟨g, 0, none⟩ 5 cap (valsS S 5) rfl (valsS_len S 5) hnews.out hones.out (by unfold maxLen; omega) (by omega) hb4.size ?_; intro x' w6 hown' hgrow _ hob; have HO6 := Lib.hid hown'; have HG6 := Lib.hid hgrow; have HB6 := Lib.hid hob; clear hown' hgrow hob)
      go_meet
      case rel => exact ⟨10, dupS S 5, by omega, HCH.out.dup HO6.out HG6.out HB6.out, hb4.trans ((Below.refl w3.heap.size w4).grown HG6.out hb4.size (fun g hg => (HCH.out.1.lt g hg).1))⟩
    | false =>
      clear hD
      go_wp2
      go_meet
      case rel => exact ⟨min n0 5, _, by omega, HCH.out, hb4⟩
  case rest =>
    obtain ⟨n, S, hn10, hch, hb3c⟩ := hcut
    clear hD
    obtain ⟨ws, hws⟩ : ∃ ws : World, ws = wc := ⟨_, rfl⟩
    subst hws
    have shc := hch.chn.shape
    have HC1 := Lib.hid hch
    have HB1 := Lib.hid hb3c
    clear hch hb3c HCH hb4
    obtain ⟨ay, cy, rfl⟩ := shc
    have A4 := A3.out.on HB1.out
    have a1 := A4.c1
    clear A4
    go_upto_region 7 with (fail)
    go_cut [38] from 30 to 38 (fun p wx => ∃ T : Bool, (T = true → 0 < n) ∧ p = .bool T ∧ wx = ws)
    case first =>
      go_wp2_with fail
      refine (rest_any (x := b) (n := 3) (by omega) (by omega)).mono ?_
      rintro e w' ⟨⟨k3, hk3, hke, rfl⟩, rfl⟩
      clear hke
      by_cases hz : k3 = 0
      · have dz : ((k3 : Int) == 0) = true := by simp [hz]
        clear hz
        by_cases hn : 0 < n
        · have dn : decide (0 < n) = true := decide_eq_true hn
          have HN := Lib.hid hn
          go_wp2
          go_meet
          case rel => exact ⟨true, fun _ => HN.out, rfl, rfl⟩
        · have dn : decide (0 < n) = false := decide_eq_false hn
          go_wp2
          go_meet
          case rel => exact ⟨false, (fun h => by cases h), rfl, rfl⟩
      · have dz : ((k3 : Int) == 0) = false := by simp [hz]
        clear hz
        go_wp2
        go_meet
        case rel => exact ⟨false, (fun h => by cases h), rfl, rfl⟩
    case rest =>
      obtain ⟨T, hT, rfl, rfl⟩ := hcut
      clear a1
      have A5 := A3.out.on HB1.out
      have a0 := A5.c0
      clear A5
      have HT := Lib.hid hT
      clear hT
      go_upto_if 38 with (fail)
      go_cut [10] from 39 to 47 (fun z wx => ∃ S' : Nat → Sp, z = .slice ay n cy ∧ IsCh wx w3.heap.size (.slice ay n cy) n S' ∧ Below w3.heap.size w3 wx)
      case first =>
        cases T with
        | true =>
          have hn := HT.out rfl
          obtain ⟨g, cap, hy⟩ := own_pos HC1.out.1 hn
          cases hy
          go_wp2_with fail
          refine (rest_any (x := a) (n := n) (by omega) (by omega)).mono ?_
          rintro e w' ⟨⟨k, hk, hke, rfl⟩, rfl⟩
          have i1 : 0 ≤ (k : Int) ∧ (k : Int) < n := by omega
          obtain ⟨z0, z1⟩ := HC1.out.cell hk
          have z2 := z1 (k * 21 + 3)
          have HI := Lib.hid (HC1.out.strike hk)
          have HQ := Lib.hid (HB1.out.setCell (p := ⟨g, k * 21 + 3, none⟩) (HI.out.2) (.int .i64 0))
          clear hke z1
          go_wp2
          go_meet
          case rel => exact ⟨_, rfl, HI.out.1, HQ.out⟩
        | false =>
          go_wp2
          go_meet
          case rel => exact ⟨S, rfl, HC1.out, HB1.out⟩
      case rest =>
        obtain ⟨S', rfl, hch, hb3d⟩ := hcut
        obtain ⟨wt, hwt⟩ : ∃ wt : World, wt = wc := ⟨_, rfl⟩
        subst hwt
        have hchn := hch.chn
        have HC2 := Lib.hid hchn
        have hqt := hq3.trans (hb3d.mono hq3.size)
        have A6 := Lib.hid (A3.out.on hb3d)
        have P6 := Lib.hid (P3.out.on hb3d)
        have C6 := Lib.hid (C3.out.on hb3d)
        obtain ⟨E, hE⟩ : ∃ E, chkV n S' = E := ⟨_, rfl⟩
        obtain ⟨K, hK⟩ : ∃ K, cvtV n S' c = K := ⟨_, rfl⟩
        obtain ⟨P, hP⟩ : ∃ P, pxV n S' x = P := ⟨_, rfl⟩
        have k1 := Lib.hid (fun (W : World) (h : Chn W W.heap.size (.slice ay n cy) n S') => Convert_any (c := c) (w := W) (by omega) (Nat.le_refl _) h)
        have k2 := Lib.hid (fun (W : World) (h : Chn W W.heap.size (.slice ay n cy) n S') => Pixel_any (x := x) (w := W) (by omega) (Nat.le_refl _) h HX.out)
        have k3 := Lib.hid (fun (W : World) (h : Chn W W.heap.size (.slice ay n cy) n S') => refConvertG_any (c := c) (w := W) (by omega) (Nat.le_refl _) h)
        have k4 := Lib.hid (fun (W : World) (h : Chn W W.heap.size (.slice ay n cy) n S') => refPixel_any (x := x) (w := W) (by omega) (Nat.le_refl _) h HX.out)
        rw [hE, hK] at k1 k3
        rw [hE, hP] at k2 k4
        clear hE hK hP hch hchn hb3d a0 HC1 HB1 HT A3 P3 C3
        have q1 := Lib.hid (k1.out wt HC2.out)
        have c0 := C6.out.c0
        have c1 := C6.out.c1
        have c2 := C6.out.c2
        unfold col at q1
        go_wp2_with fail
        refine q1.out.mono ?_
        rintro e w5 ⟨rfl, hb5⟩
        obtain ⟨w6, h6⟩ : ∃ w6, w5.alloc (.cells #[.int .i64 (K 0), .int .i64 (K 1), .int .i64 (K 2)] 28) = w6 := ⟨_, rfl⟩
        have tk : Tri 28 w6 w5.heap.size K := by rw [← h6]; exact Tri.new w5 K _
        have hb6 : Below w5.heap.size w5 w6 := by rw [← h6]; exact (Below.refl _ _).alloc (Nat.le_refl _) _
        have hbt6 := hb5.trans (hb6.mono hb5.size)
        have hq6 := hqt.trans (hbt6.mono hqt.size)
        have A7 := Lib.hid (A6.out.on hbt6)
        have P7 := Lib.hid (P6.out.on hbt6)
        have C7 := Lib.hid (C6.out.on hbt6)
        have HC7 := Lib.hid (chn_on HC2.out hbt6)
        have K7 := Lib.hid tk
        clear tk hb5 hb6 hbt6 c0 c1 c2 q1 A6 P6 C6 HC2
        have q2 := Lib.hid (k2.out w6 HC7.out)
        have x0 := P7.out.cell 0 (by omega)
        have x1 := P7.out.cell 1 (by omega)
        have x2 := P7.out.cell 2 (by omega)
        have x3 := P7.out.cell 3 (by omega)
        unfold pix at q2
        go_wp2_with fail
        clear h6
        refine q2.out.mono ?_
        rintro e w7 ⟨rfl, hb7⟩
        obtain ⟨w8, h8⟩ : ∃ w8, w7.alloc (.cells #[.int .u8 (P 0), .int .u8 (P 1), .int .u8 (P 2), .int .u8 (P 3)] 33) = w8 := ⟨_, rfl⟩
        have tp : Fou 33 w8 w7.heap.size P := by rw [← h8]; exact Fou.new w7 P _
        have hb8 : Below w7.heap.size w7 w8 := by rw [← h8]; exact (Below.refl _ _).alloc (Nat.le_refl _) _
        have hb68 := hb7.trans (hb8.mono hb7.size)
        have hq8 := hq6.trans (hb68.mono hq6.size)
        have A8 := Lib.hid (A7.out.on hb68)
        have P8 := Lib.hid (P7.out.on hb68)
        have C8 := Lib.hid (C7.out.on hb68)
        have HC8 := Lib.hid (chn_on HC7.out hb68)
        have K8 := Lib.hid (K7.out.on hb68)
        have R8 := Lib.hid tp
        clear tp hb7 hb8 hb68 x0 x1 x2 x3 q2 A7 P7 C7 HC7 K7
        have q3 := Lib.hid (k3.out w8 HC8.out)
        have c0 := C8.out.c0
        have c1 := C8.out.c1
        have c2 := C8.out.c2
        unfold col at q3
        go_wp2_with fail
        clear h8
        refine q3.out.mono ?_
        rintro e w9 ⟨rfl, hb9⟩
        obtain ⟨w10, h10, hb10, to10⟩ := gox_new w9
        have TO10 := Lib.hid to10
        have hb810 := hb9.trans (hb10.mono hb9.size)
        clear c0 c1 c2 q3 to10
        go_wp2_with (refine list_store (cs := gotA K 0 (.slice none 0 0) 0 (fun _ => 0) E) rfl 36 (.tmp 15) (.tmp 62) (by rfl) (by rfl) (by rfl) TO10.out info_got rfl (gotA_one _ _ _ _ _ _ _ _) ?_; intro w11 h11 hx; have G11 : Hid (Gob w11 w9.heap.size _) := Lib.hid h11; have hb811 := Exc.below hb810 hx hb9.size hb810.size; have A11 := Lib.hid (A8.out.on hb811); have P11 := Lib.hid (P8.out.on hb811); have C11 := Lib.hid (C8.out.on hb811); have HC11 := Lib.hid (chn_on HC8.out hb811); have K11 := Lib.hid (K8.out.on hb811); have R11 := Lib.hid (R8.out.on hb811); have hq11 := hq8.trans (hb811.mono hq8.size); have x0 := P11.out.cell 0 (by omega); have x1 := P11.out.cell 1 (by omega); have x2 := P11.out.cell 2 (by omega); have x3 := P11.out.cell 3 (by omega); clear h11 h10 hx hb811)
        have q4 := Lib.hid (k4.out w11 HC11.out)
        unfold pix at q4
        refine q4.out.mono ?_
        rintro e w12 ⟨rfl, hb12⟩
        obtain ⟨w13, h13, hb13, to13⟩ := gox_new w12
        have TO13 := Lib.hid to13
        have hb1113 := hb12.trans (hb13.mono hb12.size)
        clear x0 x1 x2 x3 q4 to13
        go_wp2_with (refine list_store (cs := gotA (fun _ => 0) 0 (.slice none 0 0) 0 P E) rfl 36 (.tmp 16) (.tmp 65) (by rfl) (by rfl) (by rfl) TO13.out info_got rfl (gotA_one _ _ _ _ _ _ _ _) ?_; intro w14 h14 hx; have G14 : Hid (Gob w14 w12.heap.size _) := Lib.hid h14; have hb14 := Exc.below hb1113 hx hb12.size hb1113.size; clear h14 h13 hx; simp only [Act.put])
        have hq14 := hq11.trans (hb14.mono hq11.size)
        have ta := A11.out.on hb14
        have tx := P11.out.on hb14
        have tc := C11.out.on hb14
        have tk := K11.out.on hb14
        have tr := R11.out.on hb14
        have g1 := G11.out.on hb14
        have a0 := cell_regrown ta.c0
        have x0 := cell_regrown (tx.cell 0 (by omega))
        have x1 := cell_regrown (tx.cell 1 (by omega))
        have x2 := cell_regrown (tx.cell 2 (by omega))
        have x3 := cell_regrown (tx.cell 3 (by omega))
        have c0 := cell_regrown tc.c0
        have c1 := cell_regrown tc.c1
        have c2 := cell_regrown tc.c2
        have d0 := cell_regrown tk.c0
        have d1 := cell_regrown tk.c1
        have d2 := cell_regrown tk.c2
        have r0 := cell_regrown (tr.cell 0 (by omega))
        have r1 := cell_regrown (tr.cell 1 (by omega))
        have r2 := cell_regrown (tr.cell 2 (by omega))
        have r3 := cell_regrown (tr.cell 3 (by omega))
        obtain ⟨g0', g1', g2'⟩ := g1.col
        have e0 := cell_regrown g0'
        have e1 := cell_regrown g1'
        have e2 := cell_regrown g2'
        have e3 := cell_regrown g1.err
        obtain ⟨m0, m1, m2, m3⟩ := G14.out.pix
        have f0 := cell_regrown m0
        have f1 := cell_regrown m1
        have f2 := cell_regrown m2
        have f3 := cell_regrown m3
        have f4 := cell_regrown G14.out.err
        have hEE : (E == E) = true := by simp
        have s1 := eql_self K
        have s2 := eql_pix P
        have kw := Lib.hid (Calls.grown_of (w := w14) (f := 39) fun W _ => wide_any (x := x) (w := W) HX.out)
        have rw' := Lib.hid (Calls.grown_of (w := w14) (f := 40) fun W _ => refWide_any (x := x) (w := W) HX.out)
        have kn := Lib.hid (Calls.grown_of (w := w14) (f := 41) fun W _ => narrow_any (c := c) (al := a) (w := W))
        have rn := Lib.hid (Calls.grown_of (w := w14) (f := 42) fun W _ => refNarrow_any (c := c) (al := a) (w := W))
        obtain ⟨Y, hY⟩ : ∃ Y, widV x = Y := ⟨_, rfl⟩
        obtain ⟨Z, hZ⟩ : ∃ Z, narV c a = Z := ⟨_, rfl⟩
        rw [hY] at kw rw'
        rw [hZ] at kn rn
        have s3 := eql_self Y
        have s4 := eql_pix Z
        unfold pix col at kw rw' kn rn
        clear hY hZ ta tx tc tk tr g1 g0' g1' g2' m0 m1 m2 m3 hb14
        refine wp_region_quiet_below (by kernel_rfl) (by kernel_rfl) ?_
        repeat (go_big_quiet_step ((first | with_reducible exact kw.out _ _ | with_reducible exact rw'.out _ _ | with_reducible exact kn.out _ _ | with_reducible exact rn.out _ _)))
        refine wpQuiet_nil ?_
        intro w16 hw16
        replace hw16 := below_of_regrown hw16
        have hq16 := hq14.trans (hw16.mono hq14.size)
        clear a0 x0 x1 x2 x3 c0 c1 c2 d0 d1 d2 r0 r1 r2 r3 e0 e1 e2 e3 f0 f1 f2 f3 f4 hEE s1 s2 s3 s4
        go_wp2
        go_ret
        exact ⟨rfl, hq16⟩

end Go.Proofs.Ytmilljlkcbljpaa

/- Arguments that came in: a pair of integers; a pixel and a colour. -/
namespace Go.Proofs.Ytmilljlkcbljpaa
open Go.ChangeShapes Go.WideShapes Go.ChangeAt Go.RowKit

set_option maxRecDepth 100000 in
theorem open_two {H : Type} {enc : TypeId × Value → H} {W : World} {r : Reach} {base : Nat} {t : TypeId} {v : Value} {d : DataW H} {p : List MemPlace} (ht : Try.prog.underlying t = some (.array 2 3)) (hct : Try.prog.cellsOf t = 2)
    (hv : Value.okWide Try.prog W r base t v) (h : DataW.Trod enc Try.prog W 0 (fun _ => true) true t v d p) : ∃ a b : Int, v = .agg #[.int .i64 a, .int .i64 b] := by
  have hce : Try.prog.cellsOf 3 = 1 := by kernel_rfl
  obtain ⟨cs, rfl, hsz, _⟩ : ∃ cs, v = .agg cs ∧ cs.size = Try.prog.cellsOf t ∧ Row.okWide Try.prog W r base t cs := by
    simpa [Value.okWide, ht] using hv
  rw [hct] at hsz
  obtain ⟨l⟩ := cs
  obtain ⟨x0, x1, rfl⟩ := list2 l hsz
  obtain ⟨fuel, hf⟩ := h
  obtain ⟨xs, m, rfl, _, _, hxs, hel⟩ := DataW.trod_array ht hf
  have key : ∀ j, j < 2 → ∃ a : Int, ([x0, x1] : List Value)[j]? = some (.int .i64 a) := fun j hj => by
    have h0 := hel j hj
    rw [hce] at h0
    obtain ⟨y, hy⟩ : ∃ y, xs[j]? = some y := ⟨_, List.getElem?_eq_getElem (by omega)⟩
    rw [hy] at h0
    obtain rfl | rfl : j = 0 ∨ j = 1 := by omega
    · obtain ⟨a, h1, h2⟩ := int_of_trod (by simpa [Value.cells] using h0); exact ⟨a, by simp [h1]⟩
    · obtain ⟨a, h1, h2⟩ := int_of_trod (by simpa [Value.cells] using h0); exact ⟨a, by simp [h1]⟩
  obtain ⟨a, ha⟩ := key 0 (by omega)
  obtain ⟨b, hb⟩ := key 1 (by omega)
  simp at ha hb
  subst ha hb
  exact ⟨a, b, rfl⟩

theorem byte_of_trod {H : Type} {enc : TypeId × Value → H} {W : World} {fuel : Nat} {v : Value} {x : DataW H × List MemPlace} (hf : DataW.trod enc Try.prog W 0 (fun _ => true) true fuel 5 [v] = some x) :
    ∃ a : Int, v = .int .u8 a ∧ 0 ≤ a ∧ a ≤ 255 := by
  obtain ⟨a, e0, rfl, wa⟩ := DataW.trod_int Try.underlying5 hf
  simp at e0
  subst e0
  exact ⟨a, rfl, bounds_u8 wa⟩
theorem list7 {α : Type} (l : List α) (h : (⟨l⟩ : Array α).size = 7) : ∃ a b c d e f g, l = [a, b, c, d, e, f, g] := by
  match l, h with
  | [a, b, c, d, e, f, g], _ => exact ⟨a, b, c, d, e, f, g, rfl⟩

set_option maxRecDepth 100000 in
theorem open_both {H : Type} {enc : TypeId × Value → H} {W : World} {r : Reach} {base : Nat} {v : Value} {d : DataW H} {p : List MemPlace}
    (hv : Value.okWide Try.prog W r base 73 v) (h : DataW.Trod enc Try.prog W 0 (fun _ => true) true 73 v d p) : ∃ x c : Nat → Int, v = both x c ∧ ∀ i, i < 4 → 0 ≤ x i ∧ x i ≤ 255 := by
  have c73 : Try.prog.cellsOf 73 = 7 := by kernel_rfl
  have c33 : Try.prog.cellsOf 33 = 4 := by kernel_rfl
  have c28 : Try.prog.cellsOf 28 = 3 := by kernel_rfl
  have c5 : Try.prog.cellsOf 5 = 1 := by kernel_rfl
  have c3' : Try.prog.cellsOf 3 = 1 := by kernel_rfl
  obtain ⟨cs, rfl, hsz, _⟩ : ∃ cs, v = .agg cs ∧ cs.size = Try.prog.cellsOf 73 ∧ Row.okWide Try.prog W r base 73 cs := by
    simpa [Value.okWide, Try.underlying73] using hv
  rw [c73] at hsz
  obtain ⟨l⟩ := cs
  obtain ⟨x0, x1, x2, x3, y0, y1, y2, rfl⟩ := list7 l hsz
  obtain ⟨fuel, hf⟩ := h
  obtain ⟨xs, n, _, _, hl, hlen, hfl⟩ := DataW.trod_struct Try.underlying73 hf
  have hlen2 : xs.length = 2 := hlen
  have hc := hfl 0 _ rfl
  have hd := hfl 1 _ rfl
  obtain ⟨z0, hz0⟩ : ∃ y, xs[0]? = some y := ⟨_, List.getElem?_eq_getElem (by omega)⟩
  obtain ⟨z1, hz1⟩ : ∃ y, xs[1]? = some y := ⟨_, List.getElem?_eq_getElem (by omega)⟩
  rw [hz0] at hc
  rw [hz1] at hd
  have hc' : DataW.trod enc Try.prog W 0 (fun _ => true) true n 33 [x0, x1, x2, x3] = some z0 := by
    have h0 : DataW.trod enc Try.prog W 0 (fun _ => true) true n 33 (List.take (Try.prog.cellsOf 33) (List.drop 0 [x0, x1, x2, x3, y0, y1, y2])) = some z0 := hc
    rw [c33] at h0
    exact h0
  have hd' : DataW.trod enc Try.prog W 0 (fun _ => true) true n 28 [y0, y1, y2] = some z1 := by
    have h0 : DataW.trod enc Try.prog W 0 (fun _ => true) true n 28 (List.take (Try.prog.cellsOf 28) (List.drop 4 [x0, x1, x2, x3, y0, y1, y2])) = some z1 := hd
    rw [c28] at h0
    exact h0
  obtain ⟨ys, n', _, _, hl', hlen', hfl'⟩ := DataW.trod_struct Try.underlying33 hc'
  have hlen4 : ys.length = 4 := hlen'
  have k0 := hfl' 0 _ rfl
  have k1 := hfl' 1 _ rfl
  have k2 := hfl' 2 _ rfl
  have k3 := hfl' 3 _ rfl
  obtain ⟨u0, hu0⟩ : ∃ y, ys[0]? = some y := ⟨_, List.getElem?_eq_getElem (by omega)⟩
  obtain ⟨u1, hu1⟩ : ∃ y, ys[1]? = some y := ⟨_, List.getElem?_eq_getElem (by omega)⟩
  obtain ⟨u2, hu2⟩ : ∃ y, ys[2]? = some y := ⟨_, List.getElem?_eq_getElem (by omega)⟩
  obtain ⟨u3, hu3⟩ : ∃ y, ys[3]? = some y := ⟨_, List.getElem?_eq_getElem (by omega)⟩
  rw [hu0] at k0
  rw [hu1] at k1
  rw [hu2] at k2
  rw [hu3] at k3
  have j0 : DataW.trod enc Try.prog W 0 (fun _ => true) true n' 5 (List.take (Try.prog.cellsOf 5) (List.drop 0 [x0, x1, x2, x3])) = some u0 := k0
  have j1 : DataW.trod enc Try.prog W 0 (fun _ => true) true n' 5 (List.take (Try.prog.cellsOf 5) (List.drop 1 [x0, x1, x2, x3])) = some u1 := k1
  have j2 : DataW.trod enc Try.prog W 0 (fun _ => true) true n' 5 (List.take (Try.prog.cellsOf 5) (List.drop 2 [x0, x1, x2, x3])) = some u2 := k2
  have j3 : DataW.trod enc Try.prog W 0 (fun _ => true) true n' 5 (List.take (Try.prog.cellsOf 5) (List.drop 3 [x0, x1, x2, x3])) = some u3 := k3
  rw [c5] at j0 j1 j2 j3
  obtain ⟨b0, rfl, hb0⟩ := byte_of_trod (v := x0) j0
  obtain ⟨b1, rfl, hb1⟩ := byte_of_trod (v := x1) j1
  obtain ⟨b2, rfl, hb2⟩ := byte_of_trod (v := x2) j2
  obtain ⟨b3, rfl, hb3⟩ := byte_of_trod (v := x3) j3
  obtain ⟨es, m, _, _, _, hes, hel⟩ := DataW.trod_array Try.underlying28 hd'
  rw [c3'] at hel
  have g0 := hel 0 (by omega)
  have g1 := hel 1 (by omega)
  have g2 := hel 2 (by omega)
  obtain ⟨e0, he0⟩ : ∃ y, es[0]? = some y := ⟨_, List.getElem?_eq_getElem (by omega)⟩
  obtain ⟨e1, he1⟩ : ∃ y, es[1]? = some y := ⟨_, List.getElem?_eq_getElem (by omega)⟩
  obtain ⟨e2, he2⟩ : ∃ y, es[2]? = some y := ⟨_, List.getElem?_eq_getElem (by omega)⟩
  rw [he0] at g0
  rw [he1] at g1
  rw [he2] at g2
  obtain ⟨a0, rfl, _⟩ := int_of_trod (v := y0) g0
  obtain ⟨a1, rfl, _⟩ := int_of_trod (v := y1) g1
  obtain ⟨a2, rfl, _⟩ := int_of_trod (v := y2) g2
  refine ⟨fun k => if k = 0 then b0 else if k = 1 then b1 else if k = 2 then b2 else b3, c3 a0 a1 a2, rfl, fun i hi => ?_⟩
  obtain rfl | rfl | rfl | rfl : i = 0 ∨ i = 1 ∨ i = 2 ∨ i = 3 := by omega
  · exact hb0
  · exact hb1
  · exact hb2
  · exact hb3

end Go.Proofs.Ytmilljlkcbljpaa
