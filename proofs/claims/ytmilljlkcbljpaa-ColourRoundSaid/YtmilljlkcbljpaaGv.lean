/- Valid grids. -/
import Derived.Test.YtmilljlkcbljpaaTa
namespace Go.Proofs.Ytmilljlkcbljpaa
open Go.RowKit Go.Sort

set_option maxRecDepth 100000 in
set_option maxHeartbeats 1000000 in
theorem valid1_any {c : Nat → Int} {w : World} :
    Calls Try.prog 82 #[col c] w fun e w' => e = .returned (.bool (!eqB c (gam c))) ∧ Below w.heap.size w w' := by
  have t1 := Tri.new w c 28
  have hb := (Below.refl w.heap.size w).alloc (Nat.le_refl _) (.cells #[.int .i64 (c 0), .int .i64 (c 1), .int .i64 (c 2)] 28)
  obtain ⟨w0, h0⟩ : ∃ w0, w.alloc (.cells #[.int .i64 (c 0), .int .i64 (c 1), .int .i64 (c 2)] 28) = w0 := ⟨_, rfl⟩
  rw [h0] at t1 hb
  have kg := Lib.hid (Calls.grown_of (w := w0) (f := 56) fun W hW => gamut_any (c := c) (w := W))
  have heq := neq_col c (gam c)
  have a0 := cell_regrown t1.c0
  have a1 := cell_regrown t1.c1
  have a2 := cell_regrown t1.c2
  obtain ⟨R, hR⟩ : ∃ R, (!eqB c (gam c)) = R := ⟨_, rfl⟩
  rw [hR] at heq ⊢
  clear t1 hR
  unfold col at *
  go_enter Try.func82, Try.ntmps82
  go_wp2
  clear h0
  refine wp_region_quiet_below (by kernel_rfl) (by kernel_rfl) ?_
  repeat (go_big_quiet_step (exact kg.out _ _))
  refine wpQuiet_nil ?_
  intro w1 hw1
  replace hw1 := below_of_regrown hw1
  clear a0 a1 a2
  go_wp2
  go_ret
  exact ⟨rfl, hb.trans (hw1.mono hb.size)⟩

set_option maxRecDepth 100000 in
set_option maxHeartbeats 1000000 in
theorem index_valid {n b off cap : Nat} {g : Nat → Nat → Int} {w : World} (hn : n ≤ 100000) (hb : b < w.heap.size) (hc : ClCells w b off n g) :
    Calls Try.prog 105 #[.slice (some ⟨b, off, none⟩) n cap, .func (.func 82) #[] #[]] w (Idx (anyB n fun i => !eqB (g i) (gam (g i))) w) := by
  go_enter Try.func105, Try.ntmps105
  go_wp2
  go_loopw [8] (fun i wr => ∃ k : Nat, k ≤ n ∧ i = .int .i64 k ∧ Hid (∀ j, j < k → (!eqB (g j) (gam (g j))) = false) ∧ Below w.heap.size w wr) (fun i _ => n - (intOf i).toNat)
  case atStart => exact ⟨0, by omega, rfl, Lib.hid (fun j hj => by omega), Below.refl _ _⟩
  case round =>
    obtain ⟨k, hk, rfl, hs, hq⟩ := hrel
    by_cases hlt : k < n
    · have hck := hc.below hq hb k hlt
      have s0 : wr.cell? ⟨b, off + k * 3, none⟩ = some (.int .i64 (g k 0)) := hck 0 (by omega)
      have s1 := hck 1 (by omega)
      have s2 := hck 2 (by omega)
      have i1 : 0 ≤ (k : Int) ∧ (k : Int) < n := by omega
      have kc := Lib.hid (valid1_any (c := g k) (w := wr))
      unfold col at kc
      clear hck
      go_wp2_with fail
      refine kc.out.mono ?_
      rintro e w' ⟨rfl, hd⟩
      have hq' := hq.trans (hd.mono hq.size)
      clear hd s0 s1 s2
      cases hV : (!eqB (g k) (gam (g k))) with
      | true =>
        have E := Lib.hid (anyB_t (p := fun i => !eqB (g i) (gam (g i))) hlt hV)
        clear hV
        go_wp2
        go_ret
        exact ⟨k, rfl, by rw [E.out]; exact decide_eq_true (by omega), hq'⟩
      | false =>
        have E := Lib.hid hV
        clear hV
        go_wp2
        go_roundw
        case rel => exact ⟨k + 1, by omega, by go_num, Lib.hid (fun j hj => by
          by_cases e : j = k
          · subst e; exact E.out
          · exact hs.out j (by omega)), hq'⟩
        case measure => simp [intOf]; omega
    · obtain rfl : k = n := by omega
      have E := Lib.hid (anyB_f (p := fun i => !eqB (g i) (gam (g i))) hs.out)
      go_wp2
      go_ret
      exact ⟨-1, rfl, by rw [E.out]; rfl, hq⟩

set_option maxHeartbeats 400000 in
theorem contains_valid {n b off cap : Nat} {g : Nat → Nat → Int} {w : World} (hn : n ≤ 100000) (hb : b < w.heap.size) (hc : ClCells w b off n g) :
    Calls Try.prog 81 #[.slice (some ⟨b, off, none⟩) n cap, .func (.func 82) #[] #[]] w fun e w' => e = .returned (.bool (anyB n fun i => !eqB (g i) (gam (g i)))) ∧ Below w.heap.size w w' := by
  have HI := Lib.hid (index_valid (cap := cap) hn hb hc)
  clear hc
  go_enter Try.func81, Try.ntmps81
  go_wp2_with fail
  refine HI.out.mono ?_
  rintro e w' ⟨k, rfl, hk, hq⟩
  have E := Lib.hid hk
  clear hk
  go_wp2
  go_ret
  exact ⟨ret_bool E.out, hq⟩

/-- A valid grid. -/
def GrV (N n : Nat) (g : Nat → Nat → Int) : Prop := 2 ≤ N ∧ N ≤ 17 ∧ n = N * N * N ∧ ∀ k, k < n → InG (g k)
open Classical in
noncomputable def grB (N n : Nat) (g : Nat → Nat → Int) : Bool := decide (GrV N n g)
theorem grB_t {N n : Nat} {g : Nat → Nat → Int} (h : GrV N n g) : grB N n g = true := by simp [grB, h]
theorem grB_f {N n : Nat} {g : Nat → Nat → Int} (h : ¬ GrV N n g) : grB N n g = false := by simp [grB, h]
theorem of_grB {N n : Nat} {g : Nat → Nat → Int} (h : grB N n g = true) : GrV N n g := by simpa [grB] using h
theorem of_eq_gam {c : Nat → Int} (h : eqB c (gam c) = true) : InG c := fun i hi => by rw [of_eqB h i hi]; exact InG.of c i hi
theorem grB_any {N n : Nat} {g : Nat → Nat → Int} (h1 : 2 ≤ N) (h2 : N ≤ 17) (h3 : n = N * N * N) : (!anyB n fun i => !eqB (g i) (gam (g i))) = grB N n g := by
  cases e : anyB n fun i => !eqB (g i) (gam (g i)) with
  | false => rw [grB_t ⟨h1, h2, h3, fun k hk => of_eq_gam (by have := of_anyB_f e k hk; simpa using this)⟩]; rfl
  | true =>
    rw [grB_f fun h => by rw [anyB_f fun k hk => by rw [eq_gam_t (h.2.2.2 k hk)]; rfl] at e; cases e]
    rfl

set_option maxRecDepth 100000 in
set_option maxHeartbeats 2000000 in
theorem grid_any {N n B : Nat} {v : Value} {g : Nat → Nat → Int} {w : World} (hN : N ≤ 1000000) (hB : B ≤ w.heap.size) (hv : Cls w B v n g) :
    Calls Try.prog 47 #[.agg #[.int .i64 N, v]] w fun e w' => e = .returned (.bool (grB N n g)) ∧ Below w.heap.size w w' := by
  obtain ⟨a, cap, rfl⟩ := hv.shape
  have hb := (Below.refl w.heap.size w).alloc (Nat.le_refl _) (.cells #[.int .i64 (N : Int), .slice a n cap] 31)
  by_cases h1 : N < 2
  · have d1 : decide ((N : Int) < 2) = true := decide_eq_true (by omega)
    have E := Lib.hid (grB_f (n := n) (g := g) fun h : GrV N n g => by have := h.1; omega)
    clear hv
    go_enter Try.func47, Try.ntmps47
    go_wp2
    go_ret
    exact ⟨ret_bool E.out.symm, hb⟩
  · have d1 : decide ((N : Int) < 2) = false := decide_eq_false (by omega)
    by_cases h2 : 17 < N
    · have d2 : decide (17 < (N : Int)) = true := decide_eq_true (by omega)
      have E := Lib.hid (grB_f (n := n) (g := g) fun h : GrV N n g => by have := h.2.1; omega)
      clear hv
      go_enter Try.func47, Try.ntmps47
      go_wp2
      go_ret
      exact ⟨ret_bool E.out.symm, hb⟩
    · have d2 : decide (17 < (N : Int)) = false := decide_eq_false (by omega)
      obtain ⟨q1, q2, q3, q4⟩ := cube_bd (m := N) (by omega) (by omega)
      obtain ⟨M, hM⟩ : ∃ M, M = N * N * N := ⟨_, rfl⟩
      have n1 : (N : Int) * (N : Int) * (N : Int) = (M : Int) := by rw [hM]; simp
      have n2 : 4 ≤ (N : Int) * (N : Int) ∧ (N : Int) * (N : Int) ≤ 289 := by
        have : (N : Int) * (N : Int) = ((N * N : Nat) : Int) := by simp
        omega
      rw [← hM] at q1 q2
      by_cases h3 : n = M
      · have d3 : ((n : Int) != (M : Int)) = false := by simp [h3]
        obtain ⟨b, off, cap', hs, hbB, hcs⟩ := hv.at (by omega)
        cases hs
        have E := Lib.hid (grB_any (N := N) (n := n) (g := g) (by omega) (by omega) (by rw [h3, hM]))
        have kc := Lib.hid (contains_valid (cap := cap) (n := n) (by omega) (by simp; omega) (hcs.below hb (by omega)))
        clear hv hcs hM h3
        go_enter Try.func47, Try.ntmps47
        go_wp2_with fail
        refine kc.out.mono ?_
        rintro e w1 ⟨rfl, hb1⟩
        go_wp2
        go_ret
        exact ⟨ret_bool E.out, hb.trans (hb1.mono (by simp))⟩
      · have d3 : ((n : Int) != (M : Int)) = true := by simp; omega
        have E := Lib.hid (grB_f (n := n) (g := g) fun h : GrV N n g => h3 (by rw [h.2.2.1, hM]))
        clear hv hM h3
        go_enter Try.func47, Try.ntmps47
        go_wp2
        go_ret
        exact ⟨ret_bool E.out.symm, hb⟩

end Go.Proofs.Ytmilljlkcbljpaa
