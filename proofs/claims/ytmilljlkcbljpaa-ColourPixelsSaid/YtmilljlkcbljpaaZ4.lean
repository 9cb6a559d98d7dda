/- Texts of this proof, one behind another: Gr Sb Sa Ta Gv So St Lp Lk. -/
import Derived.Test.YtmilljlkcbljpaaZ3
import Derived.RegionTactic
import Derived.ChangeAlike
import Derived.BigRegion
/- Slices of colours, grids. -/
namespace Go.Proofs.Ytmilljlkcbljpaa
open Go.RowKit Go.Sort

/-- The cells of a row of colours. -/
def ClCells (w : World) (b off n : Nat) (g : Nat → Nat → Int) : Prop := ∀ k, k < n → ∀ j, j < 3 → w.cell? ⟨b, off + k * 3 + j, none⟩ = some (.int .i64 (g k j))
/-- A slice of n colours. -/
def Cls (w : World) (B : Nat) (v : Value) (n : Nat) (g : Nat → Nat → Int) : Prop :=
  (n = 0 ∧ ∃ a cap, v = .slice a 0 cap ∧ (a = none → cap = 0)) ∨ ∃ b off cap, v = .slice (some ⟨b, off, none⟩) n cap ∧ (b < B ∧ n ≤ cap) ∧ ClCells w b off n g
theorem ClCells.below {w w' : World} {b off n B : Nat} {g : Nat → Nat → Int} (h : ClCells w b off n g) (hb : Below B w w') (hB : b < B) : ClCells w' b off n g := fun k hk j hj => (hb.cell (p := ⟨b, off + k * 3 + j, none⟩) hB).trans (h k hk j hj)
theorem Cls.below {w w' : World} {B B' n : Nat} {v : Value} {g : Nat → Nat → Int} (h : Cls w B v n g) (hb : Below B' w w') (hB : B ≤ B') : Cls w' B v n g := by
  rcases h with h | ⟨b, off, cap, h1, h2, h3⟩
  · exact .inl h
  · exact .inr ⟨b, off, cap, h1, h2, h3.below hb (by omega)⟩
theorem Cls.mono {w : World} {B B' n : Nat} {v : Value} {g : Nat → Nat → Int} (h : Cls w B v n g) (hB : B ≤ B') : Cls w B' v n g := by
  rcases h with h | ⟨b, off, cap, h1, h2, h3⟩
  · exact .inl h
  · exact .inr ⟨b, off, cap, h1, ⟨by omega, h2.2⟩, h3⟩
theorem Cls.on {w w' : World} {n : Nat} {v : Value} {g : Nat → Nat → Int} (h : Cls w w.heap.size v n g) (hb : Below w.heap.size w w') : Cls w' w'.heap.size v n g := (h.below hb (Nat.le_refl _)).mono hb.size
theorem Cls.at {w : World} {B n : Nat} {v : Value} {g : Nat → Nat → Int} (h : Cls w B v n g) (hn : 1 ≤ n) : ∃ b off cap, v = .slice (some ⟨b, off, none⟩) n cap ∧ b < B ∧ ClCells w b off n g := by
  rcases h with ⟨rfl, _⟩ | ⟨b, off, cap, h1, h2, h3⟩
  · omega
  · exact ⟨b, off, cap, h1, h2.1, h3⟩
theorem Cls.shape {w : World} {B n : Nat} {v : Value} {g : Nat → Nat → Int} (h : Cls w B v n g) : ∃ a cap, v = .slice a n cap := by
  rcases h with ⟨rfl, a, cap, h, _⟩ | ⟨b, off, cap, h, _⟩
  · exact ⟨a, cap, h⟩
  · exact ⟨_, cap, h⟩

/-- The cells of n colours, one after the other. -/
def vals3 (g : Nat → Nat → Int) (n : Nat) : List Value := (List.range n).flatMap fun k => [.int .i64 (g k 0), .int .i64 (g k 1), .int .i64 (g k 2)]
theorem vals3_zero (g : Nat → Nat → Int) : vals3 g 0 = [] := rfl
theorem vals3_snoc (g : Nat → Nat → Int) (n : Nat) : vals3 g (n + 1) = vals3 g n ++ [.int .i64 (g n 0), .int .i64 (g n 1), .int .i64 (g n 2)] := by simp [vals3, List.range_succ]
theorem vals3_len (g : Nat → Nat → Int) : ∀ n, (vals3 g n).length = n * 3
  | 0 => rfl
  | n + 1 => by rw [vals3_snoc, List.length_append, vals3_len g n]; simp; omega
theorem vals3_get (g : Nat → Nat → Int) : ∀ n k j, k < n → j < 3 → (vals3 g n)[k * 3 + j]? = some (.int .i64 (g k j))
  | 0, k, j, hk, _ => by omega
  | n + 1, k, j, hk, hj => by
    rw [vals3_snoc]
    by_cases h : k < n
    · rw [List.getElem?_append_left (by rw [vals3_len]; omega)]; exact vals3_get g n k j h hj
    · obtain rfl : k = n := by omega
      rw [List.getElem?_append_right (by rw [vals3_len]; omega), vals3_len, show k * 3 + j - k * 3 = j by omega]
      obtain rfl | rfl | rfl : j = 0 ∨ j = 1 ∨ j = 2 := by omega
      all_goals rfl
theorem Cls.of_own {w : World} {base e n B : Nat} {v : Value} {g : Nat → Nat → Int} (h : w.ownsRow base e 3 v n (vals3 g n)) (hB : w.heap.size ≤ B) : Cls w B v n g := by
  have hl := h.lt
  rcases h.2 with ⟨rfl, rfl⟩ | ⟨b, cap, cur, rfl, _, _, hcap, _⟩
  · exact .inl ⟨rfl, _, _, rfl, fun _ => rfl⟩
  · refine .inr ⟨b, 0, cap, rfl, ⟨?_, hcap⟩, fun k hk j hj => ?_⟩
    · have := (hl b rfl).2; omega
    · rw [Nat.zero_add]
      have := h.cells (g := b) rfl (k * 3 + j) _ (vals3_get g n k j hk hj)
      have hadd : (⟨b, 0, none⟩ : Addr).add (k * 3 + j) = ⟨b, k * 3 + j, none⟩ := by unfold Addr.add; split <;> simp_all
      rwa [hadd] at this

theorem own_keep {w : World} {base size n b j : Nat} {e : TypeId} {v x : Value} {xs : List Value} (h : w.ownsRow base e size v n xs) (hb : b < base) : (w.setCell ⟨b, j, none⟩ x).ownsRow base e size v n xs := by
  obtain ⟨h1, h2⟩ := h
  refine ⟨h1, ?_⟩
  rcases h2 with h2 | ⟨g, cap, cur, hv, hg, hh, r⟩
  · exact .inl h2
  · exact .inr ⟨g, cap, cur, hv, hg, (Below.heap_setCell w ⟨b, j, none⟩ x g (show g ≠ b by omega)).trans hh, r⟩

/-- Two cells in a block. -/
def Two (t : TypeId) (w : World) (b : Nat) (x y : Value) : Prop := w.heap[b]? = some (.cells #[x, y] t (0, 0))
theorem Two.c0 {t : TypeId} {w : World} {b : Nat} {x y : Value} (h : Two t w b x y) : w.cell? ⟨b, 0, none⟩ = some x := by simp [World.cell?, show w.heap[b]? = _ from h]
theorem Two.c1 {t : TypeId} {w : World} {b : Nat} {x y : Value} (h : Two t w b x y) : w.cell? ⟨b, 1, none⟩ = some y := by simp [World.cell?, show w.heap[b]? = _ from h]
theorem Two.free {t : TypeId} {w : World} {b : Nat} {x y : Value} (h : Two t w b x y) (j : Nat) : w.frozen? ⟨b, j, none⟩ = false := frozen_of_row w b j _ _ h
theorem Two.lt {t : TypeId} {w : World} {b : Nat} {x y : Value} (h : Two t w b x y) : b < w.heap.size := (Array.getElem?_eq_some_iff.1 h).1
theorem Two.below {t : TypeId} {w w' : World} {b B : Nat} {x y : Value} (h : Two t w b x y) (hb : Below B w w') (hB : b < B) : Two t w' b x y := (hb.block b hB).trans h
theorem Two.on {t : TypeId} {w w' : World} {b : Nat} {x y : Value} (h : Two t w b x y) (hb : Below w.heap.size w w') : Two t w' b x y := h.below hb h.lt
theorem Two.keep {t : TypeId} {w : World} {b b' j : Nat} {x y z : Value} (h : Two t w b x y) (hb : b ≠ b') : Two t (w.setCell ⟨b', j, none⟩ z) b x y := (Below.heap_setCell w ⟨b', j, none⟩ z b hb).trans h
theorem Two.set0 {t : TypeId} {w : World} {b : Nat} {x y : Value} (h : Two t w b x y) (z : Value) : Two t (w.setCell ⟨b, 0, none⟩ z) b z y := by
  unfold Two; rw [heap_setCell_same w b 0 _ _ z h]; simp
theorem Two.set1 {t : TypeId} {w : World} {b : Nat} {x y : Value} (h : Two t w b x y) (z : Value) : Two t (w.setCell ⟨b, 1, none⟩ z) b x z := by
  unfold Two; rw [heap_setCell_same w b 1 _ _ z h]; simp
theorem Two.new (w : World) (x y : Value) (t : TypeId) : Two t (w.alloc (.cells #[x, y] t)) w.heap.size x y := heap_alloc_new w _
theorem Two.alloc {t : TypeId} {w : World} {b : Nat} {x y : Value} (h : Two t w b x y) (o : Obj) : Two t (w.alloc o) b x y := h.on ((Below.refl _ _).alloc (Nat.le_refl _) _)

/-- The coordinates of a grid point. -/
def crd (m k : Nat) : Nat → Int := fun j => if j = 0 then argV (k / (m * m)) m else if j = 1 then argV (k / m % m) m else argV (k % m) m
/-- The colours of a chain's table. -/
noncomputable def tabV (S : Nat → Sp) (n m k : Nat) : Nat → Int := gam (cnv S (crd m k) (n - 1))

set_option maxHeartbeats 400000 in
theorem sample1_any {i m b : Nat} {t : TypeId} {w : World} (hm : 2 ≤ m) (hm' : m ≤ 17) (hi : i < m) (h1 : One t w b (.int .i64 m)) :
    Calls Try.prog 83 #[.int .i64 i, .pointer (some ⟨b, 0, none⟩)] w fun e w' => e = .returned (.int .i64 (argV i m)) ∧ Drawn w w' := by
  have c1 := h1.cell
  have E := Lib.hid (show argV i m = (131070 * (i : Int) + m - 1) / (2 * ((m : Int) - 1)) from rfl)
  have d0 : (2 * ((m : Int) - 1) == 0) = false := by simp; omega
  have p0 : 0 ≤ 131070 * (i : Int) + m - 1 := by omega
  have p1 : 1 ≤ 2 * ((m : Int) - 1) := by omega
  clear h1
  go_enter Try.func83, Try.ntmps83
  go_wp2
  go_ret
  exact ⟨ret_int E.out.symm, .refl _⟩

end Go.Proofs.Ytmilljlkcbljpaa

/- sample: the table of a chain. -/
namespace Go.Proofs.Ytmilljlkcbljpaa
open Go.RowKit Go.Sort

theorem Try.info3 : (Try.prog.info? 28).map (fun i => (i.zero, i.size, i.bytes)) = some (some (.agg #[.int .i64 0, .int .i64 0, .int .i64 0]), 3, 24) := by kernel_rfl

/-- The place of a grid point. -/
theorem place {m k : Nat} (hm : 2 ≤ m) (hk : k < m * m * m) : k / (m * m) < m ∧ k / m % m < m ∧ k % m < m :=
  ⟨Nat.div_lt_of_lt_mul (by rw [Nat.mul_assoc] at hk ⊢; exact hk), Nat.mod_lt _ (by omega), Nat.mod_lt _ (by omega)⟩
theorem crd_0 (m k : Nat) : crd m k 0 = argV (k / (m * m)) m := rfl
theorem crd_1 (m k : Nat) : crd m k 1 = argV (k / m % m) m := rfl
theorem crd_2 (m k : Nat) : crd m k 2 = argV (k % m) m := rfl

/-- The boxes of sample: the size, the result, the grid. -/
theorem sample_new (w : World) (m : Int) (t t' : TypeId) : ∃ w0, ((w.alloc (.cells #[.int .i64 m] t)).alloc (.cells #[.int .i64 0, .slice none 0 0] t')).alloc (.cells #[.int .i64 m, .slice none 0 0] t') = w0 ∧
    Below w.heap.size w w0 ∧ w0.heap.size = w.heap.size + 3 ∧ One t w0 w.heap.size (.int .i64 m) ∧ Two t' w0 (w.heap.size + 1) (.int .i64 0) (.slice none 0 0) ∧ Two t' w0 (w.heap.size + 1 + 1) (.int .i64 m) (.slice none 0 0) := by
  refine ⟨_, rfl, (((Below.refl _ w).alloc (Nat.le_refl _) _).alloc (by simp) _).alloc (by simp <;> omega) _, by simp, ((One.new w _ t).alloc _).alloc _, ?_, ?_⟩
  · have h := Two.new (w.alloc (.cells #[.int .i64 m] t)) (.int .i64 0) (.slice none 0 0) t'
    rw [World.size_alloc] at h
    exact h.alloc _
  · have h := Two.new ((w.alloc (.cells #[.int .i64 m] t)).alloc (.cells #[.int .i64 0, .slice none 0 0] t')) (.int .i64 m) (.slice none 0 0) t'
    simp only [World.size_alloc] at h
    exact h

theorem cube_bd {m : Nat} (hm : 2 ≤ m) (hm' : m ≤ 17) : 8 ≤ m * m * m ∧ m * m * m ≤ 4913 ∧ 4 ≤ m * m ∧ m * m ≤ 289 := by
  have h1 : 2 * 2 ≤ m * m := Nat.mul_le_mul hm hm
  have h2 : m * m ≤ 17 * 17 := Nat.mul_le_mul hm' hm'
  have h3 : 2 * 2 * 2 ≤ m * m * m := Nat.mul_le_mul h1 hm
  have h4 : m * m * m ≤ 17 * 17 * 17 := Nat.mul_le_mul h2 hm'
  omega

theorem build_run (parts : Array (Nat × Value)) (w : World) : (∃ v o, (Instr.buildSlice 29 1 parts).run Try.prog w = .ok v (w.alloc o)) ∨ ∃ h, (Instr.buildSlice 29 1 parts).run Try.prog w = .halt h w := by
  have hu := run_underlying (P := Try.prog) Try.underlying29
  have hs : ∀ w, (sizeOf 28).run Try.prog w = .ok 3 w := fun w => by kernel_rfl
  have hz : ∀ w, (zeroValue 28).run Try.prog w = .ok (.agg #[.int .i64 0, .int .i64 0, .int .i64 0]) w := fun w => by kernel_rfl
  unfold Instr.buildSlice
  simp [Sem.run_bind, hu, hs, hz]
  generalize Instr.fill _ _ parts.toList = r
  cases r with
  | none => exact .inr ⟨_, by simp [go_sem]; rfl⟩
  | some cs => exact .inl ⟨_, _, by simp [go_sem]; exact ⟨rfl, rfl⟩⟩

set_option maxRecDepth 100000 in
/-- buildSlice keeps what was there. -/
theorem build_mid {ops : Array Oper} {Q : Exit → Act → World → Prop} {W : World} {j : Nat} {o : Oper} {parts : Array (Nat × Operand)} (hj : ops[j]? = some o) (ho : o.op = .buildSlice 29 1 parts) (a : Act) (w : World)
    (hC : ∃ p : Regrown, w = grow (redrawn W p.d) p.os) (K : Act → World → Prop) (h : wpOp Try.prog ops Q j K a w) : wpOp Try.prog ops Q j (fun a' w' => (∃ p : Regrown, w' = grow (redrawn W p.d) p.os) ∧ K a' w') a w := by
  unfold wpOp at *
  simp only [hj] at *
  split
  · rename_i hw
    simp only [hw, if_true] at h
    refine h.imp (fun h => ?_) id
    unfold Oper.wp at *
    have hr : (execOp a.eval o).run Try.prog w = ((Instr.buildSlice 29 1 (parts.map fun x => (x.1, a.eval x.2))).run Try.prog w).andThen fun u w' => .ok (.value u) w' := by
      unfold execOp
      simp [ho]
    rw [hr] at h ⊢
    rcases build_run (parts.map fun x => (x.1, a.eval x.2)) w with ⟨v, ob, e⟩ | ⟨x, e⟩
    · have hb : Below W.heap.size W (w.alloc ob) := (below_of_regrown hC).alloc (below_of_regrown hC).size ob
      have hg := regrown_of_below hb
      simp only [e, Result.andThen_ok, Oper.upon] at h ⊢
      exact ⟨hg, h⟩
    · rw [e] at h ⊢
      cases x <;> exact h
  · rename_i hw
    simp only [hw] at h
    exact ⟨hC, h⟩

theorem cells_new3 (w : World) (a b c : Value) (t : TypeId) : ∀ (j : Nat) (u : Value), [a, b, c][j]? = some u → (w.alloc (.cells #[a, b, c] t)).cell? ((⟨w.heap.size, 0, none⟩ : Addr).add j) = some u := by
  intro j u h
  have hadd : (⟨w.heap.size, 0, none⟩ : Addr).add j = ⟨w.heap.size, j, none⟩ := by unfold Addr.add; split <;> simp_all
  rw [hadd, World.cell?_alloc_at _ _ _ _ rfl]
  simpa using h

theorem own_pos {w : World} {B e size n : Nat} {xs : List Value} {v : Value} (h : w.ownsRow B e size v n xs) (hn : 1 ≤ n) : ∃ g cap, v = .slice (some ⟨g, 0, none⟩) n cap := by
  rcases h.2 with ⟨rfl, h0⟩ | ⟨g, cap, cur, rfl, _⟩
  · omega
  · exact ⟨g, cap, rfl⟩
theorem own_succ {w : World} {B e size n : Nat} {xs : List Value} {v : Value} (h : w.ownsRow B e size v (n + 1) xs) : ∃ g cap, v = .slice (some ⟨g, 0, none⟩) (n + 1) cap := own_pos h (by omega)
theorem below_le {B B' : Nat} {w w' : World} (h : Below B w w') (hB : B' ≤ B) : Below B' w w' := ⟨h.os, h.tape, h.output, h.size, fun k hk => h.block k (by omega)⟩

end Go.Proofs.Ytmilljlkcbljpaa

/- sample: the table of a chain. -/
namespace Go.Proofs.Ytmilljlkcbljpaa
open Go.RowKit Go.Sort

set_option maxRecDepth 100000 in
set_option maxHeartbeats 4000000 in
theorem sample_any {n m B : Nat} {v : Value} {S : Nat → Sp} {w : World} (hn1 : 1 ≤ n) (hn : n ≤ 4096) (hm : 2 ≤ m) (hm' : m ≤ 17) (hB : B ≤ w.heap.size) (hc : Chn w B v n S) (hv : ∀ k, k < n → (S k).val = true) :
    Calls Try.prog 51 #[v, .int .i64 m] w fun e w' => ∃ x, e = .returned (.agg #[.int .i64 m, x]) ∧ w'.ownsRow w.heap.size 28 3 x (m * m * m) (vals3 (tabV S n m) (m * m * m)) ∧ Below w.heap.size w w' := by
  obtain ⟨w0, h0, hb0, hz, o1, t1, t2⟩ := sample_new w m 3 31
  obtain ⟨i0, hi, hz0, hz1, hz2⟩ := info_parts Try.info3
  have hmf : ∀ (fn : Fn) (first cap : Array Value) (w : World), (Instr.makeFunc fn first cap).run Try.prog w = .ok (.func fn first cap) w := fun _ _ _ _ => rfl
  obtain ⟨q1, q2, q3, q4⟩ := cube_bd hm hm'
  obtain ⟨M, hM⟩ : ∃ M, M = m * m * m := ⟨_, rfl⟩
  have HM := Lib.hid hM
  obtain ⟨w1, h1⟩ : ∃ w1, w0.setCell ⟨w.heap.size + 1 + 1, 1, none⟩ (.slice none 0 0) = w1 := ⟨_, rfl⟩
  have x0 := t2.c0
  have x1 := t2.c1
  have y0 := t2.free 0
  have y1 := t2.free 1
  have c1 := o1.cell
  have hb1 : Below w.heap.size w w1 := by rw [← h1]; exact hb0.setCell (by simp; omega) _
  have O1 : Hid (One 3 w1 w.heap.size (.int .i64 m)) := Lib.hid (by rw [← h1]; exact o1.keep (by omega))
  have T1 : Hid (Two 31 w1 (w.heap.size + 1) (.int .i64 0) (.slice none 0 0)) := Lib.hid (by rw [← h1]; exact t1.keep (by omega))
  have T2 : Hid (Two 31 w1 (w.heap.size + 1 + 1) (.int .i64 m) (.slice none 0 0)) := Lib.hid (by rw [← h1]; exact t2.set1 _)
  have c2 := O1.out.cell
  have Z := Lib.hid (show w1.heap.size = w.heap.size + 3 by rw [← h1]; simpa using hz)
  have HC := Lib.hid hc
  have HV := Lib.hid hv
  have n1 : (m : Int) * (m : Int) * (m : Int) = (M : Int) := by rw [hM]; simp
  have n2 : 4 ≤ (m : Int) * (m : Int) ∧ (m : Int) * (m : Int) ≤ 289 := by
    have : (m : Int) * (m : Int) = ((m * m : Nat) : Int) := by simp
    omega
  rw [← hM] at q1 q2
  clear o1 t1 t2 hz hc hv hM
  go_enter Try.func51, Try.ntmps51
  go_wp2
  clear h0 h1 x0 x1 y0 y1 c1 c2
  go_loopw [16] (fun i wr => ∃ (k : Nat) (x : Value), k ≤ M ∧ i = .int .i64 k ∧ One 3 wr w.heap.size (.int .i64 m) ∧ Two 31 wr (w.heap.size + 1) (.int .i64 0) (.slice none 0 0) ∧ Two 31 wr (w.heap.size + 1 + 1) (.int .i64 m) x ∧ wr.ownsRow (w.heap.size + 3) 28 3 x k (vals3 (tabV S n m) k) ∧ Below w.heap.size w wr) (fun i _ => M - (intOf i).toNat)
  case atStart => exact ⟨0, _, by omega, rfl, O1.out, T1.out, T2.out, World.ownsRow_nil _ _ _ _, hb1⟩
  case round =>
    obtain ⟨k, x, hk, rfl, o1, t1, t2, hown, hq⟩ := hrel
    by_cases hlt : k < M
    · obtain ⟨p0, p1, p2⟩ := place hm (by rw [← HM.out]; exact hlt)
      have kg0 := Lib.hid (Calls.grown_of (w := wr) (f := 83) fun W hW => (sample1_any hm hm' p0 (o1.on hW)).mono fun e w' ⟨he, hd⟩ => ⟨he, hd.below _⟩)
      have kg1 := Lib.hid (Calls.grown_of (w := wr) (f := 83) fun W hW => (sample1_any hm hm' p1 (o1.on hW)).mono fun e w' ⟨he, hd⟩ => ⟨he, hd.below _⟩)
      have kg2 := Lib.hid (Calls.grown_of (w := wr) (f := 83) fun W hW => (sample1_any hm hm' p2 (o1.on hW)).mono fun e w' ⟨he, hd⟩ => ⟨he, hd.below _⟩)
      have kc := Lib.hid (Calls.grown_of (w := wr) (f := 52) fun W hW => convert_any (c := crd m k) (w := W) hn1 hn (Nat.le_trans hB (Nat.le_trans hq.size hW.size)) (HC.out.below (hq.trans (hW.mono hq.size)) hB) HV.out)
      have kgm := Lib.hid (Calls.grown_of (w := wr) (f := 56) fun W hW => gamut_any (c := cnv S (crd m k) (n - 1)) (w := W))
      rw [← crd_0] at kg0
      rw [← crd_1] at kg1
      rw [← crd_2] at kg2
      obtain ⟨j0, hj0⟩ : ∃ j, j = k / (m * m) := ⟨_, rfl⟩
      obtain ⟨j1, hj1⟩ : ∃ j, j = k / m % m := ⟨_, rfl⟩
      obtain ⟨j2, hj2⟩ : ∃ j, j = k % m := ⟨_, rfl⟩
      have e0 : (k : Int) / ((m : Int) * (m : Int)) = (j0 : Int) := by rw [hj0]; simp
      obtain ⟨jj, hjj⟩ : ∃ j, j = k / m := ⟨_, rfl⟩
      have e1 : (k : Int) / (m : Int) = (jj : Int) := by rw [hjj]; simp
      have e3 : (jj : Int) % (m : Int) = (j1 : Int) := by rw [hj1, ← hjj]; simp
      have l3 : jj ≤ k := by rw [hjj]; exact Nat.div_le_self _ _
      have l0 : j0 < m := by rw [hj0]; exact p0
      have l1 : j1 < m := by rw [hj1]; exact p1
      have l2 : j2 < m := by rw [hj2]; exact p2
      have w1 : IntKind.i64.wrap (j0 : Int) = j0 := IntWalk.i64_in _ (by omega)
      have w2' : IntKind.i64.wrap (jj : Int) = jj := IntWalk.i64_in _ (by omega)
      have i3 : 0 ≤ (jj : Int) ∧ (jj : Int) ≤ 4913 := by omega
      have e2 : (k : Int) % (m : Int) = (j2 : Int) := by rw [hj2]; simp
      rw [← hj0] at kg0
      rw [← hj1] at kg1
      rw [← hj2] at kg2
      unfold col at kc kgm
      have d0 := cell_regrown o1.cell
      have d1 := cell_regrown t2.c1
      have P1 := Lib.hid o1
      have P2 := Lib.hid t1
      have P3 := Lib.hid t2
      have HO := Lib.hid hown
      clear o1 t1 t2 hown hj0 hj1 hj2 hjj p0 p1 p2
      go_wp2
      refine region_act3 2 23 2 (by kernel_rfl) (by kernel_rfl) (by kernel_rfl) rfl rfl (by kernel_rfl) (by kernel_rfl) (by kernel_rfl) (fun _ _ d _ _ h => by cases d <;> exact h) (fun a w' => build_mid rfl rfl a w') ?_
      simp only [List.take_succ_cons, List.take_zero, List.drop_succ_cons, List.drop_zero]
      refine pureW_step (.pointer (some ⟨w.heap.size + 1 + 1, 1, none⟩)) rfl (fun w' hw' => ?_) (fun K' hK' => ?_)
      · obtain ⟨p, rfl⟩ := hw'
        go_simp
      go_simp
      refine hK' _ ?_
      clear hK' K'
      refine pureW_step x rfl (fun w' hw' => ?_) (fun K' hK' => ?_)
      · obtain ⟨p, rfl⟩ := hw'
        go_simp
      go_simp
      refine hK' _ ?_
      clear hK' K'
      refine pureW_nil ?_
      change wpQuiet _ _ _ _ _ _
      repeat (go_big_quiet_step ((first | with_reducible exact kg0.out _ _ | with_reducible exact kg1.out _ _ | with_reducible exact kg2.out _ _ | with_reducible exact kc.out _ _ | with_reducible exact kgm.out _ _)))
      refine wpQuiet_nil ?_
      intro w5 hw2
      replace hw2 := below_of_regrown hw2
      have o1 := P1.out.on hw2
      have t1 := P2.out.on hw2
      have t2 := P3.out.on hw2
      have ho := own_below HO.out hw2
      have hq2 := hq.trans (hw2.mono hq.size)
      have hz := t2.lt
      have Q1 := Lib.hid (o1.alloc (.cells #[.int .i64 (gam (cnv S (crd m k) (n - 1)) 0), .int .i64 (gam (cnv S (crd m k) (n - 1)) 1), .int .i64 (gam (cnv S (crd m k) (n - 1)) 2)] 28))
      have Q2 := Lib.hid (t1.alloc (.cells #[.int .i64 (gam (cnv S (crd m k) (n - 1)) 0), .int .i64 (gam (cnv S (crd m k) (n - 1)) 1), .int .i64 (gam (cnv S (crd m k) (n - 1)) 2)] 28))
      have Q3 := Lib.hid (t2.alloc (.cells #[.int .i64 (gam (cnv S (crd m k) (n - 1)) 0), .int .i64 (gam (cnv S (crd m k) (n - 1)) 1), .int .i64 (gam (cnv S (crd m k) (n - 1)) 2)] 28))
      have HO2 := Lib.hid ho
      clear o1 t1 t2 ho e0 e1 e2 e3 w1
      go_wp2_with (at_builtin; refine wpList_append_own _ rfl _ _ 29 rfl (w.heap.size + 3) 28 i0 (.agg #[.int .i64 0, .int .i64 0, .int .i64 0]) 3 24 Try.underlying29 hi hz0 hz1 hz2 rfl (by decide) _ k (vals3 (tabV S n m) k) rfl (HO2.out.alloc _) ⟨w5.heap.size, 0, none⟩ 1 1 [.int .i64 (gam (cnv S (crd m k) (n - 1)) 0), .int .i64 (gam (cnv S (crd m k) (n - 1)) 1), .int .i64 (gam (cnv S (crd m k) (n - 1)) 2)] rfl rfl (cells_new3 _ _ _ _ _) (by simp [Value.oneCell']) (by unfold maxLen; omega) (by omega) (by simp; omega) ?_; intro x' w6 hown' hgrow _; obtain ⟨gb, cap', rfl⟩ := own_succ hown'; have hB6 := (Below.refl (w.heap.size + 3) _).grown hgrow (by simp; omega) (fun j hj => (HO2.out.lt j hj).1); have R1 := Lib.hid (Q1.out.below hB6 (by omega)); have R2 := Lib.hid (Q2.out.below hB6 (by omega)); have r3 := Q3.out.below hB6 (by omega); have c1 := r3.c1; have f1 := r3.free 1; have R3 := Lib.hid r3; have HO3 := Lib.hid hown'; clear r3 hown' hgrow)
      have hq6 := (hq2.alloc hq2.size (.cells #[.int .i64 (gam (cnv S (crd m k) (n - 1)) 0), .int .i64 (gam (cnv S (crd m k) (n - 1)) 1), .int .i64 (gam (cnv S (crd m k) (n - 1)) 2)] 28)).trans (below_le hB6 (by omega))
      go_roundw
      case rel => exact ⟨k + 1, _, by omega, by go_num, R1.out.keep (by omega), R2.out.keep (by omega), R3.out.set1 _, by rw [vals3_snoc]; exact own_keep HO3.out (by omega), hq6.setCell (by simp; omega) _⟩
      case measure => simp [intOf]; omega
    · obtain rfl : k = M := by omega
      have x0 := t2.c0
      have x1 := t2.c1
      have z0 := t1.c0
      have z1 := t1.c1
      have y0 := t1.free 0
      have y1 := t1.free 1
      have HO := Lib.hid hown
      obtain ⟨gb, cap', rfl⟩ := own_pos hown (by omega)
      clear t1 t2 o1 hown
      go_wp2
      refine bodyPost_ret (v := .agg #[.int .i64 m, .slice (some ⟨gb, 0, none⟩) k cap']) (by simp [results, Try.results51, go_sem, *]) rfl ?_
      exact ⟨_, rfl, by rw [← HM.out]; exact own_le (own_keep (own_keep HO.out (by omega)) (by omega)) (by omega), (hq.setCell (p := ⟨w.heap.size + 1, 0, none⟩) (by simp) _).setCell (p := ⟨w.heap.size + 1, 1, none⟩) (by simp) _⟩

end Go.Proofs.Ytmilljlkcbljpaa

/- Table. -/
namespace Go.Proofs.Ytmilljlkcbljpaa
open Go.RowKit Go.Sort

/-- The box of a grid that is returned. -/
theorem grid_new (w : World) (t : TypeId) : ∃ w0, w.alloc (.cells #[.int .i64 0, .slice none 0 0] t) = w0 ∧ Below w.heap.size w w0 ∧ w0.heap.size = w.heap.size + 1 ∧ Two t w0 w.heap.size (.int .i64 0) (.slice none 0 0) :=
  ⟨_, rfl, (Below.refl _ w).alloc (Nat.le_refl _) _, by simp, Two.new w _ _ t⟩
theorem set2_below {B b : Nat} {w w0 : World} (h : Below B w w0) (hb : B ≤ b) (x0 x1 : Value) : Below B w ((w0.setCell ⟨b, 0, none⟩ x0).setCell ⟨b, 1, none⟩ x1) :=
  (h.setCell (p := ⟨b, 0, none⟩) hb _).setCell (p := ⟨b, 1, none⟩) hb _

set_option maxRecDepth 100000 in
set_option maxHeartbeats 1000000 in
theorem table_chk {n B : Nat} {v : Value} {S : Nat → Sp} {m : Int} {w : World} (hn : n ≤ 9223372036854775807) (hB : B ≤ w.heap.size) (hc : Chn w B v n S) (he : chkV n S ≠ 0) :
    Calls Try.prog 20 #[v, .int .i64 m] w fun e w' => e = .returned (.tuple #[.agg #[.int .i64 0, .slice none 0 0], .int .i64 (chkV n S)]) ∧ Below w.heap.size w w' := by
  obtain ⟨w0, h0, hb0, hz, t1⟩ := grid_new w 31
  have T1 := Lib.hid t1
  have kc := Lib.hid (check_any (w := w0) hn (by omega) (hc.below hb0 hB))
  obtain ⟨E, hE⟩ : ∃ E, chkV n S = E := ⟨_, rfl⟩
  rw [hE] at kc he ⊢
  have d0 : (E != 0) = true := by simpa using he
  clear t1 hc he hE
  go_enter Try.func20, Try.ntmps20
  go_wp2_with fail
  refine kc.out.mono ?_
  rintro e w1 ⟨rfl, hb1⟩
  have t1 := T1.out.on hb1
  have x0 := t1.c0
  have x1 := t1.c1
  have y0 := t1.free 0
  have y1 := t1.free 1
  have hq := hb0.trans (hb1.mono hb0.size)
  clear t1 h0
  go_wp2
  refine bodyPost_ret (v := .tuple #[.agg #[.int .i64 0, .slice none 0 0], .int .i64 E]) (by simp [results, Try.results20, go_sem, *]) rfl ?_
  exact ⟨rfl, set2_below hq (by simp) _ _⟩

set_option maxRecDepth 100000 in
set_option maxHeartbeats 1000000 in
theorem table_size {n B : Nat} {v : Value} {S : Nat → Sp} {m : Int} {w : World} (hn : n ≤ 9223372036854775807) (hB : B ≤ w.heap.size) (hc : Chn w B v n S) (he : chkV n S = 0) (hm : ¬ (2 ≤ m ∧ m ≤ 17)) :
    Calls Try.prog 20 #[v, .int .i64 m] w fun e w' => e = .returned (.tuple #[.agg #[.int .i64 0, .slice none 0 0], .int .i64 1]) ∧ Below w.heap.size w w' := by
  obtain ⟨w0, h0, hb0, hz, t1⟩ := grid_new w 31
  have T1 := Lib.hid t1
  have kc := Lib.hid (check_any (w := w0) hn (by omega) (hc.below hb0 hB))
  rw [he] at kc
  clear t1 hc he
  by_cases h2 : m < 2
  · have d1 : decide (m < 2) = true := decide_eq_true h2
    go_enter Try.func20, Try.ntmps20
    go_wp2_with fail
    refine kc.out.mono ?_
    rintro e w1 ⟨rfl, hb1⟩
    have t1 := T1.out.on hb1
    have x0 := t1.c0
    have x1 := t1.c1
    have y0 := t1.free 0
    have y1 := t1.free 1
    have hq := hb0.trans (hb1.mono hb0.size)
    clear t1 h0
    go_wp2
    refine bodyPost_ret (v := .tuple #[.agg #[.int .i64 0, .slice none 0 0], .int .i64 1]) (by simp [results, Try.results20, go_sem, *]) rfl ?_
    exact ⟨rfl, set2_below hq (by simp) _ _⟩
  · have d1 : decide (m < 2) = false := decide_eq_false h2
    have d2 : decide (17 < m) = true := decide_eq_true (by omega)
    clear hm
    go_enter Try.func20, Try.ntmps20
    go_wp2_with fail
    refine kc.out.mono ?_
    rintro e w1 ⟨rfl, hb1⟩
    have t1 := T1.out.on hb1
    have x0 := t1.c0
    have x1 := t1.c1
    have y0 := t1.free 0
    have y1 := t1.free 1
    have hq := hb0.trans (hb1.mono hb0.size)
    clear t1 h0
    go_wp2
    refine bodyPost_ret (v := .tuple #[.agg #[.int .i64 0, .slice none 0 0], .int .i64 1]) (by simp [results, Try.results20, go_sem, *]) rfl ?_
    exact ⟨rfl, set2_below hq (by simp) _ _⟩

theorem own_below' {w w' : World} {base size n B : Nat} {e : TypeId} {v : Value} {xs : List Value} (h : w.ownsRow base e size v n xs) (hb : Below B w w') (hB : w.heap.size ≤ B) : w'.ownsRow base e size v n xs := own_below h (below_le hb hB)

set_option maxRecDepth 100000 in
set_option maxHeartbeats 1000000 in
theorem table_yes {n m B : Nat} {v : Value} {S : Nat → Sp} {w : World} (hn : n ≤ 9223372036854775807) (hB : B ≤ w.heap.size) (hc : Chn w B v n S) (he : chkV n S = 0) (hm : 2 ≤ m) (hm' : m ≤ 17) :
    Calls Try.prog 20 #[v, .int .i64 m] w fun e w' => ∃ x, e = .returned (.tuple #[.agg #[.int .i64 m, x], .int .i64 0]) ∧ w'.ownsRow w.heap.size 28 3 x (m * m * m) (vals3 (tabV S n m) (m * m * m)) ∧ Below w.heap.size w w' := by
  obtain ⟨w0, h0, hb0, hz, t1⟩ := grid_new w 31
  have T1 := Lib.hid t1
  have kc := Lib.hid (check_any (w := w0) hn (by omega) (hc.below hb0 hB))
  obtain ⟨c1, c2, c3⟩ := chkV_ok he
  have HC := Lib.hid hc
  have HV := Lib.hid c3
  have Z := Lib.hid hz
  rw [he] at kc
  have d1 : decide ((m : Int) < 2) = false := decide_eq_false (by omega)
  have d2 : decide ((17 : Int) < m) = false := decide_eq_false (by omega)
  have q8 := (cube_bd hm hm').1
  clear t1 hc he c3 hz
  go_enter Try.func20, Try.ntmps20
  go_wp2_with fail
  refine kc.out.mono ?_
  rintro e w1 ⟨rfl, hb1⟩
  have hq := hb0.trans (hb1.mono hb0.size)
  have T2 := Lib.hid (T1.out.on hb1)
  clear h0
  go_wp2_with fail
  refine (sample_any (n := n) (S := S) (B := B) (by omega) (by omega) hm hm' (Nat.le_trans hB hq.size) (HC.out.below hq hB) HV.out).mono ?_
  rintro e w2 ⟨x, rfl, hown, hb2⟩
  obtain ⟨gb, cap, rfl⟩ := own_pos hown (by omega)
  have t1 := T2.out.on hb2
  have x0 := t1.c0
  have x1 := t1.c1
  have y0 := t1.free 0
  have y1 := t1.free 1
  have hq2 := hq.trans (hb2.mono hq.size)
  have l1 : w.heap.size < w1.heap.size := by have := hb1.size; have := Z.out; omega
  have HO := Lib.hid hown
  clear t1 hown
  go_wp2
  refine bodyPost_ret (v := .tuple #[.agg #[.int .i64 m, .slice (some ⟨gb, 0, none⟩) (m * m * m) cap], .int .i64 0]) (by simp [results, Try.results20, go_sem, *]) rfl ?_
  exact ⟨_, rfl, own_le (own_keep (own_keep HO.out l1) l1) (by omega), set2_below hq2 (by simp) _ _⟩

end Go.Proofs.Ytmilljlkcbljpaa

/- Valid grids. -/
namespace Go.Proofs.Ytmilljlkcbljpaa
open Go.RowKit Go.Sort

set_option maxRecDepth 100000 in
set_option maxHeartbeats 1000000 in
theorem valid1_any {c : Nat → Int} {w : World} :
    Calls Try.prog 82 #[col c] w fun e w' => e = .returned (.bool (!eqB c (gam c))) ∧ Below w.heap.size w w' := by
  have t1 := Tri.new w c 28
  have hb := (Below.refl w.heap.size w).alloc (Nat.le_refl _) (.cells #[.int .i64 (c 0), .int .i64 (c 1), .int .i64 (c 2)] 28)
  obtain ⟨w0, h0⟩ : ∃ w0, w.alloc (.cells #[.int .i64 (c 0), .int .i64 (c 1), .int .i64 (c 2)] 28) = w0 := ⟨_, rfl⟩
  rw [h0] at t1 hb
  have kg := Lib.hid (Calls.grown_of (w := w0) (f := 56) fun W hW => gamut_any (c := c) (w := W))
  have heq := neq_col c (gam c)
  have a0 := cell_regrown t1.c0
  have a1 := cell_regrown t1.c1
  have a2 := cell_regrown t1.c2
  obtain ⟨R, hR⟩ : ∃ R, (!eqB c (gam c)) = R := ⟨_, rfl⟩
  rw [hR] at heq ⊢
  clear t1 hR
  unfold col at *
  go_enter Try.func82, Try.ntmps82
  go_wp2
  clear h0
  refine wp_region_quiet_below (by kernel_rfl) (by kernel_rfl) ?_
  repeat (go_big_quiet_step (exact kg.out _ _))
  refine wpQuiet_nil ?_
  intro w1 hw1
  replace hw1 := below_of_regrown hw1
  clear a0 a1 a2
  go_wp2
  go_ret
  exact ⟨rfl, hb.trans (hw1.mono hb.size)⟩

set_option maxRecDepth 100000 in
set_option maxHeartbeats 1000000 in
theorem index_valid {n b off cap : Nat} {g : Nat → Nat → Int} {w : World} (hn : n ≤ 100000) (hb : b < w.heap.size) (hc : ClCells w b off n g) :
    Calls Try.prog 105 #[.slice (some ⟨b, off, none⟩) n cap, .func (.func 82) #[] #[]] w (Idx (anyB n fun i => !eqB (g i) (gam (g i))) w) := by
  go_enter Try.func105, Try.ntmps105
  go_wp2
  go_loopw [8] (fun i wr => ∃ k : Nat, k ≤ n ∧ i = .int .i64 k ∧ Hid (∀ j, j < k → (!eqB (g j) (gam (g j))) = false) ∧ Below w.heap.size w wr) (fun i _ => n - (intOf i).toNat)
  case atStart => exact ⟨0, by omega, rfl, Lib.hid (fun j hj => by omega), Below.refl _ _⟩
  case round =>
    obtain ⟨k, hk, rfl, hs, hq⟩ := hrel
    by_cases hlt : k < n
    · have hck := hc.below hq hb k hlt
      have s0 : wr.cell? ⟨b, off + k * 3, none⟩ = some (.int .i64 (g k 0)) := hck 0 (by omega)
      have s1 := hck 1 (by omega)
      have s2 := hck 2 (by omega)
      have i1 : 0 ≤ (k : Int) ∧ (k : Int) < n := by omega
      have kc := Lib.hid (valid1_any (c := g k) (w := wr))
      unfold col at kc
      clear hck
      go_wp2_with fail
      refine kc.out.mono ?_
      rintro e w' ⟨rfl, hd⟩
      have hq' := hq.trans (hd.mono hq.size)
      clear hd s0 s1 s2
      cases hV : (!eqB (g k) (gam (g k))) with
      | true =>
        have E := Lib.hid (anyB_t (p := fun i => !eqB (g i) (gam (g i))) hlt hV)
        clear hV
        go_wp2
        go_ret
        exact ⟨k, rfl, by rw [E.out]; exact decide_eq_true (by omega), hq'⟩
      | false =>
        have E := Lib.hid hV
        clear hV
        go_wp2
        go_roundw
        case rel => exact ⟨k + 1, by omega, by go_num, Lib.hid (fun j hj => by
          by_cases e : j = k
          · subst e; exact E.out
          · exact hs.out j (by omega)), hq'⟩
        case measure => simp [intOf]; omega
    · obtain rfl : k = n := by omega
      have E := Lib.hid (anyB_f (p := fun i => !eqB (g i) (gam (g i))) hs.out)
      go_wp2
      go_ret
      exact ⟨-1, rfl, by rw [E.out]; rfl, hq⟩

set_option maxHeartbeats 400000 in
theorem contains_valid {n b off cap : Nat} {g : Nat → Nat → Int} {w : World} (hn : n ≤ 100000) (hb : b < w.heap.size) (hc : ClCells w b off n g) :
    Calls Try.prog 81 #[.slice (some ⟨b, off, none⟩) n cap, .func (.func 82) #[] #[]] w fun e w' => e = .returned (.bool (anyB n fun i => !eqB (g i) (gam (g i)))) ∧ Below w.heap.size w w' := by
  have HI := Lib.hid (index_valid (cap := cap) hn hb hc)
  clear hc
  go_enter Try.func81, Try.ntmps81
  go_wp2_with fail
  refine HI.out.mono ?_
  rintro e w' ⟨k, rfl, hk, hq⟩
  have E := Lib.hid hk
  clear hk
  go_wp2
  go_ret
  exact ⟨ret_bool E.out, hq⟩

/-- A valid grid. -/
def GrV (N n : Nat) (g : Nat → Nat → Int) : Prop := 2 ≤ N ∧ N ≤ 17 ∧ n = N * N * N ∧ ∀ k, k < n → InG (g k)
open Classical in
noncomputable def grB (N n : Nat) (g : Nat → Nat → Int) : Bool := decide (GrV N n g)
theorem grB_t {N n : Nat} {g : Nat → Nat → Int} (h : GrV N n g) : grB N n g = true := by simp [grB, h]
theorem grB_f {N n : Nat} {g : Nat → Nat → Int} (h : ¬ GrV N n g) : grB N n g = false := by simp [grB, h]
theorem of_grB {N n : Nat} {g : Nat → Nat → Int} (h : grB N n g = true) : GrV N n g := by simpa [grB] using h
theorem of_eq_gam {c : Nat → Int} (h : eqB c (gam c) = true) : InG c := fun i hi => by rw [of_eqB h i hi]; exact InG.of c i hi
theorem grB_any {N n : Nat} {g : Nat → Nat → Int} (h1 : 2 ≤ N) (h2 : N ≤ 17) (h3 : n = N * N * N) : (!anyB n fun i => !eqB (g i) (gam (g i))) = grB N n g := by
  cases e : anyB n fun i => !eqB (g i) (gam (g i)) with
  | false => rw [grB_t ⟨h1, h2, h3, fun k hk => of_eq_gam (by have := of_anyB_f e k hk; simpa using this)⟩]; rfl
  | true =>
    rw [grB_f fun h => by rw [anyB_f fun k hk => by rw [eq_gam_t (h.2.2.2 k hk)]; rfl] at e; cases e]
    rfl

set_option maxRecDepth 100000 in
set_option maxHeartbeats 2000000 in
theorem grid_any {N n B : Nat} {v : Value} {g : Nat → Nat → Int} {w : World} (hN : N ≤ 1000000) (hB : B ≤ w.heap.size) (hv : Cls w B v n g) :
    Calls Try.prog 47 #[.agg #[.int .i64 N, v]] w fun e w' => e = .returned (.bool (grB N n g)) ∧ Below w.heap.size w w' := by
  obtain ⟨a, cap, rfl⟩ := hv.shape
  have hb := (Below.refl w.heap.size w).alloc (Nat.le_refl _) (.cells #[.int .i64 (N : Int), .slice a n cap] 31)
  by_cases h1 : N < 2
  · have d1 : decide ((N : Int) < 2) = true := decide_eq_true (by omega)
    have E := Lib.hid (grB_f (n := n) (g := g) fun h : GrV N n g => by have := h.1; omega)
    clear hv
    go_enter Try.func47, Try.ntmps47
    go_wp2
    go_ret
    exact ⟨ret_bool E.out.symm, hb⟩
  · have d1 : decide ((N : Int) < 2) = false := decide_eq_false (by omega)
    by_cases h2 : 17 < N
    · have d2 : decide (17 < (N : Int)) = true := decide_eq_true (by omega)
      have E := Lib.hid (grB_f (n := n) (g := g) fun h : GrV N n g => by have := h.2.1; omega)
      clear hv
      go_enter Try.func47, Try.ntmps47
      go_wp2
      go_ret
      exact ⟨ret_bool E.out.symm, hb⟩
    · have d2 : decide (17 < (N : Int)) = false := decide_eq_false (by omega)
      obtain ⟨q1, q2, q3, q4⟩ := cube_bd (m := N) (by omega) (by omega)
      obtain ⟨M, hM⟩ : ∃ M, M = N * N * N := ⟨_, rfl⟩
      have n1 : (N : Int) * (N : Int) * (N : Int) = (M : Int) := by rw [hM]; simp
      have n2 : 4 ≤ (N : Int) * (N : Int) ∧ (N : Int) * (N : Int) ≤ 289 := by
        have : (N : Int) * (N : Int) = ((N * N : Nat) : Int) := by simp
        omega
      rw [← hM] at q1 q2
      by_cases h3 : n = M
      · have d3 : ((n : Int) != (M : Int)) = false := by simp [h3]
        obtain ⟨b, off, cap', hs, hbB, hcs⟩ := hv.at (by omega)
        cases hs
        have E := Lib.hid (grB_any (N := N) (n := n) (g := g) (by omega) (by omega) (by rw [h3, hM]))
        have kc := Lib.hid (contains_valid (cap := cap) (n := n) (by omega) (by simp; omega) (hcs.below hb (by omega)))
        clear hv hcs hM h3
        go_enter Try.func47, Try.ntmps47
        go_wp2_with fail
        refine kc.out.mono ?_
        rintro e w1 ⟨rfl, hb1⟩
        go_wp2
        go_ret
        exact ⟨ret_bool E.out, hb.trans (hb1.mono (by simp))⟩
      · have d3 : ((n : Int) != (M : Int)) = true := by simp; omega
        have E := Lib.hid (grB_f (n := n) (g := g) fun h : GrV N n g => h3 (by rw [h.2.2.1, hM]))
        clear hv hM h3
        go_enter Try.func47, Try.ntmps47
        go_wp2
        go_ret
        exact ⟨ret_bool E.out.symm, hb⟩

end Go.Proofs.Ytmilljlkcbljpaa

/- The axes, sorted. -/
namespace Go.Proofs.Ytmilljlkcbljpaa
open Go.RowKit Go.Sort

/-- Three axes, as numbers. -/
def axs (y : Nat → Nat) (k : Nat) : Int := (y k : Nat)
def AxOk (y : Nat → Nat) : Prop := ∀ k, k < 3 → y k < 3
def swp (y : Nat → Nat) (j k : Nat) : Nat := if k = j then y (j - 1) else if k = j - 1 then y j else y k
theorem AxOk.swp {y : Nat → Nat} (h : AxOk y) {j : Nat} (hj : j < 3) : AxOk (swp y j) := fun k hk => by
  unfold Go.Proofs.Ytmilljlkcbljpaa.swp
  split
  · exact h _ (by omega)
  · split
    · exact h _ hj
    · exact h _ hk
/-- An axis moved down to its place. -/
def sft (o : Nat → Int) (y : Nat → Nat) : Nat → (Nat → Nat)
  | 0 => y
  | j + 1 => if o (y j) < o (y (j + 1)) then sft o (swp y (j + 1)) j else y
theorem sft_t {o : Nat → Int} {y : Nat → Nat} {j : Nat} (h : o (y j) < o (y (j + 1))) : sft o y (j + 1) = sft o (swp y (j + 1)) j := by rw [sft, if_pos h]
theorem sft_f {o : Nat → Int} {y : Nat → Nat} {j : Nat} (h : ¬ o (y j) < o (y (j + 1))) : sft o y (j + 1) = y := by rw [sft, if_neg h]
theorem AxOk.sft {o : Nat → Int} : ∀ {j : Nat} {y : Nat → Nat}, AxOk y → j < 3 → AxOk (sft o y j)
  | 0, _, h, _ => h
  | j + 1, y, h, hj => by
    unfold Go.Proofs.Ytmilljlkcbljpaa.sft
    split
    · exact AxOk.sft (h.swp hj) (by omega)
    · exact h
/-- The axes after i rounds. -/
def srt (o : Nat → Int) (y : Nat → Nat) : Nat → (Nat → Nat)
  | 0 => y
  | i + 1 => sft o (srt o y i) i
theorem AxOk.srt {o : Nat → Int} : ∀ {i : Nat} {y : Nat → Nat}, AxOk y → i ≤ 3 → AxOk (srt o y i)
  | 0, _, h, _ => h
  | i + 1, _, h, hi => AxOk.sft (AxOk.srt h (by omega)) (by omega)

theorem Tri.swap {t : TypeId} {w : World} {b : Nat} {y : Nat → Nat} (h : Tri t w b (axs y)) {j : Nat} (hj : j + 1 < 3) :
    Tri t ((w.setCell ⟨b, j + 1, none⟩ (.int .i64 (y j : Nat))).setCell ⟨b, j, none⟩ (.int .i64 (y (j + 1) : Nat))) b (axs (swp y (j + 1))) := by
  have h1 := h.set (j := j + 1) (d := fun k => if k = j + 1 then (y j : Nat) else axs y k) (v := (y j : Nat)) (by omega) (by simp) (fun i hi => by simp [hi])
  exact h1.set (j := j) (d := axs (swp y (j + 1))) (v := (y (j + 1) : Nat)) (by omega) (by simp [axs, swp]) (fun i hi => by
    by_cases e : i = j + 1
    · subst e; simp [axs, swp]
    · simp [axs, swp, e, hi])

set_option maxHeartbeats 400000 in
theorem look1_any {t : TypeId} {o : Nat → Int} {p q b : Nat} {w : World} (hp : p < 3) (hq : q < 3) (ho : ∀ k, k < 3 → 0 ≤ o k ∧ o k ≤ 65535) (h : Tri t w b o) :
    Calls Try.prog 85 #[.int .i64 p, .int .i64 q, .pointer (some ⟨b, 0, none⟩)] w fun e w' => e = .returned (.int .i64 (o q - o p)) ∧ Drawn w w' := by
  have c1 := h.cell p hp
  have c2 := h.cell q hq
  obtain ⟨a1, a2⟩ := ho p hp
  obtain ⟨a3, a4⟩ := ho q hq
  have i1 : 0 ≤ (p : Int) ∧ (p : Int) < 3 := by omega
  have i2 : 0 ≤ (q : Int) ∧ (q : Int) < 3 := by omega
  clear h ho
  go_enter Try.func85, Try.ntmps85
  go_wp2
  go_quiet (fail)
  go_wp2
  go_ret
  exact ⟨rfl, .of _⟩

/-- Of what was there only block b may have changed. -/
def Exc (b : Nat) (w w' : World) : Prop := (w'.os = w.os ∧ w'.tape = w.tape ∧ w'.output = w.output) ∧ w.heap.size ≤ w'.heap.size ∧ ∀ k, k < w.heap.size → k ≠ b → w'.heap[k]? = w.heap[k]?
theorem Exc.refl (b : Nat) (w : World) : Exc b w w := ⟨⟨rfl, rfl, rfl⟩, Nat.le_refl _, fun _ _ _ => rfl⟩
theorem Exc.trans {b : Nat} {w w1 w2 : World} (h : Exc b w w1) (k : Exc b w1 w2) : Exc b w w2 :=
  ⟨⟨k.1.1.trans h.1.1, k.1.2.1.trans h.1.2.1, k.1.2.2.trans h.1.2.2⟩, Nat.le_trans h.2.1 k.2.1, fun j hj hb => (k.2.2 j (Nat.lt_of_lt_of_le hj h.2.1) hb).trans (h.2.2 j hj hb)⟩
theorem Exc.of_below {b : Nat} {w w' : World} (h : Below w.heap.size w w') : Exc b w w' := ⟨⟨h.os, h.tape, h.output⟩, h.size, fun k hk _ => h.block k hk⟩
theorem Exc.set {b j : Nat} {w w' : World} (h : Exc b w w') (x : Value) : Exc b w (w'.setCell ⟨b, j, none⟩ x) :=
  h.trans ⟨⟨rfl, rfl, rfl⟩, by simp, fun k _ hk => heap_setCell_other w' ⟨b, j, none⟩ k x hk⟩
theorem Exc.on {b n : Nat} {w w' : World} (h : Exc b w w') : Exc b w (w'.drewN n) := h.trans (.of_below ((Drawn.of n).below _))
theorem Exc.drawn {b : Nat} {w w' w'' : World} (h : Exc b w w') (hd : Drawn w' w'') : Exc b w w'' := h.trans (.of_below (hd.below _))
theorem Exc.below {b B : Nat} {w w0 w' : World} (h : Below B w0 w) (k : Exc b w w') (hb : B ≤ b) (hB : B ≤ w.heap.size) : Below B w0 w' :=
  h.trans ⟨k.1.1, k.1.2.1, k.1.2.2, k.2.1, fun j hj => k.2.2 j (by omega) (by omega)⟩
theorem Tri.exc {t : TypeId} {w w' : World} {b b' : Nat} {c : Nat → Int} (h : Tri t w b' c) (k : Exc b w w') (hb : b' ≠ b) : Tri t w' b' c := (k.2.2 b' h.lt hb).trans h

set_option maxRecDepth 100000 in
set_option maxHeartbeats 4000000 in
theorem insertion_any {t t' : TypeId} {o : Nat → Int} {y : Nat → Nat} {bs bo cap : Nat} {w : World} (hy : AxOk y) (ho : ∀ k, k < 3 → 0 ≤ o k ∧ o k ≤ 65535) (h1 : Tri t w bs (axs y)) (h2 : Tri t' w bo o) (hne : bo ≠ bs) :
    Calls Try.prog 114 #[.slice (some ⟨bs, 0, none⟩) 3 cap, .int .i64 0, .int .i64 3, .func (.func 85) #[] #[.pointer (some ⟨bo, 0, none⟩)]] w
      fun e w' => e = .returned (.tuple #[]) ∧ Tri t w' bs (axs (srt o y 3)) ∧ Exc bs w w' := by
  have HY := Lib.hid hy
  have HO := Lib.hid ho
  have H1 := Lib.hid h1
  have H2 := Lib.hid h2
  clear hy ho h1 h2
  go_enter Try.func114, Try.ntmps114
  go_wp2
  go_loopw [8, 9] (fun i _ wr => ∃ k : Nat, 1 ≤ k ∧ k ≤ 3 ∧ i = .int .i64 k ∧ Tri t wr bs (axs (srt o y k)) ∧ Exc bs w wr) (fun i _ _ => 3 - (intOf i).toNat)
  case atStart => exact ⟨1, by omega, by omega, rfl, H1.out, .refl _ _⟩
  case round =>
    obtain ⟨k, hk1, hk, rfl, t1, hq⟩ := hrel
    obtain ⟨wo, rfl⟩ : ∃ wo : World, wo = wr := ⟨_, rfl⟩
    by_cases hlt : k < 3
    · have T1 := Lib.hid t1
      have d1 : decide ((k : Int) < 3) = true := decide_eq_true (by omega)
      clear t1
      go_wp2
      go_loopw [9] (fun i wr => ∃ (j : Nat) (z : Nat → Nat), j ≤ k ∧ i = .int .i64 j ∧ Hid (AxOk z) ∧ Hid (sft o z j = srt o y (k + 1)) ∧ Tri t wr bs (axs z) ∧ Exc bs w wr) (fun i _ => (intOf i).toNat)
      case atStart => exact ⟨k, srt o y k, by omega, rfl, Lib.hid (HY.out.srt hk), Lib.hid rfl, T1.out, hq⟩
      case round =>
        obtain ⟨j, z, hj, rfl, hz, he, t1, hq1⟩ := hrel
        by_cases hj0 : 0 < j
        · obtain ⟨i, rfl⟩ : ∃ i, j = i + 1 := ⟨j - 1, by omega⟩
          have hzk := hz.out
          have z0 := hzk i (by omega)
          have z1 := hzk (i + 1) (by omega)
          have c0 : wr.cell? ⟨bs, i, none⟩ = some (.int .i64 ((z i : Nat) : Int)) := t1.cell i (by omega)
          have c1 : wr.cell? ⟨bs, i + 1, none⟩ = some (.int .i64 ((z (i + 1) : Nat) : Int)) := t1.cell (i + 1) (by omega)
          have HK := Lib.hid (fun n => look1_any (w := wr.drewN n) z1 z0 HO.out ((H2.out.exc hq1 hne).on ((Drawn.of n).below _)))
          have i1 : 0 ≤ (i : Int) + 1 ∧ (i : Int) + 1 < 3 := by omega
          have i2 : 0 ≤ (i : Int) ∧ (i : Int) < 3 := by omega
          have w1 : IntKind.i64.wrap (i : Int) = i := IntWalk.i64_in _ (by omega)
          have T2 := Lib.hid t1
          have b1 := HO.out (z i) z0
          have b2 := HO.out (z (i + 1)) z1
          clear t1 hzk
          generalize hA : o (z i) = A at *
          generalize hB : o (z (i + 1)) = B at *
          have HA := Lib.hid hA
          have HB := Lib.hid hB
          clear hA hB
          by_cases hc : A < B
          · have E := Lib.hid (sft_t (o := o) (y := z) (j := i) (by rw [HA.out, HB.out]; exact hc))
            have dc : decide (A - B < 0) = true := decide_eq_true (by omega)
            go_wp2
            go_quiet ((go_at_call 85; exact Calls.quiet_of (HK.out _)))
            go_wp2
            have T3 : Tri t (wr.drewN nq) bs (axs z) := T2.out.on ((Drawn.of _).below _)
            have hq2 := hq1.on (n := nq)
            generalize wr.drewN nq = w2 at T3 hq2 ⊢
            have c0' : w2.cell? ⟨bs, i, none⟩ = some (.int .i64 ((z i : Nat) : Int)) := T3.cell i (by omega)
            have c1' : w2.cell? ⟨bs, i + 1, none⟩ = some (.int .i64 ((z (i + 1) : Nat) : Int)) := T3.cell (i + 1) (by omega)
            have e0 := cell_regrown c0'
            have e1 := cell_regrown c1'
            refine region_take [2, 3, 4] [0, 1, 5, 6, 7, 8, 9, 10, 11, 12, 13] 14 [15, 16, 17] (by kernel_rfl) (by kernel_rfl) (by kernel_rfl) (by kernel_rfl) (by kernel_rfl) (by kernel_rfl) (by kernel_rfl) (fun _ _ d _ _ h => by cases d <;> exact h) ?_
            simp only [selL, List.filterMap_cons, List.filterMap_nil, List.getElem?_cons_zero, List.getElem?_cons_succ]
            refine pureW_step (.slice (some ⟨bs, 0, none⟩) 3 cap) rfl (fun w' _ => ?_) (fun K' hK' => ?_)
            · go_simp
            go_simp
            refine hK' _ ?_
            clear hK' K'
            refine pureW_step (.int .i64 ((i + 1 : Nat) : Int)) rfl (fun w' _ => ?_) (fun K' hK' => ?_)
            · go_simp
            go_simp
            refine hK' _ ?_
            clear hK' K'
            refine pureW_step (.int .i64 (i : Int)) rfl (fun w' _ => ?_) (fun K' hK' => ?_)
            · go_simp
            go_simp
            refine hK' _ ?_
            clear hK' K'
            refine pureW_nil ?_
            change wpQuiet _ _ _ _ (_ :: _ :: _ :: _ :: _ :: _ :: _ :: _ :: _ :: _ :: _ :: []) _
            repeat (go_big_quiet_step (fail))
            refine wpQuiet_nil ?_
            intro w3 hw3
            replace hw3 := below_of_regrown hw3
            have t3 := T3.on hw3
            have f0 := t3.free i
            have f1 := t3.free (i + 1)
            have g0 : w3.cell? ⟨bs, i, none⟩ = some (.int .i64 ((z i : Nat) : Int)) := t3.cell i (by omega)
            have g1 : w3.cell? ⟨bs, i + 1, none⟩ = some (.int .i64 ((z (i + 1) : Nat) : Int)) := t3.cell (i + 1) (by omega)
            have T4 := Lib.hid (t3.swap (j := i) (by omega))
            have hq3 := hq2.trans (.of_below hw3)
            have HZ := Lib.hid (hz.out.swp (j := i + 1) (by omega))
            clear t3 T3 e0 e1 c0 c1 c0' c1'
            go_wp2
            go_roundw
            case rel => exact ⟨i, swp z (i + 1), by omega, by go_num, HZ, Lib.hid (by rw [← he.out, E.out]), T4.out, (hq3.set _).set _⟩
            case measure => simp [intOf]
          · have E := Lib.hid (sft_f (o := o) (y := z) (j := i) (by rw [HA.out, HB.out]; exact hc))
            have dc : decide (A - B < 0) = false := decide_eq_false (by omega)
            go_wp2
            go_quiet ((go_at_call 85; exact Calls.quiet_of (HK.out _)))
            go_wp2
            go_roundw
            case rel => exact ⟨k + 1, by omega, by omega, by go_num, by rw [← he.out, E.out]; exact T2.out.on ((Drawn.of _).below _), hq1.on⟩
            case measure => simp [intOf]; omega
        · obtain rfl : j = 0 := by omega
          have E := Lib.hid (show z = srt o y (k + 1) from he.out)
          have T2 := Lib.hid t1
          clear t1
          go_wp2
          go_quiet (fail)
          go_wp2
          go_roundw
          case rel => exact ⟨k + 1, by omega, by omega, by go_num, by rw [← E.out]; exact T2.out.on ((Drawn.of _).below _), hq1.on⟩
          case measure => simp [intOf]; omega
    · obtain rfl : k = 3 := by omega
      have T2 := Lib.hid t1
      clear t1
      go_wp2
      go_end0
      exact ⟨rfl, T2.out, hq⟩

end Go.Proofs.Ytmilljlkcbljpaa

/- SortStableFunc of three axes. -/
namespace Go.Proofs.Ytmilljlkcbljpaa
open Go.RowKit Go.Sort

set_option maxRecDepth 100000 in
set_option maxHeartbeats 1000000 in
theorem stable_any {t t' : TypeId} {o : Nat → Int} {y : Nat → Nat} {bs bo cap : Nat} {w : World} (hy : AxOk y) (ho : ∀ k, k < 3 → 0 ≤ o k ∧ o k ≤ 65535) (h1 : Tri t w bs (axs y)) (h2 : Tri t' w bo o) (hne : bo ≠ bs) :
    Calls Try.prog 106 #[.slice (some ⟨bs, 0, none⟩) 3 cap, .int .i64 3, .func (.func 85) #[] #[.pointer (some ⟨bo, 0, none⟩)]] w
      fun e w' => e = .returned (.tuple #[]) ∧ Tri t w' bs (axs (srt o y 3)) ∧ Exc bs w w' := by
  have H := Lib.hid (insertion_any (cap := cap) hy ho h1 h2 hne)
  clear hy ho h1 h2
  go_enter Try.func106, Try.ntmps106
  go_wp2
  refine wp_loop_rounds 1 ?_
  rw [rounds_succ]
  go_wp2_with fail
  refine H.out.mono ?_
  rintro e w1 ⟨rfl, t1, hq⟩
  have T1 := Lib.hid t1
  clear t1
  go_wp2
  refine wp_loop_rounds 1 ?_
  rw [rounds_succ]
  go_wp2
  go_end0
  exact ⟨rfl, T1.out, hq⟩

set_option maxRecDepth 100000 in
set_option maxHeartbeats 1000000 in
theorem sort_any {t t' : TypeId} {o : Nat → Int} {y : Nat → Nat} {bs bo cap : Nat} {w : World} (hy : AxOk y) (ho : ∀ k, k < 3 → 0 ≤ o k ∧ o k ≤ 65535) (h1 : Tri t w bs (axs y)) (h2 : Tri t' w bo o) (hne : bo ≠ bs) :
    Calls Try.prog 84 #[.slice (some ⟨bs, 0, none⟩) 3 cap, .func (.func 85) #[] #[.pointer (some ⟨bo, 0, none⟩)]] w
      fun e w' => e = .returned (.tuple #[]) ∧ Tri t w' bs (axs (srt o y 3)) ∧ Exc bs w w' := by
  have H := Lib.hid (stable_any (cap := cap) hy ho h1 h2 hne)
  clear hy ho h1 h2
  go_enter Try.func84, Try.ntmps84
  go_wp2_with fail
  refine H.out.mono ?_
  rintro e w1 ⟨rfl, t1, hq⟩
  have T1 := Lib.hid t1
  clear t1
  go_wp2
  go_end0
  exact ⟨rfl, T1.out, hq⟩

end Go.Proofs.Ytmilljlkcbljpaa

/- Plain laws of looking up: the cell, the order of the axes, the weights. -/
namespace Go.Proofs.Ytmilljlkcbljpaa
open Go.RowKit

/-- The cell of a colour in a grid of N points a side, and how far it lies from there. -/
def lkA (N : Nat) (c : Nat → Int) (i : Nat) : Nat := min ((gam c i).toNat * (N - 1) / 65535) (N - 2)
def lkO (N : Nat) (c : Nat → Int) (i : Nat) : Int := gam c i * ((N : Int) - 1) - 65535 * (lkA N c i : Int)
theorem lk_bd {N : Nat} (hN : 2 ≤ N) (hN' : N ≤ 17) (c : Nat → Int) (i : Nat) : lkA N c i ≤ N - 2 ∧ 0 ≤ lkO N c i ∧ lkO N c i ≤ 65535 := by
  have hg : 0 ≤ gam c i ∧ gam c i ≤ 65535 := clm_bd (by omega) (c i)
  obtain ⟨v, hv⟩ := Int.eq_ofNat_of_zero_le hg.1
  obtain ⟨M, rfl⟩ : ∃ M, N = M + 1 := ⟨N - 1, by omega⟩
  have e : ((M + 1 : Nat) : Int) - 1 = (M : Int) := by omega
  unfold lkO lkA
  rw [hv, e, Int.toNat_natCast, Nat.add_sub_cancel, ← Int.natCast_mul]
  have hm : v * M ≤ 65535 * M := Nat.mul_le_mul_right M (by omega)
  generalize hp : v * M = p at *
  refine ⟨Nat.min_le_right _ _, ?_, ?_⟩
  · have : min (p / 65535) (M + 1 - 2) ≤ p / 65535 := Nat.min_le_left _ _
    omega
  · by_cases h : p / 65535 ≤ M + 1 - 2
    · rw [Nat.min_eq_left h]; omega
    · rw [Nat.min_eq_right (by omega)]; omega

/-- The order of the axes. -/
def axo (o : Nat → Int) : Nat → Nat := srt o (fun k => k) 3
theorem axo_cases (o : Nat → Int) : ∃ a b c, (axo o 0 = a ∧ axo o 1 = b ∧ axo o 2 = c) ∧ (o b ≤ o a ∧ o c ≤ o b) ∧ ((a = 0 ∧ b = 1 ∧ c = 2) ∨ (a = 0 ∧ b = 2 ∧ c = 1) ∨ (a = 1 ∧ b = 0 ∧ c = 2) ∨ (a = 1 ∧ b = 2 ∧ c = 0) ∨ (a = 2 ∧ b = 0 ∧ c = 1) ∨ (a = 2 ∧ b = 1 ∧ c = 0)) := by
  refine ⟨_, _, _, ⟨rfl, rfl, rfl⟩, ?_⟩
  unfold axo srt srt srt srt sft sft sft
  by_cases h1 : o 0 < o 1
  · by_cases h2 : o 0 < o 2
    · by_cases h3 : o 1 < o 2
      · simp [h1, h2, h3, swp, sft]; omega
      · simp [h1, h2, h3, swp, sft]; omega
    · simp [h1, h2, swp, sft]; omega
  · by_cases h2 : o 1 < o 2
    · by_cases h3 : o 0 < o 2
      · simp [h1, h2, h3, swp, sft]; omega
      · simp [h1, h2, h3, swp, sft]; omega
    · simp [h1, h2]; omega

theorem axo_lt (o : Nat → Int) {k : Nat} (hk : k < 3) : axo o k < 3 := by
  obtain ⟨a, b, c, ⟨ha, hb, hc⟩, _, h⟩ := axo_cases o
  obtain rfl | rfl | rfl : k = 0 ∨ k = 1 ∨ k = 2 := by omega
  · rw [ha]; omega
  · rw [hb]; omega
  · rw [hc]; omega

/-- What is left after k steps. -/
def lft (o : Nat → Int) : Nat → Int
  | 0 => 65535
  | k + 1 => o (axo o k)
theorem lft_bd {o : Nat → Int} (ho : ∀ i, i < 3 → 0 ≤ o i ∧ o i ≤ 65535) : ∀ k, k ≤ 3 → 0 ≤ lft o k ∧ lft o k ≤ 65535
  | 0, _ => by simp [lft]
  | k + 1, hk => ho _ (axo_lt o (by omega))
theorem lft_le {o : Nat → Int} (ho : ∀ i, i < 3 → 0 ≤ o i ∧ o i ≤ 65535) (k : Nat) (hk : k < 3) : lft o (k + 1) ≤ lft o k := by
  obtain ⟨a, b, c, ⟨ha, hb, hc⟩, h1, _⟩ := axo_cases o
  obtain rfl | rfl | rfl : k = 0 ∨ k = 1 ∨ k = 2 := by omega
  · exact (ho _ (axo_lt o (by omega))).2
  · show o (axo o 1) ≤ o (axo o 0); rw [ha, hb]; exact h1.1
  · show o (axo o 2) ≤ o (axo o 1); rw [hb, hc]; exact h1.2

/-- The corner after k steps. -/
def psn (A : Nat → Nat) (o : Nat → Int) : Nat → Nat → Nat
  | 0, i => A i
  | k + 1, i => if i = axo o k then psn A o k i + 1 else psn A o k i
theorem psn_le (A : Nat → Nat) (o : Nat → Int) (k i : Nat) (hk : k ≤ 3) : A i ≤ psn A o k i ∧ psn A o k i ≤ A i + 1 := by
  obtain ⟨a, b, c, ⟨ha, hb, hc⟩, _, h⟩ := axo_cases o
  have e1 : psn A o 1 i = if i = a then A i + 1 else A i := by simp only [psn, ha]
  have e2 : psn A o 2 i = if i = b then psn A o 1 i + 1 else psn A o 1 i := by simp only [psn, hb]
  have e3 : psn A o 3 i = if i = c then psn A o 2 i + 1 else psn A o 2 i := by simp only [psn, hc]
  obtain rfl | rfl | rfl | rfl : k = 0 ∨ k = 1 ∨ k = 2 ∨ k = 3 := by omega
  · exact ⟨Nat.le_refl _, Nat.le_succ _⟩
  · rw [e1]; split <;> omega
  · rw [e2, e1]; split <;> split <;> omega
  · rw [e3, e2, e1]; split <;> split <;> split <;> omega

/-- The number of a corner. -/
def ixN (N : Nat) (p : Nat → Nat) : Nat := (p 0 * N + p 1) * N + p 2
theorem ixN_lt {N : Nat} {p : Nat → Nat} (h : ∀ i, i < 3 → p i ≤ N - 1) (hN : 1 ≤ N) : ixN N p < N * N * N := by
  have h0 := h 0 (by omega)
  have h1 := h 1 (by omega)
  have h2 := h 2 (by omega)
  unfold ixN
  have a : p 0 * N + p 1 ≤ N * N - 1 := by
    have : p 0 * N ≤ (N - 1) * N := Nat.mul_le_mul_right N h0
    rw [Nat.sub_mul, Nat.one_mul] at this
    have : N ≤ N * N := Nat.le_mul_self N
    omega
  have b : (p 0 * N + p 1) * N ≤ (N * N - 1) * N := Nat.mul_le_mul_right N a
  rw [Nat.sub_mul, Nat.one_mul] at b
  have : N ≤ N * N * N := Nat.le_trans (Nat.le_mul_self N) (Nat.le_mul_of_pos_right _ (by omega))
  omega

/-- The sum after k steps. -/
def smV (N : Nat) (A : Nat → Nat) (o : Nat → Int) (g : Nat → Nat → Int) : Nat → Nat → Int
  | 0, _ => 0
  | k + 1, i => smV N A o g k i + (lft o k - o (axo o k)) * g (ixN N (psn A o k)) i
def lkS (N : Nat) (g : Nat → Nat → Int) (c : Nat → Int) (i : Nat) : Int :=
  smV N (lkA N c) (lkO N c) g 3 i + lft (lkO N c) 3 * g (ixN N (psn (lkA N c) (lkO N c) 3)) i
/-- What Look returns. -/
def lkV (N : Nat) (g : Nat → Nat → Int) (c : Nat → Int) (i : Nat) : Int := (lkS N g c i + 32767) / 65535

theorem smV_bd {N : Nat} {A : Nat → Nat} {o : Nat → Int} {g : Nat → Nat → Int} (hN : 2 ≤ N) (hA : ∀ i, i < 3 → A i ≤ N - 2) (ho : ∀ i, i < 3 → 0 ≤ o i ∧ o i ≤ 65535) (hg : ∀ j, j < N * N * N → InG (g j)) {i : Nat} (hi : i < 3) :
    ∀ k, k ≤ 3 → 0 ≤ smV N A o g k i ∧ smV N A o g k i ≤ (65535 - lft o k) * 65535
  | 0, _ => by simp [smV, lft]
  | k + 1, hk => by
    have ih := smV_bd hN hA ho hg hi k (by omega)
    have hl := lft_le ho k (by omega)
    have hix : ixN N (psn A o k) < N * N * N := ixN_lt (fun i hi => by have := psn_le A o k i (by omega); have := hA i hi; omega) (by omega)
    have hgi := hg _ hix i hi
    have hw : lft o (k + 1) = o (axo o k) := rfl
    rw [hw] at hl ⊢
    obtain ⟨p1, p2⟩ := mul_bd (a := lft o k - o (axo o k)) (A := lft o k - o (axo o k)) (by omega) (Int.le_refl _) hgi.1 hgi.2
    have e : (65535 - o (axo o k)) * 65535 = (65535 - lft o k) * 65535 + (lft o k - o (axo o k)) * 65535 := by rw [← Int.add_mul]; congr 1; omega
    show 0 ≤ smV N A o g k i + _ ∧ smV N A o g k i + _ ≤ _
    rw [e]
    omega
theorem lkS_bd {N n : Nat} {g : Nat → Nat → Int} (hG : GrV N n g) (c : Nat → Int) {i : Nat} (hi : i < 3) : 0 ≤ lkS N g c i ∧ lkS N g c i ≤ 4294836225 := by
  obtain ⟨hN, hN', rfl, hg⟩ := hG
  have h1 := smV_bd hN (fun i _ => (lk_bd hN hN' c i).1) (fun i _ => (lk_bd hN hN' c i).2) hg hi 3 (by omega)
  have h2 := lft_bd (fun i _ => (lk_bd hN hN' c i).2) 3 (by omega)
  have hix : ixN N (psn (lkA N c) (lkO N c) 3) < N * N * N := ixN_lt (fun i hi => by have := psn_le (lkA N c) (lkO N c) 3 i (by omega); have := (lk_bd hN hN' c i).1; omega) (by omega)
  have hgi := hg _ hix i hi
  obtain ⟨p1, p2⟩ := mul_bd (a := lft (lkO N c) 3) (A := lft (lkO N c) 3) h2.1 (Int.le_refl _) hgi.1 hgi.2
  have e : (65535 - lft (lkO N c) 3) * 65535 = 4294836225 - lft (lkO N c) 3 * 65535 := by rw [Int.sub_mul]; rfl
  rw [e] at h1
  unfold lkS
  omega

end Go.Proofs.Ytmilljlkcbljpaa

/- look: one corner added. -/
namespace Go.Proofs.Ytmilljlkcbljpaa
open Go.RowKit Go.Sort

theorem add_new (w : World) (k : Int) (c : Nat → Int) (t t' : TypeId) : ∃ w0, (w.alloc (.cells #[.int .i64 k] t)).alloc (.cells #[.int .i64 (c 0), .int .i64 (c 1), .int .i64 (c 2)] t') = w0 ∧
    Below w.heap.size w w0 ∧ w0.heap.size = w.heap.size + 2 ∧ One t w0 w.heap.size (.int .i64 k) ∧ Tri t' w0 (w.heap.size + 1) c := by
  refine ⟨_, rfl, ((Below.refl _ w).alloc (Nat.le_refl _) _).alloc (by simp) _, by simp, (One.new w _ t).alloc _, ?_⟩
  have h := Tri.new (w.alloc (.cells #[.int .i64 k] t)) c t'
  rw [World.size_alloc] at h
  exact h

set_option maxRecDepth 100000 in
set_option maxHeartbeats 1000000 in
theorem add_any {N n B bg ba bs : Nat} {v : Value} {g : Nat → Nat → Int} {p : Nat → Nat} {s : Nat → Int} {K : Int} {tg ta ts : TypeId} {w : World} (hG : GrV N n g) (hv : Cls w B v n g) (hp : ∀ i, i < 3 → p i ≤ N - 1) (hK : 0 ≤ K) (hK' : K ≤ 65535)
    (hs : ∀ i, i < 3 → 0 ≤ s i ∧ s i ≤ 4294836225) (tgr : Two tg w bg (.int .i64 N) v) (tat : Tri ta w ba (axs p)) (tsm : Tri ts w bs s) :
    Calls Try.prog 86 #[.int .i64 K, .pointer (some ⟨bg, 0, none⟩), .pointer (some ⟨ba, 0, none⟩), .pointer (some ⟨bs, 0, none⟩)] w fun e w' => e = .returned (.tuple #[]) ∧ Tri ts w' bs (fun i => s i + K * g (ixN N p) i) ∧ Exc bs w w' := by
  obtain ⟨hN, hN', hn, hg⟩ := hG
  have hix := ixN_lt hp (by omega)
  rw [← hn] at hix
  obtain ⟨q1, q2, q3, q4⟩ := cube_bd hN hN'
  rw [← hn] at q1 q2
  obtain ⟨b, off, cap, rfl, hbB, hcs⟩ := hv.at (by omega)
  obtain ⟨ix, hixe⟩ : ∃ ix, ix = ixN N p := ⟨_, rfl⟩
  rw [← hixe] at hix
  have s0 : w.cell? ⟨b, off + ix * 3, none⟩ = some (.int .i64 (g ix 0)) := hcs ix hix 0 (by omega)
  have s1 := hcs ix hix 1 (by omega)
  have s2 := hcs ix hix 2 (by omega)
  have hgi := hg ix hix
  obtain ⟨w0, h0, hb0, hz, o1, o2⟩ := add_new w K (g ix) 3 28
  have O1 := Lib.hid o1
  have O2 := Lib.hid o2
  have Z := Lib.hid hz
  have P1 := Lib.hid (tsm.on hb0)
  have TS := Lib.hid tsm
  have hmf : ∀ (fn : Fn) (first cap : Array Value) (w : World), (Instr.makeFunc fn first cap).run Try.prog w = .ok (.func fn first cap) w := fun _ _ _ _ => rfl
  have g0 := tgr.c0
  have g1 := tgr.c1
  have a0 : w.cell? ⟨ba, 0, none⟩ = some (.int .i64 ((p 0 : Nat) : Int)) := tat.c0
  have a1 : w.cell? ⟨ba, 1, none⟩ = some (.int .i64 ((p 1 : Nat) : Int)) := tat.c1
  have a2 : w.cell? ⟨ba, 2, none⟩ = some (.int .i64 ((p 2 : Nat) : Int)) := tat.c2
  have p0 := hp 0 (by omega)
  have p1 := hp 1 (by omega)
  have p2 := hp 2 (by omega)
  have lg := tgr.lt
  have la := tat.lt
  have lb : b < w.heap.size := World.block_lt_of_cell? w _ s0
  obtain ⟨m1, m2⟩ := mul_bd (a := ((p 0 : Nat) : Int)) (A := 16) (b := (N : Int)) (B := 17) (by omega) (by omega) (by omega) (by omega)
  obtain ⟨m3, m4⟩ := mul_bd (a := ((p 0 : Nat) : Int) * (N : Int) + ((p 1 : Nat) : Int)) (A := 288) (b := (N : Int)) (B := 17) (by omega) (by omega) (by omega) (by omega)
  have n1 : (((p 0 : Nat) : Int) * (N : Int) + ((p 1 : Nat) : Int)) * (N : Int) + ((p 2 : Nat) : Int) = (ix : Int) := by rw [hixe]; simp [ixN]
  have i1 : 0 ≤ (ix : Int) ∧ (ix : Int) < n := by omega
  have HS := Lib.hid hs
  rw [← hixe]
  clear o1 o2 hz tgr tat tsm hcs hv hg hn hixe hs
  generalize p 0 = p0' at *
  generalize p 1 = p1' at *
  generalize p 2 = p2' at *
  go_enter Try.func86, Try.ntmps86
  have x0 := P1.out.c0
  have x1 := P1.out.c1
  have x2 := P1.out.c2
  go_wp2_with fail
  refine (each_look2 (c := s) (r := fun i => s i + K * g ix i) fun i hi W hbW => (look21_any hi (HS.out i hi).1 (HS.out i hi).2 hK hK' hgi (O1.out.on hbW).cell (O2.out.on hbW)).mono fun e w' ⟨he, hd⟩ => ⟨he, hd.below _⟩).mono ?_
  unfold col
  rintro e w1 ⟨rfl, hb1⟩
  have t1 := P1.out.on hb1
  have z0 := t1.c0
  have z1 := t1.c1
  have z2 := t1.c2
  have f0 := t1.free 0
  have f1 := t1.free 1
  have f2 := t1.free 2
  have T1 := Lib.hid (t1.set3 (fun i => s i + K * g ix i))
  have hq := Exc.of_below (b := bs) (hb0.trans (hb1.mono hb0.size))
  clear t1 h0 x0 x1 x2
  go_wp2
  go_end0
  exact ⟨rfl, T1.out, ((hq.set _).set _).set _⟩

end Go.Proofs.Ytmilljlkcbljpaa
