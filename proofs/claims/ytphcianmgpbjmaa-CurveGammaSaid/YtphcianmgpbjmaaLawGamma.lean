/- The statement CurveGamma, walked. -/
import Derived.Test.YtphcianmgpbjmaaRg2
namespace Go.Proofs.Ytphcianmgpbjmaa
open Go.RowKit

/-- A pair in two cells: the value and the error that a reference function hands back. -/
def Pair (w : World) (b : Nat) (v : Value) (e : Int) : Prop := b < w.heap.size ∧ w.cell? ⟨b, 0, none⟩ = some v ∧ w.cell? ⟨b, 1, none⟩ = some (.int .i64 e) ∧ w.frozen? ⟨b, 0, none⟩ = false ∧ w.frozen? ⟨b, 1, none⟩ = false
theorem Pair.new (w : World) (v : Value) (e : Int) (t : TypeId) : Pair (w.alloc (.cells #[v, .int .i64 e] t)) w.heap.size v e :=
  ⟨by simp, by rw [World.cell?_alloc_at _ _ _ _ rfl]; rfl, by rw [World.cell?_alloc_at _ _ _ _ rfl]; rfl, by simp [go_sem], by simp [go_sem]⟩
theorem Pair.on {w w' : World} {b : Nat} {v : Value} {e : Int} (h : Pair w b v e) (hb : Below w.heap.size w w') : Pair w' b v e := by
  obtain ⟨h0, h1, h2, h3, h4⟩ := h
  exact ⟨Nat.lt_of_lt_of_le h0 hb.size, (hb.cell (p := ⟨b, 0, none⟩) h0).trans h1, (hb.cell (p := ⟨b, 1, none⟩) h0).trans h2, (hb.frozen (p := ⟨b, 0, none⟩) h0).trans h3, (hb.frozen (p := ⟨b, 1, none⟩) h0).trans h4⟩

theorem Pair.put {w : World} {b : Nat} {v : Value} {e : Int} (h : Pair w b v e) (v' : Value) (e' : Int) : ∃ w', (w.setCell ⟨b, 0, none⟩ v').setCell ⟨b, 1, none⟩ (.int .i64 e') = w' ∧ Pair w' b v' e' ∧ Below b w w' ∧
    ∀ base t size n u xs, w.ownsRow base t size u n xs → b < base → w'.ownsRow base t size u n xs := by
  obtain ⟨h0, h1, h2, h3, h4⟩ := h
  refine ⟨_, rfl, ⟨by simpa [World.setCell] using h0, by simp [go_sem, h1], by simp [go_sem, h2], by simp [go_sem, h3], by simp [go_sem, h4]⟩, ?_, ?_⟩
  · exact ((Below.refl b w).setCell (p := ⟨b, 0, none⟩) (Nat.le_refl _) _).setCell (p := ⟨b, 1, none⟩) (Nat.le_refl _) _
  · intro base t size n u xs ho hb
    exact ownsRow_setCell_below (ownsRow_setCell_below ho hb _) hb _

set_option maxHeartbeats 4000000 in
set_option maxRecDepth 100000 in
theorem curveGamma_walk (num den n : Int) (w : World) :
    Calls Try.prog 8 #[.int .i64 num, .int .i64 den, .int .i64 n] w fun e w' => e = .returned (.bool true) ∧ Below w.heap.size w w' := by
  have a7 := and_7
  obtain ⟨Y, hY⟩ : ∃ Y, bits .and .i64 n 65535 = Y := ⟨_, rfl⟩
  obtain ⟨hY0, hY1⟩ : 0 ≤ Y ∧ Y ≤ 65535 := by rw [← hY, and_ffff]; omega
  obtain ⟨K, hK, hK1, hK2⟩ : ∃ K : Nat, 2 + Y % 40 = (K : Int) ∧ 2 ≤ K ∧ K ≤ 41 := ⟨(2 + Y % 40).toNat, by omega, by omega, by omega⟩
  obtain ⟨A, hA, hA1, hA2⟩ : ∃ A : Nat, 1 + num % 8 = (A : Int) ∧ 1 ≤ A ∧ A ≤ 8 := ⟨(1 + num % 8).toNat, by omega, by omega, by omega⟩
  obtain ⟨D, hD, hD1, hD2⟩ : ∃ D : Nat, 1 + den % 8 = (D : Int) ∧ 1 ≤ D ∧ D ≤ 8 := ⟨(1 + den % 8).toNat, by omega, by omega, by omega⟩
  have hle := gamN_le num den n
  go_enter Try.func8, Try.ntmps8
  go_wp2_with fail
  refine (sanity_any w).mono ?_
  rintro e w1 ⟨rfl, b1⟩
  go_wp2_with fail
  refine (gamma_any num den n w1).mono ?_
  rintro e w2 ⟨x, rfl, hx, b2⟩
  obtain ⟨xa, xc, rfl⟩ := own_shape hx
  have X2 : Sl w2 w2.heap.size (.slice xa (gamN num den n) xc) (gamN num den n) (gamV num.toNat den.toNat n.toNat) := Sl.own hx
  replace b2 := b1.trans (b2.mono b1.size)
  clear b1 hx
  have G2 := Pair.new w2 (.slice none 0 0) 1 43
  have q2 : Below w2.heap.size w2 (w2.alloc (.cells #[.slice none 0 0, .int .i64 1] 43)) := (Below.refl _ w2).alloc (Nat.le_refl _) _
  obtain ⟨w3, h3⟩ : ∃ w3, w2.alloc (.cells #[.slice none 0 0, .int .i64 1] 43) = w3 := ⟨_, rfl⟩
  rw [h3] at G2 q2
  have X3 := X2.on q2
  by_cases hn : n ≤ 60
  · go_wp2_with fail
    refine (refGamma_any num den n w3).mono ?_
    rintro e w4 ⟨x', rfl, hx', b4⟩
    obtain ⟨xa', xc', rfl⟩ := own_shape hx'
    have G4 := G2.on b4
    have X4 := X3.on b4
    obtain ⟨w5, h5, G5, q5, o5⟩ := G4.put (.slice xa' (gamN num den n) xc') (gamE num den n)
    have q24 := (q2.trans (b4.mono q2.size))
    have X5 : Sl w5 w5.heap.size (.slice xa (gamN num den n) xc) (gamN num den n) (gamV num.toNat den.toNat n.toNat) := (X2.below (q24.trans q5) (Nat.le_refl _)).mono (q24.trans q5).size
    have X5' : Sl w5 w5.heap.size (.slice xa' (gamN num den n) xc') (gamN num den n) (gamV num.toNat den.toNat n.toNat) := Sl.own (o5 _ _ _ _ _ _ hx' G2.1)
    have b5 : Below w.heap.size w w5 := b2.trans ((q24.trans q5).mono b2.size)
    obtain ⟨_, c1, c2, c3, c4⟩ := G4
    clear b4 hx' X4 q5 o5 q24 X3 G2 X2 q2 b2
    go_wp2_with fail
    refine (gamma_any A D K w5).mono ?_
    rintro e w6 ⟨y, rfl, hy, b6⟩
    obtain ⟨ya, yc, rfl⟩ := own_shape hy
    have Y6 : Sl w6 w6.heap.size (.slice ya (gamN A D K) yc) (gamN A D K) (gamV (A : Int).toNat (D : Int).toNat (K : Int).toNat) := Sl.own hy
    have hle' := gamN_le A D K
    have X6 := X5.on b6
    have X6' := X5'.on b6
    have G6 := G5.on b6
    replace b6 := b5.trans (b6.mono b5.size)
    clear b5 X5 X5' G5 hy
    go_wp2_with fail
    refine (refGamma_any A D K w6).mono ?_
    rintro e w7 ⟨y', rfl, hy', b7⟩
    obtain ⟨ya', yc', rfl⟩ := own_shape hy'
    have Y7' : Sl w7 w7.heap.size (.slice ya' (gamN A D K) yc') (gamN A D K) (gamV (A : Int).toNat (D : Int).toNat (K : Int).toNat) := Sl.own hy'
    have P8 := Pair.new w7 (.slice ya' (gamN A D K) yc') (gamE A D K) 43
    have q8 : Below w7.heap.size w7 (w7.alloc (.cells #[.slice ya' (gamN A D K) yc', .int .i64 (gamE A D K)] 43)) := (Below.refl _ w7).alloc (Nat.le_refl _) _
    obtain ⟨w8, h8⟩ : ∃ w8, w7.alloc (.cells #[.slice ya' (gamN A D K) yc', .int .i64 (gamE A D K)] 43) = w8 := ⟨_, rfl⟩
    rw [h8] at P8 q8
    have X8 := (X6.on b7).on q8
    have X8' := (X6'.on b7).on q8
    have Y8 := (Y6.on b7).on q8
    have Y8' := Y7'.on q8
    have G8 := (G6.on b7).on q8
    have b78 := b7.trans (q8.mono b7.size)
    have b8 := b6.trans (b78.mono b6.size)
    obtain ⟨p0, p1, p2, p3, p4⟩ := P8
    obtain ⟨g0, g1, g2, g3, g4⟩ := G8
    clear b7 b6 q8 X6 X6' Y6 Y7' G6 hy' b78
    go_wp2_with fail
    refine (same_eq (by omega) X8 X8').mono ?_
    rintro e w9 ⟨rfl, q⟩
    obtain ⟨j, rfl⟩ := q
    rw [sameB_t fun _ _ => rfl]
    have Y9 := Y8.drawnN j
    have Y9' := Y8'.drawnN j
    clear X8 X8' Y8 Y8'
    go_wp2_with fail
    refine (same_eq (by omega) Y9 Y9').mono ?_
    rintro e w10 ⟨rfl, q⟩
    rw [sameB_t fun _ _ => rfl]
    have b10 := (below_drewN b8 j).trans (q.below _)
    clear Y9 Y9' q
    go_wp2_with fail
    go_ret
    exact ⟨rfl, b10⟩
  · by_cases hp : n ≤ 257 ∧ 1 ≤ num ∧ num ≤ 8 ∧ 1 ≤ den ∧ den ≤ 8
    · have hok : gamOk num den n := by unfold gamOk; omega
      obtain ⟨w5, h5, G5, q5, o5⟩ := G2.put (.slice xa (gamN num den n) xc) 0
      have X5 : Sl w5 w5.heap.size (.slice xa (gamN num den n) xc) (gamN num den n) (gamV num.toNat den.toNat n.toNat) := (X2.below (q2.trans q5) (Nat.le_refl _)).mono (q2.trans q5).size
      have X5' := X5
      have b5 : Below w.heap.size w w5 := b2.trans ((q2.trans q5).mono b2.size)
      have t1 : decide (1 ≤ num) = true := decide_eq_true (by omega)
      have t2 : decide (num ≤ 8) = true := decide_eq_true (by omega)
      have t3 : decide (1 ≤ den) = true := decide_eq_true (by omega)
      have t4 : decide (den ≤ 8) = true := decide_eq_true (by omega)
      have t5 : decide (n ≤ 257) = true := decide_eq_true (by omega)
      have EE := gamE_yes hok
      obtain ⟨_, c1, c2, c3, c4⟩ := G2
      clear q5 o5 X3 X2 q2 b2 hp hok
      go_wp2_with fail
      refine (gamma_any A D K w5).mono ?_
      rintro e w6 ⟨y, rfl, hy, b6⟩
      obtain ⟨ya, yc, rfl⟩ := own_shape hy
      have Y6 : Sl w6 w6.heap.size (.slice ya (gamN A D K) yc) (gamN A D K) (gamV (A : Int).toNat (D : Int).toNat (K : Int).toNat) := Sl.own hy
      have hle' := gamN_le A D K
      have X6 := X5.on b6
      have X6' := X5'.on b6
      have G6 := G5.on b6
      replace b6 := b5.trans (b6.mono b5.size)
      clear b5 X5 X5' G5 hy
      go_wp2_with fail
      refine (refGamma_any A D K w6).mono ?_
      rintro e w7 ⟨y', rfl, hy', b7⟩
      obtain ⟨ya', yc', rfl⟩ := own_shape hy'
      have Y7' : Sl w7 w7.heap.size (.slice ya' (gamN A D K) yc') (gamN A D K) (gamV (A : Int).toNat (D : Int).toNat (K : Int).toNat) := Sl.own hy'
      have P8 := Pair.new w7 (.slice ya' (gamN A D K) yc') (gamE A D K) 43
      have q8 : Below w7.heap.size w7 (w7.alloc (.cells #[.slice ya' (gamN A D K) yc', .int .i64 (gamE A D K)] 43)) := (Below.refl _ w7).alloc (Nat.le_refl _) _
      obtain ⟨w8, h8⟩ : ∃ w8, w7.alloc (.cells #[.slice ya' (gamN A D K) yc', .int .i64 (gamE A D K)] 43) = w8 := ⟨_, rfl⟩
      rw [h8] at P8 q8
      have X8 := (X6.on b7).on q8
      have X8' := (X6'.on b7).on q8
      have Y8 := (Y6.on b7).on q8
      have Y8' := Y7'.on q8
      have G8 := (G6.on b7).on q8
      have b78 := b7.trans (q8.mono b7.size)
      have b8 := b6.trans (b78.mono b6.size)
      obtain ⟨p0, p1, p2, p3, p4⟩ := P8
      obtain ⟨g0, g1, g2, g3, g4⟩ := G8
      clear b7 b6 q8 X6 X6' Y6 Y7' G6 hy' b78
      go_wp2_with fail
      refine (same_eq (by omega) X8 X8').mono ?_
      rintro e w9 ⟨rfl, q⟩
      obtain ⟨j, rfl⟩ := q
      rw [sameB_t fun _ _ => rfl]
      have Y9 := Y8.drawnN j
      have Y9' := Y8'.drawnN j
      clear X8 X8' Y8 Y8'
      go_wp2_with fail
      refine (same_eq (by omega) Y9 Y9').mono ?_
      rintro e w10 ⟨rfl, q⟩
      rw [sameB_t fun _ _ => rfl]
      have b10 := (below_drewN b8 j).trans (q.below _)
      clear Y9 Y9' q
      go_wp2_with fail
      go_ret
      exact ⟨rfl, b10⟩
    · have hok : ¬ gamOk num den n := by unfold gamOk; omega
      have EE := gamE_no hok
      have EN := gamN_no hok
      have G5 := G2
      have X5 := X3
      have X5' : Sl w3 w3.heap.size (.slice none 0 0) 0 (fun _ => 0) := .inl ⟨rfl, _, _, rfl, fun _ => rfl⟩
      rw [EN] at X5
      have b5 : Below w.heap.size w w3 := b2.trans (q2.mono b2.size)
      obtain ⟨w5, h5⟩ : ∃ w5, w3 = w5 := ⟨_, rfl⟩
      subst h5
      clear G2 X3 X2 q2 b2
      have hc : decide (1 ≤ num) = false ∨ (decide (1 ≤ num) = true ∧ decide (num ≤ 8) = false) ∨ (decide (1 ≤ num) = true ∧ decide (num ≤ 8) = true ∧ decide (1 ≤ den) = false) ∨ (decide (1 ≤ num) = true ∧ decide (num ≤ 8) = true ∧ decide (1 ≤ den) = true ∧ decide (den ≤ 8) = false) ∨ (decide (1 ≤ num) = true ∧ decide (num ≤ 8) = true ∧ decide (1 ≤ den) = true ∧ decide (den ≤ 8) = true ∧ decide (n ≤ 257) = false) := by
        simp only [decide_eq_true_eq, decide_eq_false_iff_not]
        omega
      clear hp hok
      rcases hc with t1 | ⟨t1, t2⟩ | ⟨t1, t2, t3⟩ | ⟨t1, t2, t3, t4⟩ | ⟨t1, t2, t3, t4, t5⟩
      all_goals (
        go_wp2_with fail
        refine (gamma_any A D K w3).mono ?_
        rintro e w6 ⟨y, rfl, hy, b6⟩
        obtain ⟨ya, yc, rfl⟩ := own_shape hy
        have Y6 : Sl w6 w6.heap.size (.slice ya (gamN A D K) yc) (gamN A D K) (gamV (A : Int).toNat (D : Int).toNat (K : Int).toNat) := Sl.own hy
        have hle' := gamN_le A D K
        have X6 := X5.on b6
        have X6' := X5'.on b6
        have G6 := G5.on b6
        replace b6 := b5.trans (b6.mono b5.size)
        clear b5 X5 X5' G5 hy
        go_wp2_with fail
        refine (refGamma_any A D K w6).mono ?_
        rintro e w7 ⟨y', rfl, hy', b7⟩
        obtain ⟨ya', yc', rfl⟩ := own_shape hy'
        have Y7' : Sl w7 w7.heap.size (.slice ya' (gamN A D K) yc') (gamN A D K) (gamV (A : Int).toNat (D : Int).toNat (K : Int).toNat) := Sl.own hy'
        have P8 := Pair.new w7 (.slice ya' (gamN A D K) yc') (gamE A D K) 43
        have q8 : Below w7.heap.size w7 (w7.alloc (.cells #[.slice ya' (gamN A D K) yc', .int .i64 (gamE A D K)] 43)) := (Below.refl _ w7).alloc (Nat.le_refl _) _
        obtain ⟨w8, h8⟩ : ∃ w8, w7.alloc (.cells #[.slice ya' (gamN A D K) yc', .int .i64 (gamE A D K)] 43) = w8 := ⟨_, rfl⟩
        rw [h8] at P8 q8
        have X8 := (X6.on b7).on q8
        have X8' := (X6'.on b7).on q8
        have Y8 := (Y6.on b7).on q8
        have Y8' := Y7'.on q8
        have G8 := (G6.on b7).on q8
        have b78 := b7.trans (q8.mono b7.size)
        have b8 := b6.trans (b78.mono b6.size)
        obtain ⟨p0, p1, p2, p3, p4⟩ := P8
        obtain ⟨g0, g1, g2, g3, g4⟩ := G8
        clear b7 b6 q8 X6 X6' Y6 Y7' G6 hy' b78
        go_wp2_with fail
        refine (same_eq (by omega) X8 X8').mono ?_
        rintro e w9 ⟨rfl, q⟩
        obtain ⟨j, rfl⟩ := q
        rw [sameB_t fun k hk => absurd hk (Nat.not_lt_zero k)]
        have Y9 := Y8.drawnN j
        have Y9' := Y8'.drawnN j
        clear X8 X8' Y8 Y8'
        go_wp2_with fail
        refine (same_eq (by omega) Y9 Y9').mono ?_
        rintro e w10 ⟨rfl, q⟩
        rw [sameB_t fun _ _ => rfl]
        have b10 := (below_drewN b8 j).trans (q.below _)
        clear Y9 Y9' q
        go_wp2_with fail
        go_ret
        exact ⟨rfl, b10⟩      )

end Go.Proofs.Ytphcianmgpbjmaa
