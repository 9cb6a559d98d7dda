/- look. -/
import Derived.Test.YtmilljlkcbljpaaLk
namespace Go.Proofs.Ytmilljlkcbljpaa
open Go.RowKit Go.Sort

theorem lkA_int {N : Nat} (hN : 2 ≤ N) (c : Nat → Int) (i : Nat) : (if (N : Int) - 2 < gam c i * ((N : Int) - 1) / 65535 then (N : Int) - 2 else gam c i * ((N : Int) - 1) / 65535) = (lkA N c i : Int) := by
  have hg : 0 ≤ gam c i ∧ gam c i ≤ 65535 := clm_bd (by omega) (c i)
  obtain ⟨v, hv⟩ := Int.eq_ofNat_of_zero_le hg.1
  obtain ⟨M, rfl⟩ : ∃ M, N = M + 1 := ⟨N - 1, by omega⟩
  have e : ((M + 1 : Nat) : Int) - 1 = (M : Int) := by omega
  unfold lkA
  rw [hv, e, Int.toNat_natCast, Nat.add_sub_cancel, ← Int.natCast_mul]
  generalize v * M = p
  by_cases h : p / 65535 ≤ M + 1 - 2
  · rw [Nat.min_eq_left h, if_neg (by omega)]; omega
  · rw [Nat.min_eq_right (by omega), if_pos (by omega)]; omega

theorem Two.exc {t : TypeId} {w w' : World} {b b' : Nat} {x y : Value} (h : Two t w b' x y) (k : Exc b w w') (hb : b' ≠ b) : Two t w' b' x y := (k.2.2 b' h.lt hb).trans h

/-- The boxes of look. -/
theorem look_new (w : World) (n : Int) (v : Value) (c : Nat → Int) (tg t t' : TypeId) : ∃ w0, ((((w.alloc (.cells #[.int .i64 n, v] tg)).alloc (.cells #[.int .i64 (c 0), .int .i64 (c 1), .int .i64 (c 2)] t)).alloc (.cells #[.int .i64 0, .int .i64 0, .int .i64 0] t)).alloc (.cells #[.int .i64 0, .int .i64 0, .int .i64 0] t')).alloc (.cells #[.int .i64 0, .int .i64 0, .int .i64 0] t') = w0 ∧
    Below w.heap.size w w0 ∧ w0.heap.size = w.heap.size + 5 ∧ Two tg w0 w.heap.size (.int .i64 n) v ∧ Tri t w0 (w.heap.size + 1) c ∧ Tri t w0 (w.heap.size + 1 + 1) (fun _ => 0) ∧ Tri t' w0 (w.heap.size + 1 + 1 + 1) (fun _ => 0) ∧ Tri t' w0 (w.heap.size + 1 + 1 + 1 + 1) (fun _ => 0) := by
  refine ⟨_, rfl, (((((Below.refl _ w).alloc (Nat.le_refl _) _).alloc (by simp) _).alloc (by simp <;> omega) _).alloc (by simp <;> omega) _).alloc (by simp <;> omega) _, by simp, ((((Two.new w _ v tg).alloc _).alloc _).alloc _).alloc _, ?_, ?_, ?_, ?_⟩
  · have h := Tri.new (w.alloc (.cells #[.int .i64 n, v] tg)) c t
    simp only [World.size_alloc] at h
    exact ((h.alloc _).alloc _).alloc _
  · have h := Tri.new ((w.alloc (.cells #[.int .i64 n, v] tg)).alloc (.cells #[.int .i64 (c 0), .int .i64 (c 1), .int .i64 (c 2)] t)) (fun _ => 0) t
    simp only [World.size_alloc] at h
    exact (h.alloc _).alloc _
  · have h := Tri.new (((w.alloc (.cells #[.int .i64 n, v] tg)).alloc (.cells #[.int .i64 (c 0), .int .i64 (c 1), .int .i64 (c 2)] t)).alloc (.cells #[.int .i64 0, .int .i64 0, .int .i64 0] t)) (fun _ => 0) t'
    simp only [World.size_alloc] at h
    exact h.alloc _
  · have h := Tri.new ((((w.alloc (.cells #[.int .i64 n, v] tg)).alloc (.cells #[.int .i64 (c 0), .int .i64 (c 1), .int .i64 (c 2)] t)).alloc (.cells #[.int .i64 0, .int .i64 0, .int .i64 0] t)).alloc (.cells #[.int .i64 0, .int .i64 0, .int .i64 0] t')) (fun _ => 0) t'
    simp only [World.size_alloc] at h
    exact h

/-- The first k, and zero. -/
def upto (f : Nat → Int) (k i : Nat) : Int := if i < k then f i else 0
theorem upto_step {t : TypeId} {w : World} {b k : Nat} {f : Nat → Int} (h : Tri t w b (upto f k)) (hk : k < 3) : Tri t (w.setCell ⟨b, k, none⟩ (.int .i64 (f k))) b (upto f (k + 1)) :=
  h.set hk (by unfold upto; rw [if_pos (by omega)]) (fun i hi => by unfold upto; by_cases h : i < k <;> simp [h] <;> omega)
theorem upto_3 {t : TypeId} {w : World} {b : Nat} {f : Nat → Int} (h : Tri t w b (upto f 3)) : Tri t w b f := h.congr rfl rfl rfl

set_option maxRecDepth 100000 in
set_option maxHeartbeats 8000000 in
theorem look_any {N n B : Nat} {v : Value} {g : Nat → Nat → Int} {c : Nat → Int} {w : World} (hG : GrV N n g) (hB : B ≤ w.heap.size) (hv : Cls w B v n g) :
    Calls Try.prog 53 #[.agg #[.int .i64 N, v], col c] w fun e w' => e = .returned (col (lkV N g c)) ∧ Below w.heap.size w w' := by
  obtain ⟨a, cap, rfl⟩ := hv.shape
  obtain ⟨w0, h0, hb0, hz, t1, t2, t3, t4, t5⟩ := look_new w N (.slice a n cap) c 31 28 27
  have hmf : ∀ (fn : Fn) (first cap : Array Value) (w : World), (Instr.makeFunc fn first cap).run Try.prog w = .ok (.func fn first cap) w := fun _ _ _ _ => rfl
  have T1 := Lib.hid t1
  have T3 := Lib.hid t3
  have T4 : Hid (Tri 27 w0 (w.heap.size + 1 + 1 + 1) (upto (fun i => (lkA N c i : Int)) 0)) := Lib.hid (t4.congr rfl rfl rfl)
  have T5 : Hid (Tri 27 w0 (w.heap.size + 1 + 1 + 1 + 1) (upto (lkO N c) 0)) := Lib.hid (t5.congr rfl rfl rfl)
  have Z := Lib.hid hz
  have HG := Lib.hid hG
  have HV := Lib.hid hv
  have hN := hG.1
  have hN' := hG.2.1
  have d0 := t2.c0
  have d1 := t2.c1
  have d2 := t2.c2
  clear t1 t2 t3 t4 t5 hz hG hv
  unfold col
  go_enter Try.func53, Try.ntmps53
  go_wp2_with fail
  refine (gamut_any (c := c)).mono ?_
  unfold col
  rintro e w1 ⟨rfl, hb1⟩
  have hq := hb0.trans (hb1.mono hb0.size)
  have U1 := Lib.hid (T1.out.on hb1)
  have U3 := Lib.hid (T3.out.on hb1)
  have U4 := Lib.hid (T4.out.on hb1)
  have U5 := Lib.hid (T5.out.on hb1)
  have hz1 : w.heap.size + 5 ≤ w1.heap.size := by have := hb1.size; have := Z.out; omega
  clear h0 hb1 d0 d1 d2
  go_wp2
  go_loopw [17] (fun i wr => ∃ k : Nat, k ≤ 3 ∧ i = .int .i64 k ∧ Two 31 wr w.heap.size (.int .i64 N) (.slice a n cap) ∧ Tri 28 wr (w.heap.size + 1 + 1) (fun _ => 0) ∧ Tri 27 wr (w.heap.size + 1 + 1 + 1) (upto (fun i => (lkA N c i : Int)) k) ∧ Tri 27 wr (w.heap.size + 1 + 1 + 1 + 1) (upto (lkO N c) k) ∧ Below w.heap.size w wr) (fun i _ => 3 - (intOf i).toNat)
  case atStart => exact ⟨0, by omega, rfl, U1.out, U3.out, U4.out, U5.out, hq⟩
  case round =>
    obtain ⟨k, hk, rfl, t1, t3, t4, t5, hq⟩ := hrel
    by_cases hlt : k < 3
    · have hix := index_col (gam c) k hlt
      have hg : 0 ≤ gam c k ∧ gam c k ≤ 65535 := clm_bd (by omega) (c k)
      have hA0 := lkA_int hN c k
      have hO0 : lkO N c k = gam c k * ((N : Int) - 1) - 65535 * (lkA N c k : Int) := rfl
      obtain ⟨hb1, hb2, hb3⟩ := lk_bd hN hN' c k
      obtain ⟨V, hV⟩ : ∃ V, gam c k = V := ⟨_, rfl⟩
      obtain ⟨A, hA⟩ : ∃ A : Nat, lkA N c k = A := ⟨_, rfl⟩
      rw [hV] at hix hg hA0 hO0
      rw [hA] at hA0 hO0 hb1
      have hmn : ∀ (ts : Array TypeId) (t : TypeId) (w : World), (Builtin.min_ ts t #[.int .i64 (V * ((N : Int) - 1) / 65535), .int .i64 ((N : Int) - 2)]).run Try.prog w = .ok (.int .i64 (A : Int)) w := fun ts t w => by rw [run_min_int2 w ts t, hA0]
      obtain ⟨p1, p2⟩ := mul_bd (a := V) (A := 65535) (b := (N : Int) - 1) (B := 16) hg.1 hg.2 (by omega) (by omega)
      have i1 : 0 ≤ (k : Int) ∧ (k : Int) < 3 := by omega
      have g0 := t1.c0
      have c4 := t4.cell k hlt
      have f4 := t4.free k
      obtain ⟨w2, h2⟩ : ∃ w2, wr.setCell ⟨w.heap.size + 1 + 1 + 1, k, none⟩ (.int .i64 (A : Int)) = w2 := ⟨_, rfl⟩
      have t4' := upto_step t4 hlt
      simp only [hA] at t4'
      have hq2 := hq.setCell (p := ⟨w.heap.size + 1 + 1 + 1, k, none⟩) (by simp; omega) (.int .i64 (A : Int))
      rw [h2] at t4' hq2
      have t1' : Two 31 w2 w.heap.size (.int .i64 N) (.slice a n cap) := by rw [← h2]; exact t1.keep (by omega)
      have t3' : Tri 28 w2 (w.heap.size + 1 + 1) (fun _ => 0) := by rw [← h2]; exact t3.keep (by omega)
      have t5' : Tri 27 w2 (w.heap.size + 1 + 1 + 1 + 1) (upto (lkO N c) k) := by rw [← h2]; exact t5.keep (by omega)
      have e4 : w2.cell? ⟨w.heap.size + 1 + 1 + 1, k, none⟩ = some (.int .i64 (A : Int)) := by
        have := t4'.cell k hlt
        rw [show upto (fun i => (lkA N c i : Int)) (k + 1) k = (A : Int) by unfold upto; rw [if_pos (by omega)]; exact congrArg (fun x : Nat => (x : Int)) hA] at this
        exact this
      have P1 := Lib.hid t1'
      have P3 := Lib.hid t3'
      have P4 := Lib.hid t4'
      have P5 := Lib.hid t5'
      have HO := Lib.hid hO0
      have r0 := cell_regrown t1'.c0
      have r4 := cell_regrown e4
      clear t1 t3 t4 t5 t1' t3' t4' t5' hA0 hO0 hA hV e4
      go_wp2
      clear h2 c4 f4 g0
      refine region_below_tail 12 (by kernel_rfl) (by kernel_rfl) ?_
      simp only [List.take_succ_cons, List.take_zero, List.drop_succ_cons, List.drop_zero]
      repeat (go_big_quiet_step (fail))
      refine wpQuiet_nil ?_
      intro w3 hw3
      replace hw3 := below_of_regrown hw3
      have t5 := P5.out.on hw3
      have c5 := t5.cell k hlt
      have f5 := t5.free k
      have Q1 := Lib.hid (P1.out.on hw3)
      have Q3 := Lib.hid (P3.out.on hw3)
      have Q4 := Lib.hid (P4.out.on hw3)
      have Q5 := Lib.hid (upto_step t5 hlt)
      have hq3 := hq2.trans (hw3.mono hq2.size)
      clear t5 r0 r4 hw3
      go_wp2
      go_roundw
      case rel => exact ⟨k + 1, by omega, by go_num, Q1.out.keep (by omega), Q3.out.keep (by omega), Q4.out.keep (by omega), by rw [← HO.out]; exact Q5.out, hq3.setCell (by simp; omega) _⟩
      case measure => simp [intOf]; omega
    · obtain rfl : k = 3 := by omega
      obtain ⟨wo, rfl⟩ : ∃ wo : World, wo = wr := ⟨_, rfl⟩
      have P1 := Lib.hid t1
      have P3 := Lib.hid t3
      have P4 := Lib.hid (upto_3 t4)
      have P5 := Lib.hid (upto_3 t5)
      have wsz := t5.lt
      obtain ⟨w2, h2⟩ : ∃ w2, wo.alloc (.cells #[.int .i64 0, .int .i64 1, .int .i64 2] 3) = w2 := ⟨_, rfl⟩
      have X2 : Tri 3 w2 wo.heap.size (axs fun k => k) := by rw [← h2]; exact Tri.new wo (fun k => (k : Int)) 3
      have hb2 : Below wo.heap.size wo w2 := by rw [← h2]; exact (Below.refl _ _).alloc (Nat.le_refl _) _
      have hs := Lib.hid (sort_any (cap := 3) (o := lkO N c) (fun k hk => hk) (fun i _ => (lk_bd hN hN' c i).2) X2 (P5.out.on hb2) (by omega))
      have R1 := Lib.hid (P1.out.on hb2)
      have R3 := Lib.hid (P3.out.on hb2)
      have R4 := Lib.hid (P4.out.on hb2)
      have R5 := Lib.hid (P5.out.on hb2)
      have hq2 := hq.trans (hb2.mono hq.size)
      have hl2 := X2.lt
      clear t1 t3 t4 t5 X2
      go_wp2_with fail
      refine hs.out.mono ?_
      rintro e w3 ⟨rfl, x3, hx⟩
      obtain ⟨w4, h4⟩ : ∃ w4, w3.alloc (.cells #[.int .i64 0, .int .i64 0, .int .i64 0] 28) = w4 := ⟨_, rfl⟩
      have hb4 : Below w3.heap.size w3 w4 := by rw [← h4]; exact (Below.refl _ _).alloc (Nat.le_refl _) _
      have S6 : Hid (Tri 28 w4 w3.heap.size (smV N (lkA N c) (lkO N c) g 0)) := Lib.hid (by rw [← h4]; exact (Tri.new w3 (fun _ => 0) 28).congr rfl rfl rfl)
      have S1 := Lib.hid ((R1.out.exc hx (by omega)).on hb4)
      have S3 := Lib.hid ((R3.out.exc hx (by omega)).on hb4)
      have S4 : Hid (Tri 27 w4 (w.heap.size + 1 + 1 + 1) (axs (psn (lkA N c) (lkO N c) 0))) := Lib.hid (((R4.out.exc hx (by omega)).on hb4).congr rfl rfl rfl)
      have S5 := Lib.hid ((R5.out.exc hx (by omega)).on hb4)
      have SX := Lib.hid (x3.on hb4)
      have hq3 := Exc.below hq2 hx (by omega) hq2.size
      have hq4 := hq3.trans (hb4.mono hq3.size)
      have hl3 := x3.lt
      have hsz := hx.2.1
      clear hx hb4 x3 h2
      go_wp2
      clear h4
      go_loopw [12, 53] (fun l i wr => ∃ k : Nat, k ≤ 3 ∧ i = .int .i64 k ∧ l = .int .i64 (lft (lkO N c) k) ∧ Two 31 wr w.heap.size (.int .i64 N) (.slice a n cap) ∧ Tri 28 wr (w.heap.size + 1 + 1) (fun _ => 0) ∧ Tri 27 wr (w.heap.size + 1 + 1 + 1) (axs (psn (lkA N c) (lkO N c) k)) ∧ Tri 27 wr (w.heap.size + 1 + 1 + 1 + 1) (lkO N c) ∧ Tri 3 wr wo.heap.size (axs (axo (lkO N c))) ∧ Tri 28 wr w3.heap.size (smV N (lkA N c) (lkO N c) g k) ∧ Below w.heap.size w wr) (fun _ i _ => 3 - (intOf i).toNat)
      case atStart => exact ⟨0, by omega, rfl, rfl, S1.out, S3.out, S4.out, S5.out, SX.out, S6.out, hq4⟩
      case round =>
        obtain ⟨k, hk, rfl, rfl, t1, t3, t4, t5, tx, t6, hq⟩ := hrel
        have hG' := HG.out
        have hv' := HV.out.below hq hB
        have hpb : ∀ k, k ≤ 3 → ∀ i, i < 3 → psn (lkA N c) (lkO N c) k i ≤ N - 1 := fun k hk i hi => by
          have h1 := psn_le (lkA N c) (lkO N c) k i hk
          have h2 := (lk_bd hN hN' c i).1
          omega
        have hob : ∀ i, i < 3 → 0 ≤ lkO N c i ∧ lkO N c i ≤ 65535 := fun i _ => (lk_bd hN hN' c i).2
        have hsb := fun (k : Nat) (hk : k ≤ 3) (i : Nat) (hi : i < 3) => smV_bd (A := lkA N c) hN (fun i _ => (lk_bd hN hN' c i).1) hob (hG'.2.2.1 ▸ hG'.2.2.2) hi k hk
        have hlb := lft_bd hob
        by_cases hlt : k < 3
        · have hX3 := axo_lt (lkO N c) hlt
          have hle := lft_le hob k hlt
          have hl0 := hlb k hk
          have hl1 := hlb (k + 1) (by omega)
          obtain ⟨X, hX⟩ : ∃ X, axo (lkO N c) k = X := ⟨_, rfl⟩
          obtain ⟨O, hO⟩ : ∃ O, lkO N c X = O := ⟨_, rfl⟩
          obtain ⟨L, hL⟩ : ∃ L, lft (lkO N c) k = L := ⟨_, rfl⟩
          have HSM : Hid (∀ i, smV N (lkA N c) (lkO N c) g (k + 1) i = smV N (lkA N c) (lkO N c) g k i + (L - O) * g (ixN N (psn (lkA N c) (lkO N c) k)) i) := Lib.hid (fun i => by simp only [smV]; rw [hX, hL, hO])
          have HPS : Hid (∀ i, psn (lkA N c) (lkO N c) (k + 1) i = if i = X then psn (lkA N c) (lkO N c) k i + 1 else psn (lkA N c) (lkO N c) k i) := Lib.hid (fun i => by simp only [psn]; rw [hX])
          have HLF : Hid (lft (lkO N c) (k + 1) = O) := Lib.hid (by simp only [lft]; rw [hX, hO])
          have cx : wr.cell? ⟨wo.heap.size, k, none⟩ = some (.int .i64 ((axo (lkO N c) k : Nat) : Int)) := tx.cell k hlt
          rw [hX] at cx hX3
          have c5 := t5.cell X hX3
          rw [hO] at c5
          have hs0 := hsb k hk
          rw [HLF.out] at hl1 hle
          rw [hL] at hl0 hle hs0
          have kadd := Lib.hid (add_any (K := L - O) hG' hv' (hpb k hk) (by omega) (by omega) (fun i hi => by have := hs0 i hi; omega) t1 t4 t6)
          have P1 := Lib.hid t1
          have P3 := Lib.hid t3
          have P4 := Lib.hid t4
          have P5 := Lib.hid t5
          have PX := Lib.hid tx
          have i1 : 0 ≤ (k : Int) ∧ (k : Int) < 3 := by omega
          have i2 : 0 ≤ (X : Int) ∧ (X : Int) < 3 := by omega
          have hpk := hpb k hk X hX3
          have HO := Lib.hid hO
          rw [hL]
          clear t1 t3 t4 t5 tx t6 hs0 hpb hob hsb hlb hO hL hX
          go_wp2_with fail
          refine kadd.out.mono ?_
          rintro e w5 ⟨rfl, s6, hx⟩
          have hq5 := Exc.below hq hx (by omega) hq.size
          have Q1 := Lib.hid (P1.out.exc hx (by omega))
          have Q3 := Lib.hid (P3.out.exc hx (by omega))
          have t4 := P4.out.exc hx (by omega)
          have t5 := P5.out.exc hx (by omega)
          have QX := Lib.hid (PX.out.exc hx (by omega))
          have Q6 := Lib.hid (s6.congr (d := smV N (lkA N c) (lkO N c) g (k + 1)) (HSM.out 0) (HSM.out 1) (HSM.out 2))
          have c5' := t5.cell X hX3
          rw [HO.out] at c5'
          have c4 : w5.cell? ⟨w.heap.size + 1 + 1 + 1, X, none⟩ = some (.int .i64 ((psn (lkA N c) (lkO N c) k X : Nat) : Int)) := t4.cell X hX3
          have f4 := t4.free X
          have Q4 := Lib.hid (t4.set (j := X) (d := axs (psn (lkA N c) (lkO N c) (k + 1))) (v := (psn (lkA N c) (lkO N c) k X : Nat) + 1) hX3 (by unfold axs; rw [HPS.out, if_pos rfl]; simp) (fun i hi => by unfold axs; rw [HPS.out, if_neg hi]))
          have Q5 := Lib.hid t5
          generalize psn (lkA N c) (lkO N c) k X = PX' at *
          clear hx t4 t5
          go_wp2
          go_roundw
          case rel => exact ⟨k + 1, by omega, by go_num, by rw [HLF.out], Q1.out.keep (by omega), Q3.out.keep (by omega), Q4.out, Q5.out.keep (by omega), QX.out.keep (by omega), Q6.out.keep (by omega), hq5.setCell (by simp; omega) _⟩
          case measure => simp [intOf]; omega
        · obtain rfl : k = 3 := by omega
          have hl3 := hlb 3 (by omega)
          have hs0 := hsb 3 (by omega)
          have HS : Hid (∀ i, lkS N g c i = smV N (lkA N c) (lkO N c) g 3 i + lft (lkO N c) 3 * g (ixN N (psn (lkA N c) (lkO N c) 3)) i) := Lib.hid (fun i => rfl)
          obtain ⟨L, hL⟩ : ∃ L, lft (lkO N c) 3 = L := ⟨_, rfl⟩
          rw [hL] at hl3 hs0 HS
          have kadd := Lib.hid (add_any (K := L) hG' hv' (hpb 3 (by omega)) hl3.1 hl3.2 (fun i hi => by have := hs0 i hi; omega) t1 t4 t6)
          have P3 := Lib.hid t3
          rw [hL]
          clear t1 t3 t4 t5 tx t6 hs0 hpb hob hsb hlb hL
          go_wp2_with fail
          refine kadd.out.mono ?_
          rintro e w5 ⟨rfl, s6, hx⟩
          have hq5 := Exc.below hq hx (by omega) hq.size
          have Q3 := Lib.hid (P3.out.exc hx (by omega))
          have s6' := s6.congr (d := lkS N g c) (HS.out 0) (HS.out 1) (HS.out 2)
          have z0 := s6'.c0
          have z1 := s6'.c1
          have z2 := s6'.c2
          clear s6 s6' hx
          go_wp2_with fail
          refine (each_look3 (c := lkS N g c) (r := lkV N g c) fun i hi W hbW => (look3_any (lkS_bd hG' c hi).1 (lkS_bd hG' c hi).2).mono fun e w' ⟨he, hd⟩ => ⟨he, hd.below _⟩).mono ?_
          unfold col
          rintro e w6 ⟨rfl, hb6⟩
          have t3 := Q3.out.on hb6
          have x0 := t3.c0
          have x1 := t3.c1
          have x2 := t3.c2
          have y0 := t3.free 0
          have y1 := t3.free 1
          have y2 := t3.free 2
          have hq6 := hq5.trans (hb6.mono hq5.size)
          clear t3 z0 z1 z2
          go_wp2
          refine bodyPost_ret (v := .agg #[.int .i64 (lkV N g c 0), .int .i64 (lkV N g c 1), .int .i64 (lkV N g c 2)]) (by simp [results, Try.results53, go_sem, *]) rfl ?_
          exact ⟨rfl, set3_below hq6 (by omega) _ _ _⟩

end Go.Proofs.Ytmilljlkcbljpaa
