/- Texts of this proof, one behind another: Ll Lo Rw Qs Dv Sn Ac As P. -/
import Derived.Test.YtmilljlkcbljpaaZ4
import Derived.Test.YtmilljlkcbljpaaRows
import Derived.ShutString
import Derived.ChangeOld
import Derived.ProofKit
import Derived.OpenShut
/- look. -/
namespace Go.Proofs.Ytmilljlkcbljpaa
open Go.RowKit Go.Sort

theorem lkA_int {N : Nat} (hN : 2 ≤ N) (c : Nat → Int) (i : Nat) : (if (N : Int) - 2 < gam c i * ((N : Int) - 1) / 65535 then (N : Int) - 2 else gam c i * ((N : Int) - 1) / 65535) = (lkA N c i : Int) := by
  have hg : 0 ≤ gam c i ∧ gam c i ≤ 65535 := clm_bd (by omega) (c i)
  obtain ⟨v, hv⟩ := Int.eq_ofNat_of_zero_le hg.1
  obtain ⟨M, rfl⟩ : ∃ M, N = M + 1 := ⟨N - 1, by omega⟩
  have e : ((M + 1 : Nat) : Int) - 1 = (M : Int) := by omega
  unfold lkA
  rw [hv, e, Int.toNat_natCast, Nat.add_sub_cancel, ← Int.natCast_mul]
  generalize v * M = p
  by_cases h : p / 65535 ≤ M + 1 - 2
  · rw [Nat.min_eq_left h, if_neg (by omega)]; omega
  · rw [Nat.min_eq_right (by omega), if_pos (by omega)]; omega

theorem Two.exc {t : TypeId} {w w' : World} {b b' : Nat} {x y : Value} (h : Two t w b' x y) (k : Exc b w w') (hb : b' ≠ b) : Two t w' b' x y := (k.2.2 b' h.lt hb).trans h

/-- The boxes of look. -/
theorem look_new (w : World) (n : Int) (v : Value) (c : Nat → Int) (tg t t' : TypeId) : ∃ w0, ((((w.alloc (.cells #[.int .i64 n, v] tg)).alloc (.cells #[.int .i64 (c 0), .int .i64 (c 1), .int .i64 (c 2)] t)).alloc (.cells #[.int .i64 0, .int .i64 0, .int .i64 0] t)).alloc (.cells #[.int .i64 0, .int .i64 0, .int .i64 0] t')).alloc (.cells #[.int .i64 0, .int .i64 0, .int .i64 0] t') = w0 ∧
    Below w.heap.size w w0 ∧ w0.heap.size = w.heap.size + 5 ∧ Two tg w0 w.heap.size (.int .i64 n) v ∧ Tri t w0 (w.heap.size + 1) c ∧ Tri t w0 (w.heap.size + 1 + 1) (fun _ => 0) ∧ Tri t' w0 (w.heap.size + 1 + 1 + 1) (fun _ => 0) ∧ Tri t' w0 (w.heap.size + 1 + 1 + 1 + 1) (fun _ => 0) := by
  refine ⟨_, rfl, (((((Below.refl _ w).alloc (Nat.le_refl _) _).alloc (by simp) _).alloc (by simp <;> omega) _).alloc (by simp <;> omega) _).alloc (by simp <;> omega) _, by simp, ((((Two.new w _ v tg).alloc _).alloc _).alloc _).alloc _, ?_, ?_, ?_, ?_⟩
  · have h := Tri.new (w.alloc (.cells #[.int .i64 n, v] tg)) c t
    simp only [World.size_alloc] at h
    exact ((h.alloc _).alloc _).alloc _
  · have h := Tri.new ((w.alloc (.cells #[.int .i64 n, v] tg)).alloc (.cells #[.int .i64 (c 0), .int .i64 (c 1), .int .i64 (c 2)] t)) (fun _ => 0) t
    simp only [World.size_alloc] at h
    exact (h.alloc _).alloc _
  · have h := Tri.new (((w.alloc (.cells #[.int .i64 n, v] tg)).alloc (.cells #[.int .i64 (c 0), .int .i64 (c 1), .int .i64 (c 2)] t)).alloc (.cells #[.int .i64 0, .int .i64 0, .int .i64 0] t)) (fun _ => 0) t'
    simp only [World.size_alloc] at h
    exact h.alloc _
  · have h := Tri.new ((((w.alloc (.cells #[.int .i64 n, v] tg)).alloc (.cells #[.int .i64 (c 0), .int .i64 (c 1), .int .i64 (c 2)] t)).alloc (.cells #[.int .i64 0, .int .i64 0, .int .i64 0] t)).alloc (.cells #[.int .i64 0, .int .i64 0, .int .i64 0] t')) (fun _ => 0) t'
    simp only [World.size_alloc] at h
    exact h

/-- The first k, and zero. -/
def upto (f : Nat → Int) (k i : Nat) : Int := if i < k then f i else 0
theorem upto_step {t : TypeId} {w : World} {b k : Nat} {f : Nat → Int} (h : Tri t w b (upto f k)) (hk : k < 3) : Tri t (w.setCell ⟨b, k, none⟩ (.int .i64 (f k))) b (upto f (k + 1)) :=
  h.set hk (by unfold upto; rw [if_pos (by omega)]) (fun i hi => by unfold upto; by_cases h : i < k <;> simp [h] <;> omega)
theorem upto_3 {t : TypeId} {w : World} {b : Nat} {f : Nat → Int} (h : Tri t w b (upto f 3)) : Tri t w b f := h.congr rfl rfl rfl

set_option maxRecDepth 100000 in
set_option maxHeartbeats 8000000 in
theorem look_any {N n B : Nat} {v : Value} {g : Nat → Nat → Int} {c : Nat → Int} {w : World} (hG : GrV N n g) (hB : B ≤ w.heap.size) (hv : Cls w B v n g) :
    Calls Try.prog 53 #[.agg #[.int .i64 N, v], col c] w fun e w' => e = .returned (col (lkV N g c)) ∧ Below w.heap.size w w' := by
  obtain ⟨a, cap, rfl⟩ := hv.shape
  obtain ⟨w0, h0, hb0, hz, t1, t2, t3, t4, t5⟩ := look_new w N (.slice a n cap) c 31 28 27
  have hmf : ∀ (fn : Fn) (first cap : Array Value) (w : World), (Instr.makeFunc fn first cap).run Try.prog w = .ok (.func fn first cap) w := fun _ _ _ _ => rfl
  have T1 := Lib.hid t1
  have T3 := Lib.hid t3
  have T4 : Hid (Tri 27 w0 (w.heap.size + 1 + 1 + 1) (upto (fun i => (lkA N c i : Int)) 0)) := Lib.hid (t4.congr rfl rfl rfl)
  have T5 : Hid (Tri 27 w0 (w.heap.size + 1 + 1 + 1 + 1) (upto (lkO N c) 0)) := Lib.hid (t5.congr rfl rfl rfl)
  have Z := Lib.hid hz
  have HG := Lib.hid hG
  have HV := Lib.hid hv
  have hN := hG.1
  have hN' := hG.2.1
  have d0 := t2.c0
  have d1 := t2.c1
  have d2 := t2.c2
  clear t1 t2 t3 t4 t5 hz hG hv
  unfold col
  go_enter Try.func53, Try.ntmps53
  go_wp2_with fail
  refine (gamut_any (c := c)).mono ?_
  unfold col
  rintro e w1 ⟨rfl, hb1⟩
  have hq := hb0.trans (hb1.mono hb0.size)
  have U1 := Lib.hid (T1.out.on hb1)
  have U3 := Lib.hid (T3.out.on hb1)
  have U4 := Lib.hid (T4.out.on hb1)
  have U5 := Lib.hid (T5.out.on hb1)
  have hz1 : w.heap.size + 5 ≤ w1.heap.size := by have := hb1.size; have := Z.out; omega
  clear h0 hb1 d0 d1 d2
  go_wp2
  go_loopw [17] (fun i wr => ∃ k : Nat, k ≤ 3 ∧ i = .int .i64 k ∧ Two 31 wr w.heap.size (.int .i64 N) (.slice a n cap) ∧ Tri 28 wr (w.heap.size + 1 + 1) (fun _ => 0) ∧ Tri 27 wr (w.heap.size + 1 + 1 + 1) (upto (fun i => (lkA N c i : Int)) k) ∧ Tri 27 wr (w.heap.size + 1 + 1 + 1 + 1) (upto (lkO N c) k) ∧ Below w.heap.size w wr) (fun i _ => 3 - (intOf i).toNat)
  case atStart => exact ⟨0, by omega, rfl, U1.out, U3.out, U4.out, U5.out, hq⟩
  case round =>
    obtain ⟨k, hk, rfl, t1, t3, t4, t5, hq⟩ := hrel
    by_cases hlt : k < 3
    · have hix := index_col (gam c) k hlt
      have hg : 0 ≤ gam c k ∧ gam c k ≤ 65535 := clm_bd (by omega) (c k)
      have hA0 := lkA_int hN c k
      have hO0 : lkO N c k = gam c k * ((N : Int) - 1) - 65535 * (lkA N c k : Int) := rfl
      obtain ⟨hb1, hb2, hb3⟩ := lk_bd hN hN' c k
      obtain ⟨V, hV⟩ : ∃ V, gam c k = V := ⟨_, rfl⟩
      obtain ⟨A, hA⟩ : ∃ A : Nat, lkA N c k = A := ⟨_, rfl⟩
      rw [hV] at hix hg hA0 hO0
      rw [hA] at hA0 hO0 hb1
      have hmn : ∀ (ts : Array TypeId) (t : TypeId) (w : World), (Builtin.min_ ts t #[.int .i64 (V * ((N : Int) - 1) / 65535), .int .i64 ((N : Int) - 2)]).run Try.prog w = .ok (.int .i64 (A : Int)) w := fun ts t w => by rw [run_min_int2 w ts t, hA0]
      obtain ⟨p1, p2⟩ := mul_bd (a := V) (A := 65535) (b := (N : Int) - 1) (B := 16) hg.1 hg.2 (by omega) (by omega)
      have i1 : 0 ≤ (k : Int) ∧ (k : Int) < 3 := by omega
      have g0 := t1.c0
      have c4 := t4.cell k hlt
      have f4 := t4.free k
      obtain ⟨w2, h2⟩ : ∃ w2, wr.setCell ⟨w.heap.size + 1 + 1 + 1, k, none⟩ (.int .i64 (A : Int)) = w2 := ⟨_, rfl⟩
      have t4' := upto_step t4 hlt
      simp only [hA] at t4'
      have hq2 := hq.setCell (p := ⟨w.heap.size + 1 + 1 + 1, k, none⟩) (by simp; omega) (.int .i64 (A : Int))
      rw [h2] at t4' hq2
      have t1' : Two 31 w2 w.heap.size (.int .i64 N) (.slice a n cap) := by rw [← h2]; exact t1.keep (by omega)
      have t3' : Tri 28 w2 (w.heap.size + 1 + 1) (fun _ => 0) := by rw [← h2]; exact t3.keep (by omega)
      have t5' : Tri 27 w2 (w.heap.size + 1 + 1 + 1 + 1) (upto (lkO N c) k) := by rw [← h2]; exact t5.keep (by omega)
      have e4 : w2.cell? ⟨w.heap.size + 1 + 1 + 1, k, none⟩ = some (.int .i64 (A : Int)) := by
        have := t4'.cell k hlt
        rw [show upto (fun i => (lkA N c i : Int)) (k + 1) k = (A : Int) by unfold upto; rw [if_pos (by omega)]; exact congrArg (fun x : Nat => (x : Int)) hA] at this
        exact this
      have P1 := Lib.hid t1'
      have P3 := Lib.hid t3'
      have P4 := Lib.hid t4'
      have P5 := Lib.hid t5'
      have HO := Lib.hid hO0
      have r0 := cell_regrown t1'.c0
      have r4 := cell_regrown e4
      clear t1 t3 t4 t5 t1' t3' t4' t5' hA0 hO0 hA hV e4
      go_wp2
      clear h2 c4 f4 g0
      refine region_below_tail 12 (by kernel_rfl) (by kernel_rfl) ?_
      simp only [List.take_succ_cons, List.take_zero, List.drop_succ_cons, List.drop_zero]
      repeat (go_big_quiet_step (fail))
      refine wpQuiet_nil ?_
      intro w3 hw3
      replace hw3 := below_of_regrown hw3
      have t5 := P5.out.on hw3
      have c5 := t5.cell k hlt
      have f5 := t5.free k
      have Q1 := Lib.hid (P1.out.on hw3)
      have Q3 := Lib.hid (P3.out.on hw3)
      have Q4 := Lib.hid (P4.out.on hw3)
      have Q5 := Lib.hid (upto_step t5 hlt)
      have hq3 := hq2.trans (hw3.mono hq2.size)
      clear t5 r0 r4 hw3
      go_wp2
      go_roundw
      case rel => exact ⟨k + 1, by omega, by go_num, Q1.out.keep (by omega), Q3.out.keep (by omega), Q4.out.keep (by omega), by rw [← HO.out]; exact Q5.out, hq3.setCell (by simp; omega) _⟩
      case measure => simp [intOf]; omega
    · obtain rfl : k = 3 := by omega
      obtain ⟨wo, rfl⟩ : ∃ wo : World, wo = wr := ⟨_, rfl⟩
      have P1 := Lib.hid t1
      have P3 := Lib.hid t3
      have P4 := Lib.hid (upto_3 t4)
      have P5 := Lib.hid (upto_3 t5)
      have wsz := t5.lt
      obtain ⟨w2, h2⟩ : ∃ w2, wo.alloc (.cells #[.int .i64 0, .int .i64 1, .int .i64 2] 3) = w2 := ⟨_, rfl⟩
      have X2 : Tri 3 w2 wo.heap.size (axs fun k => k) := by rw [← h2]; exact Tri.new wo (fun k => (k : Int)) 3
      have hb2 : Below wo.heap.size wo w2 := by rw [← h2]; exact (Below.refl _ _).alloc (Nat.le_refl _) _
      have hs := Lib.hid (sort_any (cap := 3) (o := lkO N c) (fun k hk => hk) (fun i _ => (lk_bd hN hN' c i).2) X2 (P5.out.on hb2) (by omega))
      have R1 := Lib.hid (P1.out.on hb2)
      have R3 := Lib.hid (P3.out.on hb2)
      have R4 := Lib.hid (P4.out.on hb2)
      have R5 := Lib.hid (P5.out.on hb2)
      have hq2 := hq.trans (hb2.mono hq.size)
      have hl2 := X2.lt
      clear t1 t3 t4 t5 X2
      go_wp2_with fail
      refine hs.out.mono ?_
      rintro e w3 ⟨rfl, x3, hx⟩
      obtain ⟨w4, h4⟩ : ∃ w4, w3.alloc (.cells #[.int .i64 0, .int .i64 0, .int .i64 0] 28) = w4 := ⟨_, rfl⟩
      have hb4 : Below w3.heap.size w3 w4 := by rw [← h4]; exact (Below.refl _ _).alloc (Nat.le_refl _) _
      have S6 : Hid (Tri 28 w4 w3.heap.size (smV N (lkA N c) (lkO N c) g 0)) := Lib.hid (by rw [← h4]; exact (Tri.new w3 (fun _ => 0) 28).congr rfl rfl rfl)
      have S1 := Lib.hid ((R1.out.exc hx (by omega)).on hb4)
      have S3 := Lib.hid ((R3.out.exc hx (by omega)).on hb4)
      have S4 : Hid (Tri 27 w4 (w.heap.size + 1 + 1 + 1) (axs (psn (lkA N c) (lkO N c) 0))) := Lib.hid (((R4.out.exc hx (by omega)).on hb4).congr rfl rfl rfl)
      have S5 := Lib.hid ((R5.out.exc hx (by omega)).on hb4)
      have SX := Lib.hid (x3.on hb4)
      have hq3 := Exc.below hq2 hx (by omega) hq2.size
      have hq4 := hq3.trans (hb4.mono hq3.size)
      have hl3 := x3.lt
      have hsz := hx.2.1
      clear hx hb4 x3 h2
      go_wp2
      clear h4
      go_loopw [12, 53] (fun l i wr => ∃ k : Nat, k ≤ 3 ∧ i = .int .i64 k ∧ l = .int .i64 (lft (lkO N c) k) ∧ Two 31 wr w.heap.size (.int .i64 N) (.slice a n cap) ∧ Tri 28 wr (w.heap.size + 1 + 1) (fun _ => 0) ∧ Tri 27 wr (w.heap.size + 1 + 1 + 1) (axs (psn (lkA N c) (lkO N c) k)) ∧ Tri 27 wr (w.heap.size + 1 + 1 + 1 + 1) (lkO N c) ∧ Tri 3 wr wo.heap.size (axs (axo (lkO N c))) ∧ Tri 28 wr w3.heap.size (smV N (lkA N c) (lkO N c) g k) ∧ Below w.heap.size w wr) (fun _ i _ => 3 - (intOf i).toNat)
      case atStart => exact ⟨0, by omega, rfl, rfl, S1.out, S3.out, S4.out, S5.out, SX.out, S6.out, hq4⟩
      case round =>
        obtain ⟨k, hk, rfl, rfl, t1, t3, t4, t5, tx, t6, hq⟩ := hrel
        have hG' := HG.out
        have hv' := HV.out.below hq hB
        have hpb : ∀ k, k ≤ 3 → ∀ i, i < 3 → psn (lkA N c) (lkO N c) k i ≤ N - 1 := fun k hk i hi => by
          have h1 := psn_le (lkA N c) (lkO N c) k i hk
          have h2 := (lk_bd hN hN' c i).1
          omega
        have hob : ∀ i, i < 3 → 0 ≤ lkO N c i ∧ lkO N c i ≤ 65535 := fun i _ => (lk_bd hN hN' c i).2
        have hsb := fun (k : Nat) (hk : k ≤ 3) (i : Nat) (hi : i < 3) => smV_bd (A := lkA N c) hN (fun i _ => (lk_bd hN hN' c i).1) hob (hG'.2.2.1 ▸ hG'.2.2.2) hi k hk
        have hlb := lft_bd hob
        by_cases hlt : k < 3
        · have hX3 := axo_lt (lkO N c) hlt
          have hle := lft_le hob k hlt
          have hl0 := hlb k hk
          have hl1 := hlb (k + 1) (by omega)
          obtain ⟨X, hX⟩ : ∃ X, axo (lkO N c) k = X := ⟨_, rfl⟩
          obtain ⟨O, hO⟩ : ∃ O, lkO N c X = O := ⟨_, rfl⟩
          obtain ⟨L, hL⟩ : ∃ L, lft (lkO N c) k = L := ⟨_, rfl⟩
          have HSM : Hid (∀ i, smV N (lkA N c) (lkO N c) g (k + 1) i = smV N (lkA N c) (lkO N c) g k i + (L - O) * g (ixN N (psn (lkA N c) (lkO N c) k)) i) := Lib.hid (fun i => by simp only [smV]; rw [hX, hL, hO])
          have HPS : Hid (∀ i, psn (lkA N c) (lkO N c) (k + 1) i = if i = X then psn (lkA N c) (lkO N c) k i + 1 else psn (lkA N c) (lkO N c) k i) := Lib.hid (fun i => by simp only [psn]; rw [hX])
          have HLF : Hid (lft (lkO N c) (k + 1) = O) := Lib.hid (by simp only [lft]; rw [hX, hO])
          have cx : wr.cell? ⟨wo.heap.size, k, none⟩ = some (.int .i64 ((axo (lkO N c) k : Nat) : Int)) := tx.cell k hlt
          rw [hX] at cx hX3
          have c5 := t5.cell X hX3
          rw [hO] at c5
          have hs0 := hsb k hk
          rw [HLF.out] at hl1 hle
          rw [hL] at hl0 hle hs0
          have kadd := Lib.hid (add_any (K := L - O) hG' hv' (hpb k hk) (by omega) (by omega) (fun i hi => by have := hs0 i hi; omega) t1 t4 t6)
          have P1 := Lib.hid t1
          have P3 := Lib.hid t3
          have P4 := Lib.hid t4
          have P5 := Lib.hid t5
          have PX := Lib.hid tx
          have i1 : 0 ≤ (k : Int) ∧ (k : Int) < 3 := by omega
          have i2 : 0 ≤ (X : Int) ∧ (X : Int) < 3 := by omega
          have hpk := hpb k hk X hX3
          have HO := Lib.hid hO
          rw [hL]
          clear t1 t3 t4 t5 tx t6 hs0 hpb hob hsb hlb hO hL hX
          go_wp2_with fail
          refine kadd.out.mono ?_
          rintro e w5 ⟨rfl, s6, hx⟩
          have hq5 := Exc.below hq hx (by omega) hq.size
          have Q1 := Lib.hid (P1.out.exc hx (by omega))
          have Q3 := Lib.hid (P3.out.exc hx (by omega))
          have t4 := P4.out.exc hx (by omega)
          have t5 := P5.out.exc hx (by omega)
          have QX := Lib.hid (PX.out.exc hx (by omega))
          have Q6 := Lib.hid (s6.congr (d := smV N (lkA N c) (lkO N c) g (k + 1)) (HSM.out 0) (HSM.out 1) (HSM.out 2))
          have c5' := t5.cell X hX3
          rw [HO.out] at c5'
          have c4 : w5.cell? ⟨w.heap.size + 1 + 1 + 1, X, none⟩ = some (.int .i64 ((psn (lkA N c) (lkO N c) k X : Nat) : Int)) := t4.cell X hX3
          have f4 := t4.free X
          have Q4 := Lib.hid (t4.set (j := X) (d := axs (psn (lkA N c) (lkO N c) (k + 1))) (v := (psn (lkA N c) (lkO N c) k X : Nat) + 1) hX3 (by unfold axs; rw [HPS.out, if_pos rfl]; simp) (fun i hi => by unfold axs; rw [HPS.out, if_neg hi]))
          have Q5 := Lib.hid t5
          generalize psn (lkA N c) (lkO N c) k X = PX' at *
          clear hx t4 t5
          go_wp2
          go_roundw
          case rel => exact ⟨k + 1, by omega, by go_num, by rw [HLF.out], Q1.out.keep (by omega), Q3.out.keep (by omega), Q4.out, Q5.out.keep (by omega), QX.out.keep (by omega), Q6.out.keep (by omega), hq5.setCell (by simp; omega) _⟩
          case measure => simp [intOf]; omega
        · obtain rfl : k = 3 := by omega
          have hl3 := hlb 3 (by omega)
          have hs0 := hsb 3 (by omega)
          have HS : Hid (∀ i, lkS N g c i = smV N (lkA N c) (lkO N c) g 3 i + lft (lkO N c) 3 * g (ixN N (psn (lkA N c) (lkO N c) 3)) i) := Lib.hid (fun i => rfl)
          obtain ⟨L, hL⟩ : ∃ L, lft (lkO N c) 3 = L := ⟨_, rfl⟩
          rw [hL] at hl3 hs0 HS
          have kadd := Lib.hid (add_any (K := L) hG' hv' (hpb 3 (by omega)) hl3.1 hl3.2 (fun i hi => by have := hs0 i hi; omega) t1 t4 t6)
          have P3 := Lib.hid t3
          rw [hL]
          clear t1 t3 t4 t5 tx t6 hs0 hpb hob hsb hlb hL
          go_wp2_with fail
          refine kadd.out.mono ?_
          rintro e w5 ⟨rfl, s6, hx⟩
          have hq5 := Exc.below hq hx (by omega) hq.size
          have Q3 := Lib.hid (P3.out.exc hx (by omega))
          have s6' := s6.congr (d := lkS N g c) (HS.out 0) (HS.out 1) (HS.out 2)
          have z0 := s6'.c0
          have z1 := s6'.c1
          have z2 := s6'.c2
          clear s6 s6' hx
          go_wp2_with fail
          refine (each_look3 (c := lkS N g c) (r := lkV N g c) fun i hi W hbW => (look3_any (lkS_bd hG' c hi).1 (lkS_bd hG' c hi).2).mono fun e w' ⟨he, hd⟩ => ⟨he, hd.below _⟩).mono ?_
          unfold col
          rintro e w6 ⟨rfl, hb6⟩
          have t3 := Q3.out.on hb6
          have x0 := t3.c0
          have x1 := t3.c1
          have x2 := t3.c2
          have y0 := t3.free 0
          have y1 := t3.free 1
          have y2 := t3.free 2
          have hq6 := hq5.trans (hb6.mono hq5.size)
          clear t3 z0 z1 z2
          go_wp2
          refine bodyPost_ret (v := .agg #[.int .i64 (lkV N g c 0), .int .i64 (lkV N g c 1), .int .i64 (lkV N g c 2)]) (by simp [results, Try.results53, go_sem, *]) rfl ?_
          exact ⟨rfl, set3_below hq6 (by omega) _ _ _⟩

end Go.Proofs.Ytmilljlkcbljpaa

/- Look, Narrow. -/
namespace Go.Proofs.Ytmilljlkcbljpaa
open Go.RowKit Go.Sort

/-- The boxes of Look. -/
theorem lookB_new (w : World) (n : Int) (v : Value) (c : Nat → Int) (tg t : TypeId) : ∃ w0, ((w.alloc (.cells #[.int .i64 n, v] tg)).alloc (.cells #[.int .i64 (c 0), .int .i64 (c 1), .int .i64 (c 2)] t)).alloc (.cells #[.int .i64 0, .int .i64 0, .int .i64 0] t) = w0 ∧
    Below w.heap.size w w0 ∧ w0.heap.size = w.heap.size + 3 ∧ Two tg w0 w.heap.size (.int .i64 n) v ∧ Tri t w0 (w.heap.size + 1) c ∧ Tri t w0 (w.heap.size + 1 + 1) (fun _ => 0) := by
  refine ⟨_, rfl, (((Below.refl _ w).alloc (Nat.le_refl _) _).alloc (by simp) _).alloc (by simp <;> omega) _, by simp, ((Two.new w _ v tg).alloc _).alloc _, ?_, ?_⟩
  · have h := Tri.new (w.alloc (.cells #[.int .i64 n, v] tg)) c t
    simp only [World.size_alloc] at h
    exact h.alloc _
  · have h := Tri.new ((w.alloc (.cells #[.int .i64 n, v] tg)).alloc (.cells #[.int .i64 (c 0), .int .i64 (c 1), .int .i64 (c 2)] t)) (fun _ => 0) t
    simp only [World.size_alloc] at h
    exact h

set_option maxRecDepth 100000 in
set_option maxHeartbeats 2000000 in
theorem Look_no {N n B : Nat} {v : Value} {g : Nat → Nat → Int} {c : Nat → Int} {w : World} (hN : N ≤ 1000000) (hB : B ≤ w.heap.size) (hv : Cls w B v n g) (hG : ¬ GrV N n g) :
    Calls Try.prog 22 #[.agg #[.int .i64 N, v], col c] w fun e w' => e = .returned (.tuple #[col (fun _ => 0), .int .i64 1]) ∧ Below w.heap.size w w' := by
  obtain ⟨w0, h0, hb0, hz, t1, t2, t3⟩ := lookB_new w N v c 31 28
  have kv := Lib.hid (grid_any (g := g) (N := N) (w := w0) hN (Nat.le_trans hB hb0.size) (hv.below hb0 hB))
  rw [grB_f hG] at kv
  have T3 := Lib.hid t3
  have g0 := t1.c0
  have g1 := t1.c1
  have hsh := hv.shape
  obtain ⟨a, cap, rfl⟩ := hsh
  clear t1 t2 t3 hv hG
  unfold col
  go_enter Try.func22, Try.ntmps22
  go_wp2_with fail
  refine kv.out.mono ?_
  rintro e w1 ⟨rfl, hb1⟩
  have t3 := T3.out.on hb1
  have x0 := t3.c0
  have x1 := t3.c1
  have x2 := t3.c2
  have y0 := t3.free 0
  have y1 := t3.free 1
  have y2 := t3.free 2
  have hq := hb0.trans (hb1.mono hb0.size)
  clear t3 h0 g0 g1
  go_wp2
  refine bodyPost_ret (v := .tuple #[.agg #[.int .i64 0, .int .i64 0, .int .i64 0], .int .i64 1]) (by simp [results, Try.results22, go_sem, *]) rfl ?_
  exact ⟨rfl, set3_below hq (by omega) _ _ _⟩

set_option maxRecDepth 100000 in
set_option maxHeartbeats 2000000 in
theorem Look_yes {N n B : Nat} {v : Value} {g : Nat → Nat → Int} {c : Nat → Int} {w : World} (hB : B ≤ w.heap.size) (hv : Cls w B v n g) (hG : GrV N n g) :
    Calls Try.prog 22 #[.agg #[.int .i64 N, v], col c] w fun e w' => e = .returned (.tuple #[col (lkV N g c), .int .i64 0]) ∧ Below w.heap.size w w' := by
  obtain ⟨w0, h0, hb0, hz, t1, t2, t3⟩ := lookB_new w N v c 31 28
  have kv := Lib.hid (grid_any (g := g) (N := N) (w := w0) (by have := hG.2.1; omega) (Nat.le_trans hB hb0.size) (hv.below hb0 hB))
  rw [grB_t hG] at kv
  have T1 := Lib.hid t1
  have T2 := Lib.hid t2
  have T3 := Lib.hid t3
  have g0 := t1.c0
  have g1 := t1.c1
  have HV := Lib.hid hv
  have HG := Lib.hid hG
  have hsh := hv.shape
  obtain ⟨a, cap, rfl⟩ := hsh
  clear t1 t2 t3 hv hG
  unfold col
  go_enter Try.func22, Try.ntmps22
  go_wp2_with fail
  refine kv.out.mono ?_
  rintro e w1 ⟨rfl, hb1⟩
  have hq := hb0.trans (hb1.mono hb0.size)
  have t1 := T1.out.on hb1
  have t2 := T2.out.on hb1
  have T3' := Lib.hid (T3.out.on hb1)
  have kl := Lib.hid (look_any (c := c) (w := w1) HG.out (Nat.le_trans hB hq.size) (HV.out.below hq hB))
  unfold col at kl
  have d0 := t2.c0
  have d1 := t2.c1
  have d2 := t2.c2
  clear h0 g0 g1 hb1
  have g0 := t1.c0
  have g1 := t1.c1
  clear t1 t2
  go_wp2_with fail
  refine kl.out.mono ?_
  rintro e w2 ⟨rfl, hb2⟩
  have t3 := T3'.out.on hb2
  have x0 := t3.c0
  have x1 := t3.c1
  have x2 := t3.c2
  have y0 := t3.free 0
  have y1 := t3.free 1
  have y2 := t3.free 2
  have hq2 := hq.trans (hb2.mono hq.size)
  clear t3 g0 g1 d0 d1 d2
  go_wp2
  refine bodyPost_ret (v := .tuple #[.agg #[.int .i64 (lkV N g c 0), .int .i64 (lkV N g c 1), .int .i64 (lkV N g c 2)], .int .i64 0]) (by simp [results, Try.results22, go_sem, *]) rfl ?_
  exact ⟨rfl, set3_below hq2 (by omega) _ _ _⟩

/-- Four bytes in a block. -/
def Fou (t : TypeId) (w : World) (b : Nat) (p : Nat → Int) : Prop := w.heap[b]? = some (.cells #[.int .u8 (p 0), .int .u8 (p 1), .int .u8 (p 2), .int .u8 (p 3)] t (0, 0))
theorem Fou.cell {t : TypeId} {w : World} {b : Nat} {p : Nat → Int} (h : Fou t w b p) (j : Nat) (hj : j < 4) : w.cell? ⟨b, j, none⟩ = some (.int .u8 (p j)) := by
  obtain rfl | rfl | rfl | rfl : j = 0 ∨ j = 1 ∨ j = 2 ∨ j = 3 := by omega
  all_goals simp [World.cell?, show w.heap[b]? = _ from h]
theorem Fou.free {t : TypeId} {w : World} {b : Nat} {p : Nat → Int} (h : Fou t w b p) (j : Nat) : w.frozen? ⟨b, j, none⟩ = false := frozen_of_row w b j _ _ h
theorem Fou.lt {t : TypeId} {w : World} {b : Nat} {p : Nat → Int} (h : Fou t w b p) : b < w.heap.size := (Array.getElem?_eq_some_iff.1 h).1
theorem Fou.below {t : TypeId} {w w' : World} {b B : Nat} {p : Nat → Int} (h : Fou t w b p) (hb : Below B w w') (hB : b < B) : Fou t w' b p := (hb.block b hB).trans h
theorem Fou.on {t : TypeId} {w w' : World} {b : Nat} {p : Nat → Int} (h : Fou t w b p) (hb : Below w.heap.size w w') : Fou t w' b p := h.below hb h.lt
theorem Fou.new (w : World) (p : Nat → Int) (t : TypeId) : Fou t (w.alloc (.cells #[.int .u8 (p 0), .int .u8 (p 1), .int .u8 (p 2), .int .u8 (p 3)] t)) w.heap.size p := heap_alloc_new w _
theorem set4_below {B b : Nat} {w w0 : World} (h : Below B w w0) (hb : B ≤ b) (x0 x1 x2 x3 : Value) : Below B w ((((w0.setCell ⟨b, 0, none⟩ x0).setCell ⟨b, 1, none⟩ x1).setCell ⟨b, 2, none⟩ x2).setCell ⟨b, 3, none⟩ x3) :=
  (set3_below h hb x0 x1 x2).setCell (p := ⟨b, 3, none⟩) hb _

/-- A pixel, as a value. -/
def pix (p : Nat → Int) : Value := .agg #[.int .u8 (p 0), .int .u8 (p 1), .int .u8 (p 2), .int .u8 (p 3)]
/-- Narrow. -/
def narV (c : Nat → Int) (al : Int) (i : Nat) : Int := if clm 0 255 al = 0 then 0 else if i = 3 then clm 0 255 al else (gam c i + 128) / 257

theorem clamp_mn8 (s : Int) (ts : Array TypeId) (t : TypeId) (w : World) : (Builtin.min_ ts t #[.int .i64 s, .int .i64 255]).run Try.prog w = .ok (.int .i64 (if 255 < s then 255 else s)) w := run_min_int2 w ts t .i64 .i64 s 255

set_option maxRecDepth 100000 in
set_option maxHeartbeats 2000000 in
theorem narrow_any {c : Nat → Int} {al : Int} {w : World} :
    Calls Try.prog 41 #[col c, .int .i64 al] w fun e w' => e = .returned (pix (narV c al)) ∧ Below w.heap.size w w' := by
  obtain ⟨A, hA⟩ : ∃ A, clm 0 255 al = A := ⟨_, rfl⟩
  obtain ⟨M, hM⟩ : ∃ M, (if 255 < al then 255 else al) = M := ⟨_, rfl⟩
  have hmn : ∀ (ts : Array TypeId) (t : TypeId) (w : World), (Builtin.min_ ts t #[.int .i64 al, .int .i64 255]).run Try.prog w = .ok (.int .i64 M) w := fun ts t w => by rw [clamp_mn8, hM]
  have hmx : ∀ (ts : Array TypeId) (t : TypeId) (w : World), (Builtin.max_ ts t #[.int .i64 0, .int .i64 M]).run Try.prog w = .ok (.int .i64 A) w := fun ts t w => by
    rw [run_max_int2]
    congr 2
    rw [← hA, ← hM]
    unfold clm
    split <;> split <;> (try split) <;> omega
  obtain ⟨a0, a1⟩ : 0 ≤ A ∧ A ≤ 255 := by rw [← hA]; exact clm_bd (by omega) al
  have HN : Hid (∀ i, narV c al i = if A = 0 then 0 else if i = 3 then A else (gam c i + 128) / 257) := Lib.hid (fun i => by unfold narV; rw [hA])
  clear hA hM
  by_cases h : A = 0
  · unfold col pix
    subst h
    have e0 : narV c al 0 = 0 := (HN.out 0).trans (if_pos rfl)
    have e1 : narV c al 1 = 0 := (HN.out 1).trans (if_pos rfl)
    have e2 : narV c al 2 = 0 := (HN.out 2).trans (if_pos rfl)
    have e3 : narV c al 3 = 0 := (HN.out 3).trans (if_pos rfl)
    rw [e0, e1, e2, e3]
    clear e0 e1 e2 e3
    go_enter Try.func41, Try.ntmps41
    go_wp2
    refine bodyPost_ret (v := .agg #[.int .u8 0, .int .u8 0, .int .u8 0, .int .u8 0]) (by simp [results, Try.results41, go_sem]) rfl ?_
    exact ⟨rfl, ((Below.refl _ w).alloc (Nat.le_refl _) _).alloc (by simp) _⟩
  · have d0 : (A == 0) = false := by simp [h]
    have t1 := (Tri.new w c 28).alloc (.cells #[.int .u8 0, .int .u8 0, .int .u8 0, .int .u8 0] 33)
    have t2 := Fou.new (w.alloc (.cells #[.int .i64 (c 0), .int .i64 (c 1), .int .i64 (c 2)] 28)) (fun _ => 0) 33
    rw [World.size_alloc] at t2
    have hb0 := ((Below.refl w.heap.size w).alloc (Nat.le_refl _) (.cells #[.int .i64 (c 0), .int .i64 (c 1), .int .i64 (c 2)] 28)).alloc (by simp) (.cells #[.int .u8 0, .int .u8 0, .int .u8 0, .int .u8 0] 33)
    obtain ⟨w0, h0⟩ : ∃ w0, (w.alloc (.cells #[.int .i64 (c 0), .int .i64 (c 1), .int .i64 (c 2)] 28)).alloc (.cells #[.int .u8 0, .int .u8 0, .int .u8 0, .int .u8 0] 33) = w0 := ⟨_, rfl⟩
    rw [h0] at t1 t2 hb0
    have T2 := Lib.hid t2
    have c0 := t1.c0
    have c1 := t1.c1
    have c2 := t1.c2
    have e0 : narV c al 0 = (gam c 0 + 128) / 257 := (HN.out 0).trans (by rw [if_neg h, if_neg (by omega)])
    have e1 : narV c al 1 = (gam c 1 + 128) / 257 := (HN.out 1).trans (by rw [if_neg h, if_neg (by omega)])
    have e2 : narV c al 2 = (gam c 2 + 128) / 257 := (HN.out 2).trans (by rw [if_neg h, if_neg (by omega)])
    have e3 : narV c al 3 = A := (HN.out 3).trans (by rw [if_neg h, if_pos rfl])
    unfold col pix
    rw [e0, e1, e2, e3]
    have b0 : 0 ≤ gam c 0 ∧ gam c 0 ≤ 65535 := InG.of c 0 (by omega)
    have b1 : 0 ≤ gam c 1 ∧ gam c 1 ≤ 65535 := InG.of c 1 (by omega)
    have b2 : 0 ≤ gam c 2 ∧ gam c 2 ≤ 65535 := InG.of c 2 (by omega)
    have HI := Lib.hid (InG.of c)
    clear t1 t2 e0 e1 e2 e3 h
    go_enter Try.func41, Try.ntmps41
    go_wp2_with fail
    refine (gamut_any (c := c)).mono ?_
    unfold col
    rintro e w1 ⟨rfl, hb1⟩
    have T3 := Lib.hid (T2.out.on hb1)
    have hq := hb0.trans (hb1.mono hb0.size)
    clear h0 c0 c1 c2 hb1
    go_wp2_with fail
    refine (each_narrow (c := gam c) (r := fun i => (gam c i + 128) / 257) fun i hi W hbW => (narrow1_any (HI.out i hi).1 (HI.out i hi).2).mono fun e w' ⟨he, hd⟩ => ⟨he, hd.below _⟩).mono ?_
    unfold col
    rintro e w2 ⟨rfl, hb2⟩
    have T4 := Lib.hid (T3.out.on hb2)
    have hq2 := hq.trans (hb2.mono hq.size)
    obtain ⟨w3, h3⟩ : ∃ w3, w2.alloc (.cells #[.int .i64 ((gam c 0 + 128) / 257), .int .i64 ((gam c 1 + 128) / 257), .int .i64 ((gam c 2 + 128) / 257)] 28) = w3 := ⟨_, rfl⟩
    have t5 := Tri.new w2 (fun i => (gam c i + 128) / 257) 28
    have hb3 : Below w2.heap.size w2 w3 := by rw [← h3]; exact (Below.refl _ _).alloc (Nat.le_refl _) _
    simp only [h3] at t5
    have u0 := t5.c0
    have u1 := t5.c1
    have u2 := t5.c2
    have t4 := T4.out.on hb3
    have x0 := t4.cell 0 (by omega)
    have x1 := t4.cell 1 (by omega)
    have x2 := t4.cell 2 (by omega)
    have x3 := t4.cell 3 (by omega)
    have y0 := t4.free 0
    have y1 := t4.free 1
    have y2 := t4.free 2
    have y3 := t4.free 3
    have hq3 := hq2.trans (hb3.mono hq2.size)
    clear t4 t5 hb2 hb3
    go_wp2
    refine bodyPost_ret (v := .agg #[.int .u8 ((gam c 0 + 128) / 257), .int .u8 ((gam c 1 + 128) / 257), .int .u8 ((gam c 2 + 128) / 257), .int .u8 A]) (by simp [results, Try.results41, go_sem, *]) rfl ?_
    exact ⟨rfl, set4_below hq3 (by omega) _ _ _ _⟩

end Go.Proofs.Ytmilljlkcbljpaa

/- A whole array or struct, stored. -/
namespace Go.Proofs.Ytmilljlkcbljpaa
open Go.RowKit Go.Sort

theorem Exc.setRow {b : Nat} {w : World} (cs : Array Value) : Exc b w (w.setRow b cs) := ⟨⟨rfl, rfl, rfl⟩, by simp, fun k _ hk => setRow_other w b k cs hk⟩
theorem list_store {ops : Array Oper} {rest : List Oper} {o : Oper} {a : Act} {w : World} {Q : Exit → Act → World → Prop} (hgd : o.guard = none) (ty : TypeId) (x y : Operand) (ho : o.op = .store ty x y) {b : Nat} {cs old : Array Value} {t : TypeId}
    (hx : a.eval x = .pointer (some ⟨b, 0, none⟩)) (hy : a.eval y = .agg cs) (hg : w.heap[b]? = some (.cells old t (0, 0))) (hi : (Try.prog.info? ty).map (·.size) = some cs.size) (hold : old.size = cs.size) (h1 : cs.all (·.oneCell') = true)
    (h : ∀ w', w'.heap[b]? = some (.cells cs t (0, 0)) → Exc b w w' → wpList Try.prog ops Q rest (a.put o.dst undef) w') : wpList Try.prog ops Q (o :: rest) a w :=
  wpList_store_row hgd ty x y ho b cs hx hy t old hg hi hold h1 (h _ (setRow_heap w b old cs t _ hg) (Exc.setRow cs))

theorem sl_one {w : World} {B n : Nat} {v : Value} {f : Nat → Int} (h : Sl w B v n f) : v.oneCell' = true := by
  obtain ⟨a, cap, rfl⟩ := h.shape; rfl
theorem sp_one {w : World} {B : Nat} {v : Nat → Value} {n : Nat → Nat} {f : Nat → Nat → Int} (h : Crv w B v n f) (t m : Nat → Int) : (spA v t m).all (·.oneCell') = true := by
  obtain ⟨a0, c0, h0⟩ := (h 0 (by omega)).2.shape
  obtain ⟨a1, c1, h1⟩ := (h 1 (by omega)).2.shape
  obtain ⟨a2, c2, h2⟩ := (h 2 (by omega)).2.shape
  simp [spA, h0, h1, h2, Value.oneCell']

end Go.Proofs.Ytmilljlkcbljpaa

/- A region that draws its order: pure operations, then ones that act, in a forced order, keeping the class; then the rest. -/
namespace Go.Proofs.Ytmilljlkcbljpaa
open Go.RowKit Go.Sort
variable {P : Program} {ops : Array Oper} {md : Region.Mode} {C : World → Prop} {Q : Exit → Act → World → Prop}

def actW (P : Program) (ops : Array Oper) (C : World → Prop) (Q : Exit → Act → World → Prop) (K : Act → World → Prop) : List Oper → Act → World → Prop
  | [], a, w => K a w
  | o :: l, a, w => if Region.wanted o (yielded ops a.tmps) then o.wp P a w (fun a' w' => C w' ∧ actW P ops C Q K l a' w') Q else (C w ∧ actW P ops C Q K l (a.put o.dst undef) w)
theorem actW_nil {K : Act → World → Prop} {a : Act} {w : World} (h : K a w) : actW P ops C Q K [] a w := h
theorem actW_step {K : Act → World → Prop} {o : Oper} {l : List Oper} {a : Act} {w : World} (hw : Region.wanted o (yielded ops a.tmps) = true) (h : ∀ K' : Act → World → Prop, (∀ a w, C w → actW P ops C Q K l a w → K' a w) → o.wp P a w K' Q) : actW P ops C Q K (o :: l) a w := by
  unfold actW; rw [if_pos hw]; exact h _ fun _ _ h1 h2 => ⟨h1, h2⟩

def seqM (md : Region.Mode) (ops : Array Oper) : List Nat → Array Bool → Bool
  | [], _ => true
  | t :: tl, listed => decide (Region.ready md ops listed = [t]) && seqM md ops tl (listed.setIfInBounds t true)

theorem headW_act {tl : List Nat} {L : Array Bool → Act → World → Prop} : ∀ (ms : List Nat) (l : List Oper) (listed : Array Bool) (a : Act) (w : World), ms.map (fun i => ops[i]?) = l.map some → seqM md ops ms listed = true → (∀ i ∈ ms, i ∉ tl) →
    actW P ops C Q (fun a w => L (setL ms listed) a w) l a w → headW P md ops C Q tl L ms.length listed a w
  | [], [], _, _, _, _, _, _, h => h
  | [], _ :: _, _, _, _, hm, _, _, _ => by simp at hm
  | _ :: _, [], _, _, _, hm, _, _, _ => by simp at hm
  | m :: ms, o :: l, listed, a, w, hm, hs, hx, h => by
    simp only [List.map_cons, List.cons.injEq] at hm
    obtain ⟨h0, hm⟩ := hm
    simp only [seqM, Bool.and_eq_true, decide_eq_true_eq] at hs
    refine ⟨(fun h1 => by rw [hs.1] at h1; cases h1), fun i hi => ?_⟩
    rw [hs.1] at hi
    have hik : i = m := by simpa using hi
    subst hik
    refine ⟨hx i List.mem_cons_self, ?_⟩
    have ih := fun a' w' h' => headW_act (tl := tl) (L := L) ms l (listed.setIfInBounds i true) a' w' hm hs.2 (fun j hj => hx j (List.mem_cons_of_mem _ hj)) h'
    unfold actW at h
    unfold wpOp
    simp only [h0]
    split
    · rename_i hw
      rw [if_pos hw] at h
      exact .inl (Oper.wp_mono (fun a' w' h' => ⟨h'.1, ih a' w' h'.2⟩) h)
    · rename_i hw
      rw [if_neg hw] at h
      exact ⟨h.1, ih _ _ h.2⟩

def seqB' (md : Region.Mode) (ops : Array Oper) (listed : Array Bool) (ps ms : List Nat) (t : Nat) (tl : List Nat) : Bool :=
  Region.noSelect ops && sinkL md ops t (ps ++ ms) && chainL md ops t tl && closedL md ops listed && decide (listed.size = ops.size) &&
  ((List.range ops.size).all fun j => listed.getD j true || (ps ++ ms).contains j || (t :: tl).contains j) && ((t :: tl).all fun j => !listed.getD j true) && ((t :: tl).all fun j => !(ps ++ ms).contains j) &&
  freeL md ops ps listed && seqM md ops ms (setL ps listed) && seqL md ops (t :: tl) (setL ms (setL ps listed))

theorem any_seq {a : Act} {w : World} {listed : Array Bool} (ps ms : List Nat) (t : Nat) (tl : List Nat) (pso mso tlo : List Oper) (hp : ps.map (fun i => ops[i]?) = pso.map some) (hms : ms.map (fun i => ops[i]?) = mso.map some)
    (ht : (t :: tl).map (fun i => ops[i]?) = tlo.map some) (hB : seqB' md ops listed ps ms t tl = true) (hQ : ∀ c a d v w, Q (.panic c) (a.put d v) w → Q (.panic c) a w) (hC : C w)
    (h : pureW P ops C (fun a1 => ∀ w1, C w1 → actW P ops C Q (fun a w => wpList P ops Q tlo a w) mso a1 w1) pso a) : wpAny P md ops Q (ps.length + ms.length + (t :: tl).length) listed a w := by
  simp only [seqB', Bool.and_eq_true, decide_eq_true_eq] at hB
  obtain ⟨⟨⟨⟨⟨⟨⟨⟨⟨⟨hsel, hs⟩, hc⟩, hcl⟩, hsz⟩, hall⟩, htl⟩, hx⟩, hf⟩, hsm⟩, hsl⟩ := hB
  have hcl' : ∀ j oj, ops[j]? = some oj → listed.getD j false = true → ∀ e ∈ oj.after, Region.binds md e = true → listed.getD e.on false = true := fun j oj hj hl e he hb => by
    have h1 := List.all_eq_true.1 hcl j (List.mem_range.2 (Array.getElem?_eq_some_iff.1 hj).1)
    simp only [hl, Bool.not_true, Bool.false_or, hj] at h1
    have h2 := Array.all_eq_true_iff_forall_mem.1 h1 e he
    simpa [hb] using h2
  have inv0 : OrdInv md ops (ps ++ ms) (t :: tl) listed := ord_of hcl' hsz hall htl
  have hxx : ∀ i ∈ ps ++ ms, i ∉ t :: tl := fun i hi hi' => by
    have h1 := List.all_eq_true.1 hx i hi'
    simp only [Bool.not_eq_true', List.contains_eq_mem, decide_eq_false_iff_not] at h1
    exact h1 hi
  refine any_of_headW (L := fun listed' a' w' => seqL md ops (t :: tl) listed' = true ∧ wpList P ops Q tlo a' w') (C := C) (tl := t :: tl) (fun listed' a' w' hL => any_of_seqL (t :: tl) tlo listed' a' w' ht hL.1 hL.2) _ _ _ _ ?_
  refine headW_pure (hd := ps ++ ms) hsel hQ hs hc hxx (fun listed' a' w' hL => seqL_ready hL.1) _ (listed' := setL ps listed) (fun a1 w1 hC1 hK1 inv1 => ?_) ps pso listed a w hC hp (fun i hi => by simp [hi]) inv0 hf rfl h
  refine headW_act ms mso _ a1 w1 hms hsm (fun i hi => hxx i (by simp [hi])) ?_
  have hmono : ∀ (l : List Oper) (a : Act) (w : World), actW P ops C Q (fun a w => wpList P ops Q tlo a w) l a w → actW P ops C Q (fun a w => seqL md ops (t :: tl) (setL ms (setL ps listed)) = true ∧ wpList P ops Q tlo a w) l a w := by
    intro l
    induction l with
    | nil => intro a w h; exact ⟨hsl, h⟩
    | cons o l ih =>
      intro a w h
      unfold actW at h ⊢
      split
      · rename_i hw
        rw [if_pos hw] at h
        exact Oper.wp_mono (fun a' w' h' => ⟨h'.1, ih a' w' h'.2⟩) h
      · rename_i hw
        rw [if_neg hw] at h
        exact ⟨h.1, ih _ _ h.2⟩
  exact hmono _ _ _ (hK1 w1 hC1)

theorem region_seq {id : Nat} {a : Act} {w : World} {l : List Oper} (ps ms : List Nat) (t : Nat) (tl : List Nat) (hm : P.follows .mixedOrders = true) (hp : ps.map (fun i => l.toArray[i]?) = (selL l ps).map some) (hms : ms.map (fun i => l.toArray[i]?) = (selL l ms).map some)
    (ht : (t :: tl).map (fun i => l.toArray[i]?) = (selL l (t :: tl)).map some) (hB : seqB' .any l.toArray (Array.replicate l.toArray.size false) ps ms t tl = true) (hsz : ps.length + ms.length + (t :: tl).length = l.toArray.size) (hQ : ∀ c a d v w, Q (.panic c) (a.put d v) w → Q (.panic c) a w)
    (h : pureW P l.toArray (fun w' => Below w.heap.size w w') (fun a1 => ∀ w1, Below w.heap.size w w1 → actW P l.toArray (fun w' => Below w.heap.size w w') Q (fun a w => wpList P l.toArray Q (selL l (t :: tl)) a w) (selL l ms) a1 w1) (selL l ps) a) : (Code.region id l.toArray true).wp P Q a w := by
  refine wp_region_any hm ?_
  have := any_seq (C := fun w' => Below w.heap.size w w') (w := { w with drawn := w.drawn + 1 }) ps ms t tl _ _ _ hp hms ht hB hQ ⟨rfl, rfl, rfl, Nat.le_refl _, fun _ _ => rfl⟩ h
  rwa [hsz] at this

end Go.Proofs.Ytmilljlkcbljpaa

/- Device. -/
namespace Go.Proofs.Ytmilljlkcbljpaa
open Go.RowKit Go.Sort

/-- The straight line of two points. -/
def dvf (k : Nat) : Int := argV k 2
theorem dvf_vld : Vld 2 dvf := ⟨by omega, by omega, by decide, by decide, fun k hk => by obtain rfl : k = 0 := (by omega); decide⟩
theorem line2_any (w : World) : Calls Try.prog 77 #[.int .i64 2] w fun e w' => ∃ v, e = .returned v ∧ w'.ownsRow w.heap.size 3 1 v 2 (argVals 2) ∧ Below w.heap.size w w' := line_yes 2 w (by omega) (by omega)
theorem own_exc {w w' : World} {b base size n : Nat} {e : TypeId} {v : Value} {xs : List Value} (h : w.ownsRow base e size v n xs) (hx : Exc b w w') (hb : b < base) : w'.ownsRow base e size v n xs := by
  obtain ⟨h1, h2⟩ := h
  refine ⟨h1, ?_⟩
  rcases h2 with h2 | ⟨g, cap, cur, hv, hg, hh, r⟩
  · exact .inl h2
  · exact .inr ⟨g, cap, cur, hv, hg, (hx.2.2 g (Array.getElem?_eq_some_iff.1 hh).1 (by omega)).trans hh, r⟩
theorem sl_dvf {w : World} {base : Nat} {v : Value} (h : w.ownsRow base 3 1 v 2 (argVals 2)) : Sl w w.heap.size v 2 dvf := Sl.of_own h (fun k hk => by simp [argVals, hk, dvf]) (Nat.le_refl _)

/-- The matrix of one. -/
def idM (j : Nat) : Int := if j = 0 ∨ j = 4 ∨ j = 8 then 4096 else 0
theorem idM_ent : Ent idM := fun j _ => by unfold idM; split <;> omega
theorem idM_inv : Inv idM idM := fun i hi => by
  unfold nearV prdV
  obtain rfl | rfl | rfl | rfl | rfl | rfl | rfl | rfl | rfl : i = 0 ∨ i = 1 ∨ i = 2 ∨ i = 3 ∨ i = 4 ∨ i = 5 ∨ i = 6 ∨ i = 7 ∨ i = 8 := by omega
  all_goals decide
theorem device_val : SpV (fun _ => 2) (fun _ => dvf) idM idM := ⟨fun _ _ => dvf_vld, idM_ent, idM_ent, idM_inv⟩

/-- Some lines. -/
def Dvs (base : Nat) (w : World) (l : List Value) : Prop := ∀ v ∈ l, w.ownsRow base 3 1 v 2 (argVals 2)
theorem Dvs.nil (base : Nat) (w : World) : Dvs base w [] := fun _ h => by cases h
theorem Dvs.cons {base : Nat} {w w' : World} {l : List Value} {v : Value} (h : Dvs base w l) (hb : Below w.heap.size w w') (hv : w'.ownsRow w.heap.size 3 1 v 2 (argVals 2)) (hB : base ≤ w.heap.size) : Dvs base w' (v :: l) := fun u hu => by
  rcases List.mem_cons.1 hu with rfl | hu
  · exact own_le hv hB
  · exact own_below (h u hu) hb

theorem device_new (w : World) (t t' : TypeId) : ∃ w0, (w.alloc (.cells (spA (fun _ => .slice none 0 0) (fun _ => 0) (fun _ => 0)) t)).alloc (.cells #[.int .i64 (idM 0), .int .i64 (idM 1), .int .i64 (idM 2), .int .i64 (idM 3), .int .i64 (idM 4), .int .i64 (idM 5), .int .i64 (idM 6), .int .i64 (idM 7), .int .i64 (idM 8)] t') = w0 ∧
    Below w.heap.size w w0 ∧ w0.heap.size = w.heap.size + 2 ∧ Spb t w0 w.heap.size (fun _ => .slice none 0 0) (fun _ => 0) (fun _ => 0) ∧ Mat t' w0 (w.heap.size + 1) idM := by
  refine ⟨_, rfl, ((Below.refl _ w).alloc (Nat.le_refl _) _).alloc (by simp) _, by simp, (Spb.new w _ _ _ t).alloc _, ?_⟩
  have h := Mat.new (w.alloc (.cells (spA (fun _ => .slice none 0 0) (fun _ => 0) (fun _ => 0)) t)) idM t'
  rw [World.size_alloc] at h
  exact h

/-- Three values. -/
def v3 (x y z : Value) (i : Nat) : Value := if i = 0 then x else if i = 1 then y else z

set_option maxRecDepth 100000 in
set_option maxHeartbeats 4000000 in
theorem device_any (w : World) :
    Calls Try.prog 43 #[] w fun e w' => ∃ v : Nat → Value, e = .returned (spc v idM idM) ∧ Crv w' w'.heap.size v (fun _ => 2) (fun _ => dvf) ∧ Below w.heap.size w w' := by
  obtain ⟨w0, h0, hb0, hz, t1, t2⟩ := device_new w 63 61
  have T1 := Lib.hid t1
  have T2 := Lib.hid t2
  have Z := Lib.hid hz
  unfold spA idM at h0
  simp at h0
  clear t1 t2 hz
  go_enter Try.func43, Try.ntmps43
  go_wp2
  clear h0
  refine region_seq [4, 5] [0, 1, 2, 3, 6] 7 [] (by kernel_rfl) (by kernel_rfl) (by kernel_rfl) (by kernel_rfl) (by kernel_rfl) (by kernel_rfl) (fun _ _ d _ _ h => by cases d <;> exact h) ?_
  simp only [selL, List.filterMap_cons, List.filterMap_nil, List.getElem?_cons_zero, List.getElem?_cons_succ]
  refine pureW_step (.agg #[.int .i64 4096, .int .i64 0, .int .i64 0, .int .i64 0, .int .i64 4096, .int .i64 0, .int .i64 0, .int .i64 0, .int .i64 4096]) rfl (fun w' hw' => ?_) (fun K' hK' => ?_)
  · have hM := T2.out.on hw'
    have s0 := hM.cell 0 (by omega)
    have s1 := hM.cell 1 (by omega)
    have s2 := hM.cell 2 (by omega)
    have s3 := hM.cell 3 (by omega)
    have s4 := hM.cell 4 (by omega)
    have s5 := hM.cell 5 (by omega)
    have s6 := hM.cell 6 (by omega)
    have s7 := hM.cell 7 (by omega)
    have s8 := hM.cell 8 (by omega)
    simp [idM] at s0 s1 s2 s3 s4 s5 s6 s7 s8
    go_simp
  go_simp
  refine hK' _ ?_
  clear hK' K'
  refine pureW_step (.agg #[.int .i64 4096, .int .i64 0, .int .i64 0, .int .i64 0, .int .i64 4096, .int .i64 0, .int .i64 0, .int .i64 0, .int .i64 4096]) rfl (fun w' hw' => ?_) (fun K' hK' => ?_)
  · have hM := T2.out.on hw'
    have s0 := hM.cell 0 (by omega)
    have s1 := hM.cell 1 (by omega)
    have s2 := hM.cell 2 (by omega)
    have s3 := hM.cell 3 (by omega)
    have s4 := hM.cell 4 (by omega)
    have s5 := hM.cell 5 (by omega)
    have s6 := hM.cell 6 (by omega)
    have s7 := hM.cell 7 (by omega)
    have s8 := hM.cell 8 (by omega)
    simp [idM] at s0 s1 s2 s3 s4 s5 s6 s7 s8
    go_simp
  go_simp
  refine hK' _ ?_
  clear hK' K'
  refine pureW_nil ?_
  intro w1 hq
  have hA := Dvs.nil w0.heap.size w1
  refine actW_step rfl (fun K' hK' => ?_)
  go_simp
  refine (line2_any _).mono ?_
  rintro e W1 ⟨v1, rfl, hv, hb⟩
  obtain ⟨a1', cap1, rfl⟩ := own_pos hv (by omega)
  replace hA := hA.cons hb hv hq.size
  replace hq := hq.trans (hb.mono hq.size)
  refine hK' _ _ hq ?_
  clear hK' K' hb hv
  refine actW_step rfl (fun K' hK' => ?_)
  go_simp
  refine (line2_any _).mono ?_
  rintro e W2 ⟨v2, rfl, hv, hb⟩
  obtain ⟨a2', cap2, rfl⟩ := own_pos hv (by omega)
  replace hA := hA.cons hb hv hq.size
  replace hq := hq.trans (hb.mono hq.size)
  refine hK' _ _ hq ?_
  clear hK' K' hb hv
  refine actW_step rfl (fun K' hK' => ?_)
  go_simp
  refine (line2_any _).mono ?_
  rintro e W3 ⟨v3, rfl, hv, hb⟩
  obtain ⟨a3', cap3, rfl⟩ := own_pos hv (by omega)
  replace hA := hA.cons hb hv hq.size
  replace hq := hq.trans (hb.mono hq.size)
  refine hK' _ _ hq ?_
  clear hK' K' hb hv
  refine actW_step rfl (fun K' hK' => ?_)
  go_simp
  refine hK' _ _ hq ?_
  clear hK' K'
  refine actW_step rfl (fun K' hK' => ?_)
  go_simp
  refine hK' _ _ hq ?_
  clear hK' K'
  refine actW_nil ?_
  change wpList _ _ _ _ _ _
  have hS := T1.out.on hq
  obtain ⟨vs, hvs⟩ : ∃ vs, vs = v3 (.slice (some ⟨a1', 0, none⟩) 2 cap1) (.slice (some ⟨a2', 0, none⟩) 2 cap2) (.slice (some ⟨a3', 0, none⟩) 2 cap3) := ⟨_, rfl⟩
  have hO : ∀ i, i < 3 → W3.ownsRow w0.heap.size 3 1 (vs i) 2 (argVals 2) := fun i hi => by
    rw [hvs]
    obtain rfl | rfl | rfl : i = 0 ∨ i = 1 ∨ i = 2 := by omega
    · exact hA _ (.tail _ (.tail _ (.head _)))
    · exact hA _ (.tail _ (.head _))
    · exact hA _ (.head _)
  have hq' := hb0.trans (hq.mono hb0.size)
  have hsz := hS.lt
  have HS := Lib.hid hS
  have HO := Lib.hid hO
  have HV := Lib.hid hvs
  have hl0 := T1.out.lt
  clear hS hA hO hvs
  have H1 : Hid (Array.all (α := Value) #[.slice (some ⟨a1', 0, none⟩) 2 cap1, .slice (some ⟨a2', 0, none⟩) 2 cap2, .slice (some ⟨a3', 0, none⟩) 2 cap3, .int .i64 4096, .int .i64 0, .int .i64 0, .int .i64 0, .int .i64 4096, .int .i64 0, .int .i64 0, .int .i64 0, .int .i64 4096, .int .i64 4096, .int .i64 0, .int .i64 0, .int .i64 0, .int .i64 4096, .int .i64 0, .int .i64 0, .int .i64 0, .int .i64 4096] (·.oneCell') = true) := Lib.hid (by simp [Value.oneCell'])
  refine list_store (cs := #[.slice (some ⟨a1', 0, none⟩) 2 cap1, .slice (some ⟨a2', 0, none⟩) 2 cap2, .slice (some ⟨a3', 0, none⟩) 2 cap3, .int .i64 4096, .int .i64 0, .int .i64 0, .int .i64 0, .int .i64 4096, .int .i64 0, .int .i64 0, .int .i64 0, .int .i64 4096, .int .i64 4096, .int .i64 0, .int .i64 0, .int .i64 0, .int .i64 4096, .int .i64 0, .int .i64 0, .int .i64 0, .int .i64 4096]) rfl 63 (.tmp 0) (.tmp 9) (by rfl) (by rfl) (by rfl) HS.out info_space rfl H1.out ?_
  intro W4 h4 hx
  have h4' := Lib.hid h4
  clear h4
  go_wp2
  have hR : Hid (Spb 63 W4 w.heap.size vs idM idM) := Lib.hid (by rw [HV.out]; exact h4'.out)
  refine bodyPost_ret (v := spc vs idM idM) (results_cell_row rfl _ _ w.heap.size _ _ _ _ rfl hR.out Try.underlying63 rfl info_space) rfl ?_
  have hb4 := Exc.below hq' hx (Nat.le_refl _) hq'.size
  exact ⟨vs, rfl, fun i hi => ⟨show 2 ≤ 9223372036854775807 by omega, sl_dvf (own_exc (HO.out i hi) hx hl0)⟩, hb4⟩

end Go.Proofs.Ytmilljlkcbljpaa

/- The examples of the document's chapter on colours. -/
namespace Go.Proofs.Ytmilljlkcbljpaa
open Go.RowKit Go.Sort

/-- Three numbers. -/
def c3 (x y z : Int) (i : Nat) : Int := if i = 0 then x else if i = 1 then y else z

/-- The table of the identity. -/
def tbI (m k : Nat) : Nat → Int := gam (crd m k)
theorem tab_one (S : Nat → Sp) (m : Nat) : tabV S 1 m = tbI m := rfl

theorem look_lit (S : Nat → Sp) : col (lkV 2 (tabV S 1 2) (c3 1000 2000 3000)) = .agg #[.int .i64 1000, .int .i64 2000, .int .i64 3000] := by
  rw [tab_one]
  have h0 : lkV 2 (tbI 2) (c3 1000 2000 3000) 0 = 1000 := by decide +kernel
  have h1 : lkV 2 (tbI 2) (c3 1000 2000 3000) 1 = 2000 := by decide +kernel
  have h2 : lkV 2 (tbI 2) (c3 1000 2000 3000) 2 = 3000 := by decide +kernel
  unfold col
  rw [h0, h1, h2]
theorem clip_lit : col (clpV (c3 70000 0 0)) = .agg #[.int .i64 65535, .int .i64 2233, .int .i64 2233] := by
  have hn : ¬ InG (bnd (c3 70000 0 0)) := fun h => by
    have h1 := (h 0 (by omega)).2
    have h2 : bnd (c3 70000 0 0) 0 = 70000 := by decide +kernel
    omega
  have h0 : clpO (bnd (c3 70000 0 0)) 0 = 65535 := by decide +kernel
  have h1 : clpO (bnd (c3 70000 0 0)) 1 = 2233 := by decide +kernel
  have h2 : clpO (bnd (c3 70000 0 0)) 2 = 2233 := by decide +kernel
  unfold col
  rw [clpV_out hn, clpV_out hn, clpV_out hn, h0, h1, h2]
theorem narrow_lit : pix (narV (c3 65535 300 0) 255) = .agg #[.int .u8 255, .int .u8 1, .int .u8 0, .int .u8 255] := by
  have h0 : narV (c3 65535 300 0) 255 0 = 255 := by decide +kernel
  have h1 : narV (c3 65535 300 0) 255 1 = 1 := by decide +kernel
  have h2 : narV (c3 65535 300 0) 255 2 = 0 := by decide +kernel
  have h3 : narV (c3 65535 300 0) 255 3 = 255 := by decide +kernel
  unfold pix
  rw [h0, h1, h2, h3]

theorem spc_chn {w : World} {b cap : Nat} {s : Sp} {ty : TypeId} (h : Spb ty w b s.v s.t s.m) (hs : s.ok w w.heap.size) (hc : 1 ≤ cap) : Chn w w.heap.size (.slice (some ⟨b, 0, none⟩) 1 cap) 1 (fun _ => s) :=
  ⟨fun _ _ => hs, .inr ⟨b, 0, cap, rfl, ⟨h.lt, hc⟩, fun k hk j x hx => by
    obtain rfl : k = 0 := by omega
    rw [show 0 + 0 * 21 + j = j by omega, cell_of_row w b j _ _ _ h]
    exact hx⟩⟩

theorem tab_grid {S : Nat → Sp} {n m : Nat} (h : 2 ≤ m) (h' : m ≤ 17) : GrV m (m * m * m) (tabV S n m) := ⟨h, h', rfl, fun _ _ => InG.of _⟩
theorem eql_lit1 (w : World) : (binOp .eql 28 (.agg #[.int .i64 65535, .int .i64 2233, .int .i64 2233]) (.agg #[.int .i64 65535, .int .i64 2233, .int .i64 2233])).run Try.prog w = .ok (.bool true) w := by
  rw [run_eql_struct, equalIn_col]; rfl
theorem eql_lit2 (w : World) : (binOp .eql 28 (.agg #[.int .i64 1000, .int .i64 2000, .int .i64 3000]) (.agg #[.int .i64 1000, .int .i64 2000, .int .i64 3000])).run Try.prog w = .ok (.bool true) w := by
  rw [run_eql_struct, equalIn_col]; rfl
theorem eql_lit3 (w : World) : (binOp .eql 33 (.agg #[.int .u8 255, .int .u8 1, .int .u8 0, .int .u8 255]) (.agg #[.int .u8 255, .int .u8 1, .int .u8 0, .int .u8 255])).run Try.prog w = .ok (.bool true) w := by kernel_rfl

set_option maxRecDepth 100000 in
set_option maxHeartbeats 4000000 in
theorem sanity_any (w : World) : Calls Try.prog 12 #[] w fun e w' => e = .returned (.bool true) ∧ Below w.heap.size w w' := by
  go_enter Try.func12, Try.ntmps12
  go_wp2_with fail
  refine (device_any w).mono ?_
  rintro e w1 ⟨v, rfl, hv, hb1⟩
  have hsh0 := (hv 0 (by omega)).2.shape
  have hsh1 := (hv 1 (by omega)).2.shape
  have hsh2 := (hv 2 (by omega)).2.shape
  obtain ⟨S, hS⟩ : ∃ S : Sp, S = ⟨v, fun _ => 2, fun _ => dvf, idM, idM⟩ := ⟨_, rfl⟩
  obtain ⟨w2, h2⟩ : ∃ w2, w1.alloc (.cells (spA v idM idM) 63) = w2 := ⟨_, rfl⟩
  have hb2 : Below w1.heap.size w1 w2 := by rw [← h2]; exact (Below.refl _ _).alloc (Nat.le_refl _) _
  have hz2 : w1.heap.size ≤ w2.heap.size := hb2.size
  have hP : Spb 63 w2 w1.heap.size v idM idM := by rw [← h2]; exact Spb.new w1 v idM idM _
  have hok : S.ok w2 w2.heap.size := by rw [hS]; exact Crv.mono (Crv.below hv hb2 (Nat.le_refl _)) hz2
  have hch := Lib.hid (spc_chn (s := S) (cap := 1) (by rw [hS]; exact hP) hok (Nat.le_refl _))
  have hq2 := hb1.trans (hb2.mono hb1.size)
  have hval : S.val = true := by rw [hS]; exact spB_t device_val
  have kt := Lib.hid (table_yes (m := 2) (by omega) (Nat.le_refl _) hch.out (chkV_is (by omega) (by omega) (fun _ _ => hval)) (by omega) (by omega))
  obtain ⟨x0, y0, e0⟩ := hsh0
  obtain ⟨x1, y1, e1⟩ := hsh1
  obtain ⟨x2, y2, e2⟩ := hsh2
  unfold spA at h2
  unfold spc spA
  rw [e0, e1, e2] at h2 ⊢
  simp [idM] at h2 ⊢
  clear e0 e1 e2 hS hP hok hval hv
  go_wp2_with fail
  refine kt.out.mono ?_
  rintro e w3 ⟨x, rfl, hown, hb3⟩
  rw [show 2 * 2 * 2 = 8 from rfl] at hown
  rw [show ((2 : Nat) : Int) = 2 from rfl]
  have hq3 := hq2.trans (hb3.mono hq2.size)
  have hcl := Cls.of_own hown (Nat.le_refl _)
  obtain ⟨gb, cap, rfl⟩ := own_pos hown (by omega)
  obtain ⟨w4, h4⟩ : ∃ w4, w3.alloc (.cells #[.int .i64 2, .slice (some ⟨gb, 0, none⟩) 8 cap] 31) = w4 := ⟨_, rfl⟩
  have hb4 : Below w3.heap.size w3 w4 := by rw [← h4]; exact (Below.refl _ _).alloc (Nat.le_refl _) _
  have hw4 : Two 31 w4 w3.heap.size (.int .i64 2) (.slice (some ⟨gb, 0, none⟩) 8 cap) := by rw [← h4]; exact Two.new _ _ _ _
  have kl : Hid (Calls Try.prog 22 #[.agg #[.int .i64 2, .slice (some ⟨gb, 0, none⟩) 8 cap], .agg #[.int .i64 1000, .int .i64 2000, .int .i64 3000]] w4 fun e w' => e = .returned (.tuple #[.agg #[.int .i64 1000, .int .i64 2000, .int .i64 3000], .int .i64 0]) ∧ Below w4.heap.size w4 w') := Lib.hid (by
    have := Look_yes (N := 2) (n := 8) (c := c3 1000 2000 3000) (w := w4) (Nat.le_refl _) (hcl.on hb4) (tab_grid (by omega) (by omega))
    rw [look_lit] at this
    exact this)
  have g0 := hw4.c0
  have g1 := hw4.c1
  have hq4 := hq3.trans (hb4.mono hq3.size)
  clear hown hcl hw4 hb4 hb3 h2
  go_wp2_with fail
  refine kl.out.mono ?_
  rintro e w5 ⟨rfl, hb5⟩
  have hq5 := hq4.trans (hb5.mono hq4.size)
  obtain ⟨w6, h6⟩ : ∃ w6, w5.alloc (.cells #[.int .i64 1000, .int .i64 2000, .int .i64 3000] 28) = w6 := ⟨_, rfl⟩
  have hb6 : Below w5.heap.size w5 w6 := by rw [← h6]; exact (Below.refl _ _).alloc (Nat.le_refl _) _
  have t6 : Tri 28 w6 w5.heap.size (c3 1000 2000 3000) := by rw [← h6]; exact Tri.new w5 (c3 1000 2000 3000) _
  have T6 := Lib.hid t6
  have hq6 := hq5.trans (hb6.mono hq5.size)
  have l1 := eql_lit1
  have l2 := eql_lit2
  have l3 := eql_lit3
  have kc : Hid (∀ w, Calls Try.prog 25 #[.agg #[.int .i64 70000, .int .i64 0, .int .i64 0]] w fun e w' => e = .returned (.agg #[.int .i64 65535, .int .i64 2233, .int .i64 2233]) ∧ Below w.heap.size w w') := Lib.hid (fun w => by
    have := clip_any (c := c3 70000 0 0) (w := w)
    rw [clip_lit] at this
    exact this)
  have kn : Hid (∀ w, Calls Try.prog 41 #[.agg #[.int .i64 65535, .int .i64 300, .int .i64 0], .int .i64 255] w fun e w' => e = .returned (.agg #[.int .u8 255, .int .u8 1, .int .u8 0, .int .u8 255]) ∧ Below w.heap.size w w') := Lib.hid (fun w => by
    have := narrow_any (c := c3 65535 300 0) (al := 255) (w := w)
    rw [narrow_lit] at this
    exact this)
  clear t6 h4 g0 g1 hb5 hb6
  go_wp2_with fail
  refine (kc.out _).mono ?_
  rintro e w7 ⟨rfl, hb7⟩
  have hq7 := hq6.trans (hb7.mono hq6.size)
  have T7 := Lib.hid (T6.out.on hb7)
  clear h6 hb7
  go_wp2_with fail
  refine (kn.out _).mono ?_
  rintro e w8 ⟨rfl, hb8⟩
  have hq8 := hq7.trans (hb8.mono hq7.size)
  have t8 := T7.out.on hb8
  have x0 : w8.cell? ⟨w5.heap.size, 0, none⟩ = some (.int .i64 1000) := t8.c0
  have x1 : w8.cell? ⟨w5.heap.size, 1, none⟩ = some (.int .i64 2000) := t8.c1
  have x2 : w8.cell? ⟨w5.heap.size, 2, none⟩ = some (.int .i64 3000) := t8.c2
  clear t8 hb8
  go_wp2
  go_ret
  exact ⟨rfl, hq8⟩

end Go.Proofs.Ytmilljlkcbljpaa

/- Arguments that came in: arrays of integers. -/
namespace Go.Proofs.Ytmilljlkcbljpaa
open Go.ChangeShapes Go.WideShapes Go.ChangeAt Go.RowKit

/-- An integer's cell, read. -/
theorem int_of_trod {H : Type} {enc : TypeId × Value → H} {W : World} {fuel : Nat} {v : Value} {x : DataW H × List MemPlace} (hf : DataW.trod enc Try.prog W 0 (fun _ => true) true fuel 3 [v] = some x) :
    ∃ a : Int, v = .int .i64 a ∧ -9223372036854775808 ≤ a ∧ a ≤ 9223372036854775807 := by
  obtain ⟨a, e0, rfl, wa⟩ := DataW.trod_int Try.underlying3 hf
  simp at e0
  subst e0
  exact ⟨a, rfl, bounds_i64 wa⟩

theorem list3 {α : Type} (l : List α) (h : (⟨l⟩ : Array α).size = 3) : ∃ a b c, l = [a, b, c] := by
  match l, h with
  | [a, b, c], _ => exact ⟨a, b, c, rfl⟩
theorem list2 {α : Type} (l : List α) (h : (⟨l⟩ : Array α).size = 2) : ∃ a b, l = [a, b] := by
  match l, h with
  | [a, b], _ => exact ⟨a, b, rfl⟩

set_option maxRecDepth 100000 in
theorem open_col {H : Type} {enc : TypeId × Value → H} {W : World} {r : Reach} {base : Nat} {t : TypeId} {v : Value} {d : DataW H} {p : List MemPlace} (ht : Try.prog.underlying t = some (.array 3 3)) (hct : Try.prog.cellsOf t = 3)
    (hv : Value.okWide Try.prog W r base t v) (h : DataW.Trod enc Try.prog W 0 (fun _ => true) true t v d p) : ∃ c : Nat → Int, v = col c ∧ ∀ i, i < 3 → -9223372036854775808 ≤ c i ∧ c i ≤ 9223372036854775807 := by
  have hce : Try.prog.cellsOf 3 = 1 := by kernel_rfl
  obtain ⟨cs, rfl, hsz, _⟩ : ∃ cs, v = .agg cs ∧ cs.size = Try.prog.cellsOf t ∧ Row.okWide Try.prog W r base t cs := by
    simpa [Value.okWide, ht] using hv
  rw [hct] at hsz
  obtain ⟨l⟩ := cs
  obtain ⟨x0, x1, x2, rfl⟩ := list3 l hsz
  obtain ⟨fuel, hf⟩ := h
  obtain ⟨xs, m, rfl, _, _, hxs, hel⟩ := DataW.trod_array ht hf
  have key : ∀ j, j < 3 → ∃ a : Int, ([x0, x1, x2] : List Value)[j]? = some (.int .i64 a) ∧ -9223372036854775808 ≤ a ∧ a ≤ 9223372036854775807 := fun j hj => by
    have h0 := hel j hj
    rw [hce] at h0
    obtain ⟨y, hy⟩ : ∃ y, xs[j]? = some y := ⟨_, List.getElem?_eq_getElem (by omega)⟩
    rw [hy] at h0
    obtain rfl | rfl | rfl : j = 0 ∨ j = 1 ∨ j = 2 := by omega
    · obtain ⟨a, h1, h2⟩ := int_of_trod (by simpa [Value.cells] using h0); exact ⟨a, by simp [h1], h2⟩
    · obtain ⟨a, h1, h2⟩ := int_of_trod (by simpa [Value.cells] using h0); exact ⟨a, by simp [h1], h2⟩
    · obtain ⟨a, h1, h2⟩ := int_of_trod (by simpa [Value.cells] using h0); exact ⟨a, by simp [h1], h2⟩
  obtain ⟨a, ha, ha'⟩ := key 0 (by omega)
  obtain ⟨b, hb, hb'⟩ := key 1 (by omega)
  obtain ⟨c, hc, hc'⟩ := key 2 (by omega)
  simp at ha hb hc
  subst ha hb hc
  refine ⟨c3 a b c, rfl, fun i hi => ?_⟩
  obtain rfl | rfl | rfl : i = 0 ∨ i = 1 ∨ i = 2 := by omega
  · exact ha'
  · exact hb'
  · exact hc'

end Go.Proofs.Ytmilljlkcbljpaa

/- A slice of integers that came in. -/
namespace Go.Proofs.Ytmilljlkcbljpaa
open Go.ChangeShapes Go.WideShapes Go.ChangeAt Go.RowKit

/-- A slice that came in. -/
theorem sl_of_row {w : World} {a : Option Addr} {len cap : Nat} {zs : List Int}
    (h : (a = none ∧ len = 0 ∧ cap = 0 ∧ zs = []) ∨ ∃ x, a = some x ∧ len ≤ cap ∧ cap ≤ maxLen ∧ zs.length = cap ∧ (∀ i, i < zs.length → w.cell? (x.add i) = some (.int .i64 (zs.getD i 0))) ∧ ∀ n ∈ zs, (Lit.int .i64 n).wf = true) :
    len ≤ 9223372036854775807 ∧ Sl w w.heap.size (.slice a len cap) len (fun k => zs.getD k 0) := by
  rcases h with ⟨rfl, rfl, rfl, rfl⟩ | ⟨x, rfl, hl, hm, hz, hc, _⟩
  · exact ⟨by omega, .inl ⟨rfl, _, _, rfl, fun _ => rfl⟩⟩
  · unfold maxLen at hm
    refine ⟨by omega, ?_⟩
    by_cases h0 : len = 0
    · subst h0
      exact .inl ⟨rfl, _, _, rfl, fun h => by cases h⟩
    · obtain ⟨b, off, rfl, hc'⟩ := ints_at hc (by omega)
      refine .inr ⟨b, off, cap, rfl, ⟨?_, hl⟩, fun k hk => hc' k (by omega)⟩
      exact World.block_lt_of_cell? w _ (hc' 0 (by omega))

/-- A slice's cell, read. -/
theorem sl_of_trod {H : Type} {enc : TypeId × Value → H} {W : World} {t : TypeId} {fuel : Nat} {v : Value} {x : DataW H × List MemPlace} (ht : Try.prog.underlying t = some (.slice 3))
    (hf : DataW.trod enc Try.prog W 0 (fun _ => true) true fuel t [v] = some x) : ∃ n f, n ≤ 9223372036854775807 ∧ Sl W W.heap.size v n f := by
  rcases open_ints ht Try.underlying3 (by kernel_rfl) hf with ⟨hcs, _⟩ | ⟨x, l, c, zs, hcs, _, hl, hm, hz, _, hcell, hwz⟩
  · obtain rfl : v = .slice none 0 0 := by simpa using hcs
    obtain ⟨h1, h2⟩ := sl_of_row (w := W) (a := none) (len := 0) (cap := 0) (zs := []) (.inl ⟨rfl, rfl, rfl, rfl⟩)
    exact ⟨_, _, h1, h2⟩
  · obtain rfl : v = .slice (some x) l c := by simpa using hcs
    obtain ⟨h1, h2⟩ := sl_of_row (w := W) (a := some x) (len := l) (cap := c) (zs := zs) (.inr ⟨_, rfl, hl, hm, by simpa using hz, hcell, hwz⟩)
    exact ⟨_, _, h1, h2⟩

set_option maxRecDepth 100000 in
theorem open_sl {H : Type} {enc : TypeId × Value → H} {W : World} {r : Reach} {base : Nat} {t : TypeId} {v : Value} {d : DataW H} {p : List MemPlace} (ht : Try.prog.underlying t = some (.slice 3))
    (hv : Value.okWide Try.prog W r base t v) (h : DataW.Trod enc Try.prog W 0 (fun _ => true) true t v d p) : ∃ n f, n ≤ 9223372036854775807 ∧ Sl W W.heap.size v n f := by
  obtain ⟨a, len, cap, rfl⟩ := okWide_slice ht hv
  obtain ⟨fuel, hf⟩ := h
  exact sl_of_trod ht hf

end Go.Proofs.Ytmilljlkcbljpaa

/- The curve that the statements build of a list of integers: plain arithmetic. -/
namespace Go.Proofs.Ytmilljlkcbljpaa
open Go.RowKit

/-- 'x & (2^k - 1)' of an int. -/
theorem and_mask (k : Nat) (x : Int) (hk : k ≤ 62) : bits .and .i64 x (((2 ^ k - 1 : Nat) : Int)) = x % ((2 ^ k : Nat) : Int) := by
  have hp : 2 ^ k ≤ 2 ^ 62 := Nat.pow_le_pow_right (by omega) hk
  have h1 : 0 < 2 ^ k := Nat.pow_pos (by omega)
  have h2 : (BitVec.ofInt 64 (((2 ^ k - 1 : Nat) : Int))).toNat = 2 ^ k - 1 := by
    rw [BitVec.ofInt_natCast, BitVec.toNat_ofNat]; exact Nat.mod_eq_of_lt (by omega)
  show IntKind.i64.wrap ((BitVec.ofInt 64 x &&& BitVec.ofInt 64 (((2 ^ k - 1 : Nat) : Int))).toNat : Int) = _
  rw [BitVec.toNat_and, h2, Nat.and_two_pow_sub_one_eq_mod, BitVec.toNat_ofInt, IntKind.wrap_i64]
  have h3 : (x % ((2 ^ 64 : Nat) : Int)).toNat % 2 ^ k < 2 ^ k := Nat.mod_lt _ h1
  have h4 : (((x % ((2 ^ 64 : Nat) : Int)).toNat % 2 ^ k : Nat) : Int) = x % ((2 ^ k : Nat) : Int) := by
    rw [Int.natCast_emod, Int.toNat_of_nonneg (Int.emod_nonneg _ (by omega))]
    refine Int.emod_emod_of_dvd x ?_
    exact Int.natCast_dvd_natCast.2 (Nat.pow_dvd_pow 2 (by omega))
  rw [h4]
  have h5 := Int.emod_nonneg x (show ((2 ^ k : Nat) : Int) ≠ 0 by omega)
  have h6 := Int.emod_lt_of_pos x (show (0 : Int) < ((2 ^ k : Nat) : Int) by omega)
  omega
theorem and_ffff (x : Int) : bits .and .i64 x 65535 = x % 65536 := and_mask 16 x (by omega)
theorem and_7 (x : Int) : bits .and .i64 x 7 = x % 8 := and_mask 3 x (by omega)
theorem and_fff (x : Int) : bits .and .i64 x 4095 = x % 4096 := and_mask 12 x (by omega)
theorem and_1ffff (x : Int) : bits .and .i64 x 131071 = x % 131072 := and_mask 17 x (by omega)

/-- The sum of the first k increments. -/
def psum (g : Nat → Int) : Nat → Int
  | 0 => 0
  | k + 1 => psum g k + g k % 65536
theorem psum_bd (g : Nat → Int) : ∀ k, 0 ≤ psum g k ∧ psum g k ≤ 65535 * k
  | 0 => by simp [psum]
  | k + 1 => by
    have := psum_bd g k
    simp only [psum]
    omega
theorem psum_step (g : Nat → Int) (k : Nat) : psum g k ≤ psum g (k + 1) := by simp only [psum]; omega
theorem psum_le (g : Nat → Int) : ∀ (d k : Nat), psum g k ≤ psum g (k + d)
  | 0, _ => Int.le_refl _
  | d + 1, k => Int.le_trans (psum_le g d k) (psum_step g (k + d))

def tot (n : Nat) (g : Nat → Int) : Int := psum g (min n 256)
def lowV (n : Nat) (g : Nat → Int) : Int := if 2 < n ∧ g 0 % 8 = 3 then g 1 % 4096 else 0
def madeN (n : Nat) : Nat := if n = 0 then 2 else min n 256 + 1
def rawP (n : Nat) (g : Nat → Int) (k : Nat) : Int := if n = 0 then (if k = 0 then 0 else 65535) else psum g k
def madeV (n : Nat) (g : Nat → Int) (k : Nat) : Int := if 0 < tot n g then lowV n g + rawP n g k * (65535 - lowV n g) / tot n g else rawP n g k

theorem lowV_bd (n : Nat) (g : Nat → Int) : 0 ≤ lowV n g ∧ lowV n g ≤ 4095 := by unfold lowV; split <;> omega
theorem tot_bd (n : Nat) (g : Nat → Int) : 0 ≤ tot n g ∧ tot n g ≤ 16776960 := by
  have := psum_bd g (min n 256)
  unfold tot
  omega
theorem tot_zero (g : Nat → Int) : tot 0 g = 0 := by simp [tot, psum]
theorem rawP_pos {n : Nat} (h : n ≠ 0) (g : Nat → Int) (k : Nat) : rawP n g k = psum g k := if_neg h
theorem rawP_bd {n : Nat} (h : n ≠ 0) (g : Nat → Int) {k : Nat} (hk : k < madeN n) : 0 ≤ rawP n g k ∧ rawP n g k ≤ tot n g := by
  rw [rawP_pos h]
  unfold madeN at hk
  rw [if_neg h] at hk
  have := psum_le g (min n 256 - k) k
  rw [show k + (min n 256 - k) = min n 256 from by omega] at this
  exact ⟨(psum_bd g k).1, this⟩

theorem madeN_bd (n : Nat) : 2 ≤ madeN n ∧ madeN n ≤ 257 := by unfold madeN; split <;> omega

theorem made_vld (n : Nat) (g : Nat → Int) : Vld (madeN n) (madeV n g) := by
  obtain ⟨hN1, hN2⟩ := madeN_bd n
  obtain ⟨hl0, hl1⟩ := lowV_bd n g
  obtain ⟨ht0, ht1⟩ := tot_bd n g
  by_cases h : n = 0
  · subst h
    have e : ∀ k, madeV 0 g k = if k = 0 then 0 else 65535 := fun k => by unfold madeV; rw [tot_zero, if_neg (by omega)]; rfl
    refine ⟨hN1, hN2, by rw [e]; simp, by rw [e]; split <;> omega, fun k _ => ?_⟩
    rw [e, e]
    split <;> split <;> omega
  · by_cases ht : 0 < tot n g
    · have e : ∀ k, madeV n g k = lowV n g + rawP n g k * (65535 - lowV n g) / tot n g := fun k => if_pos ht
      have z : madeV n g 0 = lowV n g := by rw [e, rawP_pos h]; simp [psum]
      have t : madeV n g (madeN n - 1) = 65535 := by
        rw [e, rawP_pos h]
        have : psum g (madeN n - 1) = tot n g := by unfold madeN tot; rw [if_neg h]; rfl
        rw [this, Int.mul_ediv_cancel_left _ (by omega)]
        omega
      refine ⟨hN1, hN2, by omega, by omega, fun k _ => ?_⟩
      rw [e, e]
      have hs : rawP n g k ≤ rawP n g (k + 1) := by rw [rawP_pos h, rawP_pos h]; exact psum_step g k
      have hm := Int.mul_le_mul_of_nonneg_right hs (show (0 : Int) ≤ 65535 - lowV n g by omega)
      have hd := Int.ediv_le_ediv ht hm
      omega
    · have e : ∀ k, madeV n g k = rawP n g k := fun k => if_neg ht
      have z : ∀ k, k < madeN n → rawP n g k = 0 := fun k hk => by have := rawP_bd h g hk; omega
      refine ⟨hN1, hN2, by rw [e, z 0 (by omega)]; omega, by rw [e, z _ (by omega)]; omega, fun k hk => ?_⟩
      rw [e, e, z k (by omega), z (k + 1) hk]
      omega

end Go.Proofs.Ytmilljlkcbljpaa
