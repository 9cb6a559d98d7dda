/- What Solve returns, and its reference. -/
import Derived.Test.YtmilljlkcbljpaaM
import Derived.Test.YtmilljlkcbljpaaE
namespace Go.Proofs.Ytmilljlkcbljpaa
open Go.RowKit

theorem reach_stays {n : Nat} {f : Nat → Int} (h : Vld n f) (y : Int) : Stays (reach n f y) := by
  intro i j hij hj hi
  simp only [reach, decide_eq_true_eq] at hi ⊢
  exact Int.le_trans hi (atV_mono_nat h hij hj)

/-- What Solve finds. -/
noncomputable def slv (n : Nat) (f : Nat → Int) (y : Int) : Nat := fnd (reach n f y)

theorem solve_val {f : Nat → Int} {n B : Nat} {v : Value} {y : Int} {w : World} (hB : B ≤ w.heap.size) (hs : Sl w B v n f) (hv : Vld n f) (hy : y ≤ f (n - 1)) :
    Calls Try.prog 100 #[v, .int .i64 y] w fun e w' => e = .returned (.tuple #[.int .i64 (slv n f y : Nat), .bool true]) ∧ Below w.heap.size w w' :=
  (solve_yes hB hs hv hy).mono fun _ _ ⟨_, he, hr, hb⟩ => ⟨by rw [he, hr.eq (reach_stays hv y)]; rfl, hb⟩

set_option maxHeartbeats 1000000 in
theorem refSolve_no {f : Nat → Int} {n B : Nat} {v : Value} {y : Int} {w : World} (hn : n ≤ 9223372036854775807) (hB : B ≤ w.heap.size) (hs : Sl w B v n f) (hv : ¬ (Vld n f ∧ y ≤ f (n - 1))) :
    Calls Try.prog 101 #[v, .int .i64 y] w fun e w' => e = .returned (.agg #[.int .i64 0, .bool false]) ∧ Below w.heap.size w w' := by
  obtain ⟨w0, h0⟩ : ∃ w0, w.alloc (.cells #[.int .i64 0, .bool false] 107) = w0 := ⟨_, rfl⟩
  have hb : Below w.heap.size w w0 := by rw [← h0]; exact (Below.refl _ w).alloc (Nat.le_refl _) _
  have hs0 := hs.below hb hB
  by_cases hv1 : Vld n f
  · have V1 := vldB_t hv1
    have hy : f (n - 1) < y := by have := mt (And.intro hv1) hv; omega
    obtain ⟨b, off, cap, rfl, hbB, hc⟩ := hs.at (by have := hv1.1; omega)
    obtain ⟨m, rfl⟩ : ∃ m, n = m + 1 := ⟨n - 1, by have := hv1.1; omega⟩
    rw [Nat.add_sub_cancel] at hy
    have c1 := hc.below hb (by omega) m (by omega)
    have d1 : decide (f m < y) = true := by simpa using hy
    subst h0
    go_enter Try.func101, Try.ntmps101
    go_wp2_with fail
    refine (refValid_any hn hs0).mono ?_
    rintro e w1 ⟨rfl, q⟩
    obtain ⟨j, rfl⟩ := q
    rw [V1]
    go_wp2
    refine bodyPost_ret (v := .agg #[.int .i64 0, .bool false]) (by simp [results, Try.results101, go_sem]) rfl ?_
    exact ⟨rfl, ((below_drewN hb j).setCell (p := ⟨w.heap.size, 0, none⟩) (Nat.le_refl _) _).setCell (p := ⟨w.heap.size, 1, none⟩) (Nat.le_refl _) _⟩
  · have V1 := vldB_f hv1
    obtain ⟨a, cap, rfl⟩ := hs.shape
    subst h0
    go_enter Try.func101, Try.ntmps101
    go_wp2_with fail
    refine (refValid_any hn hs0).mono ?_
    rintro e w1 ⟨rfl, q⟩
    obtain ⟨j, rfl⟩ := q
    rw [V1]
    go_wp2
    refine bodyPost_ret (v := .agg #[.int .i64 0, .bool false]) (by simp [results, Try.results101, go_sem]) rfl ?_
    exact ⟨rfl, ((below_drewN hb j).setCell (p := ⟨w.heap.size, 0, none⟩) (Nat.le_refl _) _).setCell (p := ⟨w.heap.size, 1, none⟩) (Nat.le_refl _) _⟩

set_option maxHeartbeats 1000000 in
theorem refSolve_yes {f : Nat → Int} {n B : Nat} {v : Value} {y : Int} {w : World} (hB : B ≤ w.heap.size) (hs : Sl w B v n f) (hv : Vld n f) (hy : y ≤ f (n - 1)) :
    Calls Try.prog 101 #[v, .int .i64 y] w fun e w' => e = .returned (.agg #[.int .i64 (slv n f y : Nat), .bool true]) ∧ Below w.heap.size w w' := by
  have hn : n ≤ 9223372036854775807 := by have := hv.2.1; omega
  obtain ⟨w0, h0⟩ : ∃ w0, w.alloc (.cells #[.int .i64 0, .bool false] 107) = w0 := ⟨_, rfl⟩
  have hb : Below w.heap.size w w0 := by rw [← h0]; exact (Below.refl _ w).alloc (Nat.le_refl _) _
  have hs0 := hs.below hb hB
  have V1 := vldB_t hv
  obtain ⟨b, off, cap, rfl, hbB, hc⟩ := hs.at (by have := hv.1; omega)
  obtain ⟨m, rfl⟩ : ∃ m, n = m + 1 := ⟨n - 1, by have := hv.1; omega⟩
  rw [Nat.add_sub_cancel] at hy
  have c1 := hc.below hb (by omega) m (by omega)
  have d1 : decide (f m < y) = false := by simp; omega
  have H0 := Lib.hid h0
  subst h0
  go_enter Try.func101, Try.ntmps101
  go_wp2_with fail
  refine (refValid_any hn hs0).mono ?_
  rintro e w1 ⟨rfl, q⟩
  obtain ⟨j, rfl⟩ := q
  rw [V1]
  go_wp2
  go_loopw [6, 7] (fun i j' wr => ∃ a b : Nat, a ≤ b ∧ b ≤ 65535 ∧ i = .int .i64 a ∧ j' = .int .i64 b ∧ Hid (a = 0 ∨ reach (m + 1) f y (a - 1) = false) ∧ Hid (b = 65535 ∨ reach (m + 1) f y b = true) ∧ ∃ q : Nat, wr = (w.alloc (.cells #[.int .i64 0, .bool false] 107)).drewN q) (fun i j' _ => (intOf j' - intOf i).toNat)
  case atStart => exact ⟨0, 65535, by omega, by omega, rfl, rfl, Lib.hid (.inl rfl), Lib.hid (.inl rfl), j, rfl⟩
  case round =>
    obtain ⟨a, c, hac, hc', rfl, rfl, ha', hb', q, rfl⟩ := hrel
    by_cases hlt : a < c
    · obtain ⟨h, hh, h1, h2⟩ : ∃ h : Nat, Hid (((a : Int) + c) / 2 = (h : Int)) ∧ a ≤ h ∧ h < c := ⟨(a + c) / 2, Lib.hid (by omega), by omega, by omega⟩
      cases hp : reach (m + 1) f y h with
      | true =>
        have g1 : y ≤ atV f m h := by simpa [reach] using hp
        have g2 : decide (y ≤ atV f m h) = true := by simpa using g1
        have HP := Lib.hid hp
        clear hp
        go_wp2_with fail
        rw [hh.out]
        refine (value_any hv (hs0.drawnN q) (by omega) (by omega)).mono ?_
        rintro e w1 ⟨rfl, q1⟩
        obtain ⟨j1, rfl⟩ := q1
        go_wp2
        go_roundw
        case rel => exact ⟨a, h, h1, by omega, rfl, rfl, ha', Lib.hid (.inr HP.out), _, rfl⟩
        case measure => simp [intOf]; omega
      | false =>
        have g1 : ¬ y ≤ atV f m h := by simpa [reach] using hp
        have g2 : decide (y ≤ atV f m h) = false := by simpa using g1
        have HP := Lib.hid hp
        clear hp
        go_wp2_with fail
        rw [hh.out]
        refine (value_any hv (hs0.drawnN q) (by omega) (by omega)).mono ?_
        rintro e w1 ⟨rfl, q1⟩
        obtain ⟨j1, rfl⟩ := q1
        go_wp2
        go_roundw
        case rel => exact ⟨h + 1, c, by omega, by omega, by go_num, rfl, Lib.hid (.inr (by simpa using HP.out)), hb', _, rfl⟩
        case measure => simp [intOf]; omega
    · obtain rfl : a = c := by omega
      have E : a = slv (m + 1) f y := Found.eq ⟨hc', ha'.out, hb'.out⟩ (reach_stays hv y)
      have HE := Lib.hid E
      clear E
      go_wp2
      refine bodyPost_ret (v := .agg #[.int .i64 a, .bool true]) (by simp [results, Try.results101, go_sem]) rfl ?_
      refine ⟨by rw [← HE.out], ?_⟩
      exact ((below_drewN hb _).setCell (p := ⟨w.heap.size, 0, none⟩) (Nat.le_refl _) _).setCell (p := ⟨w.heap.size, 1, none⟩) (Nat.le_refl _) _

open Classical in
/-- Whether Solve finds a solution. -/
noncomputable def slvOk (n : Nat) (f : Nat → Int) (y : Int) : Bool := decide (Vld n f ∧ y ≤ f (n - 1))
theorem slvOk_t {n : Nat} {f : Nat → Int} {y : Int} (h : Vld n f ∧ y ≤ f (n - 1)) : slvOk n f y = true := by simp [slvOk, h]
theorem slvOk_f {n : Nat} {f : Nat → Int} {y : Int} (h : ¬ (Vld n f ∧ y ≤ f (n - 1))) : slvOk n f y = false := by classical exact decide_eq_false h
/-- The argument that Solve returns. -/
noncomputable def slvX (n : Nat) (f : Nat → Int) (y : Int) : Nat := bif slvOk n f y then slv n f y else 0

theorem solve_any {f : Nat → Int} {n B : Nat} {v : Value} {y : Int} {w : World} (hn : n ≤ 9223372036854775807) (hB : B ≤ w.heap.size) (hs : Sl w B v n f) :
    Calls Try.prog 100 #[v, .int .i64 y] w fun e w' => e = .returned (.tuple #[.int .i64 (slvX n f y : Nat), .bool (slvOk n f y)]) ∧ Below w.heap.size w w' := by
  by_cases h : Vld n f ∧ y ≤ f (n - 1)
  · rw [slvX, slvOk_t h]; exact solve_val hB hs h.1 h.2
  · rw [slvX, slvOk_f h]; exact solve_no hn hB hs h
theorem refSolve_any {f : Nat → Int} {n B : Nat} {v : Value} {y : Int} {w : World} (hn : n ≤ 9223372036854775807) (hB : B ≤ w.heap.size) (hs : Sl w B v n f) :
    Calls Try.prog 101 #[v, .int .i64 y] w fun e w' => e = .returned (.agg #[.int .i64 (slvX n f y : Nat), .bool (slvOk n f y)]) ∧ Below w.heap.size w w' := by
  by_cases h : Vld n f ∧ y ≤ f (n - 1)
  · rw [slvX, slvOk_t h]; exact refSolve_yes hB hs h.1 h.2
  · rw [slvX, slvOk_f h]; exact refSolve_no hn hB hs h

theorem first_ex (p : Nat → Bool) : ∀ k, p k = true → ∃ r, r ≤ k ∧ p r = true ∧ (r = 0 ∨ p (r - 1) = false)
  | 0, h => ⟨0, Nat.le_refl _, h, .inl rfl⟩
  | k + 1, h => by
    cases e : p k with
    | false => exact ⟨k + 1, Nat.le_refl _, h, .inr (by simpa using e)⟩
    | true =>
      obtain ⟨r, h1, h2, h3⟩ := first_ex p k e
      exact ⟨r, by omega, h2, h3⟩

theorem found_ex (p : Nat → Bool) : ∃ r, Found p r := by
  cases e : p 65535 with
  | true =>
    obtain ⟨r, h1, h2, h3⟩ := first_ex p 65535 e
    exact ⟨r, h1, h3, .inr h2⟩
  | false =>
    cases e' : p 65534 with
    | false => exact ⟨65535, by omega, .inr e', .inl rfl⟩
    | true =>
      obtain ⟨r, h1, h2, h3⟩ := first_ex p 65534 e'
      exact ⟨r, by omega, h3, .inr h2⟩

/-- What the solution is. -/
theorem slv_is {n : Nat} {f : Nat → Int} {y : Int} (h : Vld n f) (hy : y ≤ f (n - 1)) :
    slv n f y ≤ 65535 ∧ y ≤ atV f (n - 1) (slv n f y : Nat) ∧ ∀ k : Nat, k < slv n f y → atV f (n - 1) k < y := by
  have hm := reach_stays h y
  have hf : Found (reach n f y) (slv n f y) := Classical.epsilon_spec (p := Found (reach n f y)) (found_ex _)
  obtain ⟨h1, h2, h3⟩ := hf.all hm
  refine ⟨h1, ?_, fun k hk => ?_⟩
  · rcases hf.2.2 with e | e
    · rw [e, show ((65535 : Nat) : Int) = 65535 from rfl, atV_top]; exact hy
    · simpa [reach] using e
  · have := h2 k hk
    simp [reach] at this
    omega

end Go.Proofs.Ytmilljlkcbljpaa
