/- The comparison of numbers of 256 bits. -/
import Derived.Test.YtphcianmgpbjmaaH
namespace Go.Proofs.Ytphcianmgpbjmaa
open Go.RowKit

/-- Whether four words are less than four others. -/
def lessW (l m : Nat → Nat) : Bool := if l 3 ≠ m 3 then decide (l 3 < m 3) else if l 2 ≠ m 2 then decide (l 2 < m 2) else if l 1 ≠ m 1 then decide (l 1 < m 1) else decide (l 0 < m 0)
theorem lessW_at {l m : Nat → Nat} {k : Nat} (hk : k < 4) (he : ∀ q : Nat, k < q → q < 4 → l q = m q) (hne : l k ≠ m k) : lessW l m = decide (l k < m k) := by
  unfold lessW
  rcases k with _ | _ | _ | _ | k
  · simp [he 1 (by omega) (by omega), he 2 (by omega) (by omega), he 3 (by omega) (by omega)]
  · simp [he 2 (by omega) (by omega), he 3 (by omega) (by omega), show l 1 ≠ m 1 from hne]
  · simp [he 3 (by omega) (by omega), show l 2 ≠ m 2 from hne]
  · simp [show l 3 ≠ m 3 from hne]
  · omega
theorem lessW_no {l m : Nat → Nat} (he : ∀ q : Nat, q < 4 → l q = m q) : lessW l m = false := by
  unfold lessW
  simp [he 0 (by omega), he 1 (by omega), he 2 (by omega), he 3 (by omega)]
theorem lessW_dig {U V : Nat} (hU : U < 18446744073709551616 ^ 4) (hV : V < 18446744073709551616 ^ 4) : lessW (dig U) (dig V) = decide (U < V) := by
  by_cases h3 : dig U 3 = dig V 3
  · by_cases h2 : dig U 2 = dig V 2
    · by_cases h1 : dig U 1 = dig V 1
      · by_cases h0 : dig U 0 = dig V 0
        · have hq : ∀ j, j < 4 → dig U j = dig V j := fun j hj => by
            rcases j with _ | _ | _ | _ | j
            · exact h0
            · exact h1
            · exact h2
            · exact h3
            · omega
          have := dig_eq hq hU hV
          subst this
          rw [lessW_no fun _ _ => rfl]
          simp
        · have hq : ∀ q : Nat, 0 < q → q < 4 → dig U q = dig V q := fun q a b => by
            obtain rfl | rfl | rfl : q = 1 ∨ q = 2 ∨ q = 3 := by omega
            · exact h1
            · exact h2
            · exact h3
          rw [lessW_at (by omega) hq h0]
          exact decide_eq_decide.2 (dig_cmp 0 hq hU hV (by omega) h0)
      · have hq : ∀ q : Nat, 1 < q → q < 4 → dig U q = dig V q := fun q a b => by
          obtain rfl | rfl : q = 2 ∨ q = 3 := by omega
          · exact h2
          · exact h3
        rw [lessW_at (by omega) hq h1]
        exact decide_eq_decide.2 (dig_cmp 1 hq hU hV (by omega) h1)
    · have hq : ∀ q : Nat, 2 < q → q < 4 → dig U q = dig V q := fun q a b => by
        obtain rfl : q = 3 := by omega
        exact h3
      rw [lessW_at (by omega) hq h2]
      exact decide_eq_decide.2 (dig_cmp 2 hq hU hV (by omega) h2)
  · have hq : ∀ q : Nat, 3 < q → q < 4 → dig U q = dig V q := fun q a b => by omega
    rw [lessW_at (by omega) hq h3]
    exact decide_eq_decide.2 (dig_cmp 3 hq hU hV (by omega) h3)

/-- The two boxes of less. -/
theorem less_new (w : World) (l m : Nat → Nat) : ∃ w0, (w.alloc (.cells #[.int .u64 (l 0 : Nat), .int .u64 (l 1 : Nat), .int .u64 (l 2 : Nat), .int .u64 (l 3 : Nat)] 64)).alloc (.cells #[.int .u64 (m 0 : Nat), .int .u64 (m 1 : Nat), .int .u64 (m 2 : Nat), .int .u64 (m 3 : Nat)] 64) = w0 ∧
    Four w0 w.heap.size l ∧ Four w0 (w.heap.size + 1) m ∧ Below w.heap.size w w0 := by
  refine ⟨_, rfl, ?_, ?_, ((Below.refl _ w).alloc (Nat.le_refl _) _).alloc (by simp) _⟩
  · exact (Below.heap_alloc _ _ _ (by simp)).trans (heap_alloc_new w _)
  · have := heap_alloc_new (w.alloc (.cells #[.int .u64 (l 0 : Nat), .int .u64 (l 1 : Nat), .int .u64 (l 2 : Nat), .int .u64 (l 3 : Nat)] 64)) (.cells #[.int .u64 (m 0 : Nat), .int .u64 (m 1 : Nat), .int .u64 (m 2 : Nat), .int .u64 (m 3 : Nat)] 64)
    rwa [World.size_alloc] at this
theorem Four.drawn {w w' : World} {b : Nat} {l : Nat → Nat} (h : Four w b l) (hd : Drawn w w') : Four w' b l := by obtain ⟨n, rfl⟩ := hd; exact h

set_option maxHeartbeats 2000000 in
theorem less_any (l m : Nat → Nat) (w : World) :
    Calls Try.prog 47 #[.agg #[.int .u64 (l 0 : Nat), .int .u64 (l 1 : Nat), .int .u64 (l 2 : Nat), .int .u64 (l 3 : Nat)], .agg #[.int .u64 (m 0 : Nat), .int .u64 (m 1 : Nat), .int .u64 (m 2 : Nat), .int .u64 (m 3 : Nat)]] w fun e w' =>
      e = .returned (.bool (lessW l m)) ∧ Below w.heap.size w w' := by
  obtain ⟨w0, h0, hL0, hM0, hB⟩ := less_new w l m
  have HA := Lib.hid (fun k hk he hne => lessW_at (l := l) (m := m) (k := k) hk he hne)
  have HN := Lib.hid (fun he => lessW_no (l := l) (m := m) he)
  go_enter Try.func47, Try.ntmps47
  go_wp2
  go_loopw [5] (fun i wr => ∃ j : Int, -1 ≤ j ∧ j ≤ 3 ∧ i = .int .i64 j ∧ Hid (∀ q : Nat, j < q → q < 4 → l q = m q) ∧ Drawn w0 wr) (fun i _ => (intOf i + 1).toNat)
  case atStart => exact ⟨3, by omega, by omega, rfl, Lib.hid (fun q a b => by omega), .refl _⟩
  case round =>
    obtain ⟨j, hj1, hj2, rfl, he, hq⟩ := hrel
    have hL := hL0.drawn hq
    have hM := hM0.drawn hq
    obtain rfl | rfl | rfl | rfl | rfl : j = 3 ∨ j = 2 ∨ j = 1 ∨ j = 0 ∨ j = -1 := by omega
    · have c1 := hL.c3
      have c2 := hM.c3
      by_cases e : l 3 = m 3
      · have E := Lib.hid e
        have d1 : (((l 3 : Nat) : Int) != ((m 3 : Nat) : Int)) = false := by simp [e]
        clear e
        go_wp2
        go_quiet (fail)
        go_wp2
        go_roundw
        case rel => exact ⟨2, by omega, by omega, rfl, Lib.hid (fun q a b => by
          by_cases h : q = 3
          · subst h; exact E.out
          · exact he.out q (by omega) b), hq.on _⟩
        case measure => simp [intOf]
      · have d1 : (((l 3 : Nat) : Int) != ((m 3 : Nat) : Int)) = true := by simp; omega
        have E := Lib.hid (HA.out 3 (by omega) (fun q a b => he.out q (by omega) b) e)
        clear e
        cases d2 : decide (l 3 < m 3) with
        | true =>
          go_wp2
          go_quiet (fail)
          go_wp2
          go_quiet (fail)
          go_wp2
          go_ret
          exact ⟨ret_bool (by rw [E.out]; simp_all), hB.trans (((hq.trans (.of _)).on _).below _)⟩
        | false =>
          go_wp2
          go_quiet (fail)
          go_wp2
          go_quiet (fail)
          go_wp2
          go_ret
          exact ⟨ret_bool (by rw [E.out]; simp_all), hB.trans (((hq.trans (.of _)).on _).below _)⟩
    · have c1 := hL.c2
      have c2 := hM.c2
      by_cases e : l 2 = m 2
      · have E := Lib.hid e
        have d1 : (((l 2 : Nat) : Int) != ((m 2 : Nat) : Int)) = false := by simp [e]
        clear e
        go_wp2
        go_quiet (fail)
        go_wp2
        go_roundw
        case rel => exact ⟨1, by omega, by omega, rfl, Lib.hid (fun q a b => by
          by_cases h : q = 2
          · subst h; exact E.out
          · exact he.out q (by omega) b), hq.on _⟩
        case measure => simp [intOf]
      · have d1 : (((l 2 : Nat) : Int) != ((m 2 : Nat) : Int)) = true := by simp; omega
        have E := Lib.hid (HA.out 2 (by omega) (fun q a b => he.out q (by omega) b) e)
        clear e
        cases d2 : decide (l 2 < m 2) with
        | true =>
          go_wp2
          go_quiet (fail)
          go_wp2
          go_quiet (fail)
          go_wp2
          go_ret
          exact ⟨ret_bool (by rw [E.out]; simp_all), hB.trans (((hq.trans (.of _)).on _).below _)⟩
        | false =>
          go_wp2
          go_quiet (fail)
          go_wp2
          go_quiet (fail)
          go_wp2
          go_ret
          exact ⟨ret_bool (by rw [E.out]; simp_all), hB.trans (((hq.trans (.of _)).on _).below _)⟩
    · have c1 := hL.c1
      have c2 := hM.c1
      by_cases e : l 1 = m 1
      · have E := Lib.hid e
        have d1 : (((l 1 : Nat) : Int) != ((m 1 : Nat) : Int)) = false := by simp [e]
        clear e
        go_wp2
        go_quiet (fail)
        go_wp2
        go_roundw
        case rel => exact ⟨0, by omega, by omega, rfl, Lib.hid (fun q a b => by
          by_cases h : q = 1
          · subst h; exact E.out
          · exact he.out q (by omega) b), hq.on _⟩
        case measure => simp [intOf]
      · have d1 : (((l 1 : Nat) : Int) != ((m 1 : Nat) : Int)) = true := by simp; omega
        have E := Lib.hid (HA.out 1 (by omega) (fun q a b => he.out q (by omega) b) e)
        clear e
        cases d2 : decide (l 1 < m 1) with
        | true =>
          go_wp2
          go_quiet (fail)
          go_wp2
          go_quiet (fail)
          go_wp2
          go_ret
          exact ⟨ret_bool (by rw [E.out]; simp_all), hB.trans (((hq.trans (.of _)).on _).below _)⟩
        | false =>
          go_wp2
          go_quiet (fail)
          go_wp2
          go_quiet (fail)
          go_wp2
          go_ret
          exact ⟨ret_bool (by rw [E.out]; simp_all), hB.trans (((hq.trans (.of _)).on _).below _)⟩
    · have c1 := hL.c0
      have c2 := hM.c0
      by_cases e : l 0 = m 0
      · have E := Lib.hid e
        have d1 : (((l 0 : Nat) : Int) != ((m 0 : Nat) : Int)) = false := by simp [e]
        clear e
        go_wp2
        go_quiet (fail)
        go_wp2
        go_roundw
        case rel => exact ⟨-1, by omega, by omega, rfl, Lib.hid (fun q a b => by
          by_cases h : q = 0
          · subst h; exact E.out
          · exact he.out q (by omega) b), hq.on _⟩
        case measure => simp [intOf]
      · have d1 : (((l 0 : Nat) : Int) != ((m 0 : Nat) : Int)) = true := by simp; omega
        have E := Lib.hid (HA.out 0 (by omega) (fun q a b => he.out q (by omega) b) e)
        clear e
        cases d2 : decide (l 0 < m 0) with
        | true =>
          go_wp2
          go_quiet (fail)
          go_wp2
          go_quiet (fail)
          go_wp2
          go_ret
          exact ⟨ret_bool (by rw [E.out]; simp_all), hB.trans (((hq.trans (.of _)).on _).below _)⟩
        | false =>
          go_wp2
          go_quiet (fail)
          go_wp2
          go_quiet (fail)
          go_wp2
          go_ret
          exact ⟨ret_bool (by rw [E.out]; simp_all), hB.trans (((hq.trans (.of _)).on _).below _)⟩
    · go_wp2
      go_ret
      exact ⟨ret_bool (HN.out fun q hq' => he.out q (by omega) hq').symm, hB.trans (hq.below _)⟩

end Go.Proofs.Ytphcianmgpbjmaa
