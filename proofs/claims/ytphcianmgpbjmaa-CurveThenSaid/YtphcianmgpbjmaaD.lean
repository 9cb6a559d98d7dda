/- At and Same of package curve and of its reference: what each call returns. -/
import Derived.Test.YtphcianmgpbjmaaC
namespace Go.Proofs.Ytphcianmgpbjmaa
open Go.RowKit

/-- x, clamped to 0 to 65535. -/
def clp (x : Int) : Int := if x < 0 then 0 else if 65535 < x then 65535 else x
theorem clp_lo {x : Int} (h : x < 0) : clp x = 0 := if_pos h
theorem clp_hi {x : Int} (h : 65535 < x) : clp x = 65535 := by unfold clp; rw [if_neg (by omega), if_pos h]
theorem clp_in {x : Int} (h : 0 ≤ x) (h' : x ≤ 65535) : clp x = x := by unfold clp; rw [if_neg (by omega), if_neg (by omega)]
theorem clp_bd (x : Int) : 0 ≤ clp x ∧ clp x ≤ 65535 := by unfold clp; omega

open Classical in
/-- What At returns. -/
noncomputable def AtV (n : Nat) (f : Nat → Int) (x : Int) : Int := if Vld n f then atV f (n - 1) (clp x) else 0
theorem AtV_yes {n : Nat} {f : Nat → Int} {x : Int} (h : Vld n f) : AtV n f x = atV f (n - 1) (clp x) := if_pos h
theorem AtV_no {n : Nat} {f : Nat → Int} {x : Int} (h : ¬ Vld n f) : AtV n f x = 0 := if_neg h

set_option maxHeartbeats 400000 in
theorem At_yes {f : Nat → Int} {n B : Nat} {v : Value} {x : Int} {w : World} (hs : Sl w B v n f) (hv : Vld n f) :
    Calls Try.prog 20 #[v, .int .i64 x] w fun e w' => e = .returned (.int .i64 (atV f (n - 1) (clp x))) ∧ Drawn w w' := by
  have hn : n ≤ 9223372036854775807 := by have := hv.2.1; omega
  have V1 := vldB_t hv
  by_cases h1 : x < 0
  · have E := Lib.hid (clp_lo h1)
    go_enter Try.func20, Try.ntmps20
    go_wp2_with (first | (go_at_call 18; refine (valid_any hn hs).mono ?_; rintro e w1 ⟨rfl, hd⟩) | (go_at_call 39; refine (at_any hv (hs.drawn hd) (by omega) (by omega)).mono ?_; rintro e w2 ⟨rfl, hd2⟩))
    go_ret
    exact ⟨ret_int (by rw [E.out]), hd.trans hd2⟩
  · by_cases h2 : 65535 < x
    · have E := Lib.hid (clp_hi h2)
      go_enter Try.func20, Try.ntmps20
      go_wp2_with (first | (go_at_call 18; refine (valid_any hn hs).mono ?_; rintro e w1 ⟨rfl, hd⟩) | (go_at_call 39; refine (at_any hv (hs.drawn hd) (by omega) (by omega)).mono ?_; rintro e w2 ⟨rfl, hd2⟩))
      go_ret
      exact ⟨ret_int (by rw [E.out]), hd.trans hd2⟩
    · have E := Lib.hid (clp_in (x := x) (by omega) (by omega))
      go_enter Try.func20, Try.ntmps20
      go_wp2_with (first | (go_at_call 18; refine (valid_any hn hs).mono ?_; rintro e w1 ⟨rfl, hd⟩) | (go_at_call 39; refine (at_any hv (hs.drawn hd) (by omega) (by omega)).mono ?_; rintro e w2 ⟨rfl, hd2⟩))
      go_ret
      exact ⟨ret_int (by rw [E.out]), hd.trans hd2⟩

set_option maxHeartbeats 400000 in
theorem At_no {f : Nat → Int} {n B : Nat} {v : Value} {x : Int} {w : World} (hn : n ≤ 9223372036854775807) (hs : Sl w B v n f) (hv : ¬ Vld n f) :
    Calls Try.prog 20 #[v, .int .i64 x] w fun e w' => e = .returned (.int .i64 0) ∧ Drawn w w' := by
  have V1 := vldB_f hv
  go_enter Try.func20, Try.ntmps20
  go_wp2_with (first | (go_at_call 18; refine (valid_any hn hs).mono ?_; rintro e w1 ⟨rfl, hd⟩))
  go_ret
  exact ⟨rfl, hd⟩

theorem At_any {f : Nat → Int} {n B : Nat} {v : Value} {x : Int} {w : World} (hn : n ≤ 9223372036854775807) (hs : Sl w B v n f) :
    Calls Try.prog 20 #[v, .int .i64 x] w fun e w' => e = .returned (.int .i64 (AtV n f x)) ∧ Drawn w w' := by
  by_cases hv : Vld n f
  · rw [AtV_yes hv]; exact At_yes hs hv
  · rw [AtV_no hv]; exact At_no hn hs hv

set_option maxHeartbeats 400000 in
theorem refAt_yes {f : Nat → Int} {n B : Nat} {v : Value} {x : Int} {w : World} (hs : Sl w B v n f) (hv : Vld n f) :
    Calls Try.prog 21 #[v, .int .i64 x] w fun e w' => e = .returned (.int .i64 (atV f (n - 1) (clp x))) ∧ Drawn w w' := by
  have hn : n ≤ 9223372036854775807 := by have := hv.2.1; omega
  have V1 := vldB_t hv
  by_cases h1 : x < 0
  · have E := Lib.hid (clp_lo h1)
    go_enter Try.func21, Try.ntmps21
    go_wp2_with (first | (go_at_call 19; refine (refValid_any hn hs).mono ?_; rintro e w1 ⟨rfl, hd⟩) | (go_at_call 40; refine (value_any hv (hs.drawn hd) (by omega) (by omega)).mono ?_; rintro e w2 ⟨rfl, hd2⟩))
    go_ret
    exact ⟨ret_int (by rw [E.out]), hd.trans hd2⟩
  · by_cases h2 : 65535 < x
    · have E := Lib.hid (clp_hi h2)
      go_enter Try.func21, Try.ntmps21
      go_wp2_with (first | (go_at_call 19; refine (refValid_any hn hs).mono ?_; rintro e w1 ⟨rfl, hd⟩) | (go_at_call 40; refine (value_any hv (hs.drawn hd) (by omega) (by omega)).mono ?_; rintro e w2 ⟨rfl, hd2⟩))
      go_ret
      exact ⟨ret_int (by rw [E.out]), hd.trans hd2⟩
    · have E := Lib.hid (clp_in (x := x) (by omega) (by omega))
      go_enter Try.func21, Try.ntmps21
      go_wp2_with (first | (go_at_call 19; refine (refValid_any hn hs).mono ?_; rintro e w1 ⟨rfl, hd⟩) | (go_at_call 40; refine (value_any hv (hs.drawn hd) (by omega) (by omega)).mono ?_; rintro e w2 ⟨rfl, hd2⟩))
      go_ret
      exact ⟨ret_int (by rw [E.out]), hd.trans hd2⟩

set_option maxHeartbeats 400000 in
theorem refAt_no {f : Nat → Int} {n B : Nat} {v : Value} {x : Int} {w : World} (hn : n ≤ 9223372036854775807) (hs : Sl w B v n f) (hv : ¬ Vld n f) :
    Calls Try.prog 21 #[v, .int .i64 x] w fun e w' => e = .returned (.int .i64 0) ∧ Drawn w w' := by
  have V1 := vldB_f hv
  go_enter Try.func21, Try.ntmps21
  go_wp2_with (first | (go_at_call 19; refine (refValid_any hn hs).mono ?_; rintro e w1 ⟨rfl, hd⟩))
  go_ret
  exact ⟨rfl, hd⟩

theorem refAt_any {f : Nat → Int} {n B : Nat} {v : Value} {x : Int} {w : World} (hn : n ≤ 9223372036854775807) (hs : Sl w B v n f) :
    Calls Try.prog 21 #[v, .int .i64 x] w fun e w' => e = .returned (.int .i64 (AtV n f x)) ∧ Drawn w w' := by
  by_cases hv : Vld n f
  · rw [AtV_yes hv]; exact refAt_yes hs hv
  · rw [AtV_no hv]; exact refAt_no hn hs hv

/-- Whether two lists of n numbers are equal. -/
def sameB (n : Nat) (f g : Nat → Int) : Bool := (List.range n).all fun k => f k == g k
theorem sameB_t {n : Nat} {f g : Nat → Int} (h : ∀ k, k < n → f k = g k) : sameB n f g = true := by simpa [sameB] using h
theorem sameB_f {n : Nat} {f g : Nat → Int} {k : Nat} (hk : k < n) (h : f k ≠ g k) : sameB n f g = false := by
  cases e : sameB n f g with
  | false => rfl
  | true => exact absurd ((by simpa [sameB] using e : ∀ k, k < n → f k = g k) k hk) h

set_option maxHeartbeats 1000000 in
theorem same_eq {f g : Nat → Int} {n B : Nat} {v u : Value} {w : World} (hn : n ≤ 9223372036854775807) (hs : Sl w B v n f) (ht : Sl w B u n g) :
    Calls Try.prog 23 #[v, u] w fun e w' => e = .returned (.bool (sameB n f g)) ∧ Drawn w w' := by
  by_cases h0 : n = 0
  · subst h0
    obtain ⟨a, cap, rfl⟩ := hs.shape
    obtain ⟨a', cap', rfl⟩ := ht.shape
    clear hs ht
    go_enter Try.func23, Try.ntmps23
    go_wp2
    refine wp_loop_rounds 1 ?_
    rw [rounds_succ]
    go_wp2
    go_ret
    exact ⟨ret_bool (sameB_t (fun k hk => by omega)).symm, .refl _⟩
  · obtain ⟨b, off, cap, rfl, _, hc⟩ := hs.at (by omega)
    obtain ⟨b', off', cap', rfl, _, hc'⟩ := ht.at (by omega)
    clear hs ht
    have T := Lib.hid (fun h => sameB_t (n := n) (f := f) (g := g) h)
    have F := Lib.hid (fun k (hk : k < n) h => sameB_f (f := f) (g := g) hk h)
    go_enter Try.func23, Try.ntmps23
    go_wp2
    go_loopw [5] (fun i wr => ∃ k : Nat, k ≤ n ∧ i = .int .i64 k ∧ Hid (∀ j, j < k → f j = g j) ∧ Drawn w wr) (fun i _ => n - (intOf i).toNat)
    case atStart => exact ⟨0, by omega, rfl, Lib.hid (fun j hj => by omega), .refl _⟩
    case round =>
      obtain ⟨k, hk, rfl, hg, hq⟩ := hrel
      by_cases hlt : k < n
      · have c1 := hc.drawn hq k hlt
        have c2 := hc'.drawn hq k hlt
        have i1 : 0 ≤ (k : Int) ∧ (k : Int) < n := by omega
        by_cases he : f k = g k
        · have E := Lib.hid he
          have d1 : (f k != g k) = false := by simp [he]
          clear he
          go_wp2
          go_quiet (fail)
          go_wp2
          go_roundw
          case rel => exact ⟨k + 1, by omega, by go_num, Lib.hid (fun i hi => by
            by_cases e : i = k
            · subst e; exact E.out
            · exact hg.out i (by omega)), hq.on _⟩
          case measure => simp [intOf]; omega
        · have d1 : (f k != g k) = true := by simp [he]
          go_wp2
          go_quiet (fail)
          go_wp2
          go_ret
          exact ⟨ret_bool (F.out k hlt he).symm, hq.on _⟩
      · obtain rfl : k = n := by omega
        go_wp2
        go_ret
        exact ⟨ret_bool (T.out hg.out).symm, hq⟩

end Go.Proofs.Ytphcianmgpbjmaa
