/- At and Same of package curve and of its reference: what each call returns. -/
import Derived.Test.YtmilljlkcbljpaaC
namespace Go.Proofs.Ytmilljlkcbljpaa
open Go.RowKit

/-- x, clamped to 0 to 65535. -/
def clp (x : Int) : Int := if x < 0 then 0 else if 65535 < x then 65535 else x
theorem clp_lo {x : Int} (h : x < 0) : clp x = 0 := if_pos h
theorem clp_hi {x : Int} (h : 65535 < x) : clp x = 65535 := by unfold clp; rw [if_neg (by omega), if_pos h]
theorem clp_in {x : Int} (h : 0 ≤ x) (h' : x ≤ 65535) : clp x = x := by unfold clp; rw [if_neg (by omega), if_neg (by omega)]
theorem clp_bd (x : Int) : 0 ≤ clp x ∧ clp x ≤ 65535 := by unfold clp; omega

open Classical in
/-- What At returns. -/
noncomputable def AtV (n : Nat) (f : Nat → Int) (x : Int) : Int := if Vld n f then atV f (n - 1) (clp x) else 0
theorem AtV_yes {n : Nat} {f : Nat → Int} {x : Int} (h : Vld n f) : AtV n f x = atV f (n - 1) (clp x) := if_pos h
theorem AtV_no {n : Nat} {f : Nat → Int} {x : Int} (h : ¬ Vld n f) : AtV n f x = 0 := if_neg h

set_option maxHeartbeats 400000 in
theorem At_yes {f : Nat → Int} {n B : Nat} {v : Value} {x : Int} {w : World} (hs : Sl w B v n f) (hv : Vld n f) :
    Calls Try.prog 35 #[v, .int .i64 x] w fun e w' => e = .returned (.int .i64 (atV f (n - 1) (clp x))) ∧ Drawn w w' := by
  have hn : n ≤ 9223372036854775807 := by have := hv.2.1; omega
  have V1 := vldB_t hv
  by_cases h1 : x < 0
  · have E := Lib.hid (clp_lo h1)
    go_enter Try.func35, Try.ntmps35
    go_wp2_with (first | (go_at_call 62; refine (valid_any hn hs).mono ?_; rintro e w1 ⟨rfl, hd⟩) | (go_at_call 74; refine (at_any hv (hs.drawn hd) (by omega) (by omega)).mono ?_; rintro e w2 ⟨rfl, hd2⟩))
    go_ret
    exact ⟨ret_int (by rw [E.out]), hd.trans hd2⟩
  · by_cases h2 : 65535 < x
    · have E := Lib.hid (clp_hi h2)
      go_enter Try.func35, Try.ntmps35
      go_wp2_with (first | (go_at_call 62; refine (valid_any hn hs).mono ?_; rintro e w1 ⟨rfl, hd⟩) | (go_at_call 74; refine (at_any hv (hs.drawn hd) (by omega) (by omega)).mono ?_; rintro e w2 ⟨rfl, hd2⟩))
      go_ret
      exact ⟨ret_int (by rw [E.out]), hd.trans hd2⟩
    · have E := Lib.hid (clp_in (x := x) (by omega) (by omega))
      go_enter Try.func35, Try.ntmps35
      go_wp2_with (first | (go_at_call 62; refine (valid_any hn hs).mono ?_; rintro e w1 ⟨rfl, hd⟩) | (go_at_call 74; refine (at_any hv (hs.drawn hd) (by omega) (by omega)).mono ?_; rintro e w2 ⟨rfl, hd2⟩))
      go_ret
      exact ⟨ret_int (by rw [E.out]), hd.trans hd2⟩

set_option maxHeartbeats 400000 in
theorem At_no {f : Nat → Int} {n B : Nat} {v : Value} {x : Int} {w : World} (hn : n ≤ 9223372036854775807) (hs : Sl w B v n f) (hv : ¬ Vld n f) :
    Calls Try.prog 35 #[v, .int .i64 x] w fun e w' => e = .returned (.int .i64 0) ∧ Drawn w w' := by
  have V1 := vldB_f hv
  go_enter Try.func35, Try.ntmps35
  go_wp2_with (first | (go_at_call 62; refine (valid_any hn hs).mono ?_; rintro e w1 ⟨rfl, hd⟩))
  go_ret
  exact ⟨rfl, hd⟩

theorem At_any {f : Nat → Int} {n B : Nat} {v : Value} {x : Int} {w : World} (hn : n ≤ 9223372036854775807) (hs : Sl w B v n f) :
    Calls Try.prog 35 #[v, .int .i64 x] w fun e w' => e = .returned (.int .i64 (AtV n f x)) ∧ Drawn w w' := by
  by_cases hv : Vld n f
  · rw [AtV_yes hv]; exact At_yes hs hv
  · rw [AtV_no hv]; exact At_no hn hs hv

set_option maxHeartbeats 400000 in
theorem refAt_yes {f : Nat → Int} {n B : Nat} {v : Value} {x : Int} {w : World} (hs : Sl w B v n f) (hv : Vld n f) :
    Calls Try.prog 98 #[v, .int .i64 x] w fun e w' => e = .returned (.int .i64 (atV f (n - 1) (clp x))) ∧ Drawn w w' := by
  have hn : n ≤ 9223372036854775807 := by have := hv.2.1; omega
  have V1 := vldB_t hv
  by_cases h1 : x < 0
  · have E := Lib.hid (clp_lo h1)
    go_enter Try.func98, Try.ntmps98
    go_wp2_with (first | (go_at_call 65; refine (refValid_any hn hs).mono ?_; rintro e w1 ⟨rfl, hd⟩) | (go_at_call 110; refine (value_any hv (hs.drawn hd) (by omega) (by omega)).mono ?_; rintro e w2 ⟨rfl, hd2⟩))
    go_ret
    exact ⟨ret_int (by rw [E.out]), hd.trans hd2⟩
  · by_cases h2 : 65535 < x
    · have E := Lib.hid (clp_hi h2)
      go_enter Try.func98, Try.ntmps98
      go_wp2_with (first | (go_at_call 65; refine (refValid_any hn hs).mono ?_; rintro e w1 ⟨rfl, hd⟩) | (go_at_call 110; refine (value_any hv (hs.drawn hd) (by omega) (by omega)).mono ?_; rintro e w2 ⟨rfl, hd2⟩))
      go_ret
      exact ⟨ret_int (by rw [E.out]), hd.trans hd2⟩
    · have E := Lib.hid (clp_in (x := x) (by omega) (by omega))
      go_enter Try.func98, Try.ntmps98
      go_wp2_with (first | (go_at_call 65; refine (refValid_any hn hs).mono ?_; rintro e w1 ⟨rfl, hd⟩) | (go_at_call 110; refine (value_any hv (hs.drawn hd) (by omega) (by omega)).mono ?_; rintro e w2 ⟨rfl, hd2⟩))
      go_ret
      exact ⟨ret_int (by rw [E.out]), hd.trans hd2⟩

set_option maxHeartbeats 400000 in
theorem refAt_no {f : Nat → Int} {n B : Nat} {v : Value} {x : Int} {w : World} (hn : n ≤ 9223372036854775807) (hs : Sl w B v n f) (hv : ¬ Vld n f) :
    Calls Try.prog 98 #[v, .int .i64 x] w fun e w' => e = .returned (.int .i64 0) ∧ Drawn w w' := by
  have V1 := vldB_f hv
  go_enter Try.func98, Try.ntmps98
  go_wp2_with (first | (go_at_call 65; refine (refValid_any hn hs).mono ?_; rintro e w1 ⟨rfl, hd⟩))
  go_ret
  exact ⟨rfl, hd⟩

theorem refAt_any {f : Nat → Int} {n B : Nat} {v : Value} {x : Int} {w : World} (hn : n ≤ 9223372036854775807) (hs : Sl w B v n f) :
    Calls Try.prog 98 #[v, .int .i64 x] w fun e w' => e = .returned (.int .i64 (AtV n f x)) ∧ Drawn w w' := by
  by_cases hv : Vld n f
  · rw [AtV_yes hv]; exact refAt_yes hs hv
  · rw [AtV_no hv]; exact refAt_no hn hs hv

end Go.Proofs.Ytmilljlkcbljpaa
