/- Valid, At of package curve and of its reference, Same: what each call returns. -/
import Derived.Test.YtmilljlkcbljpaaA
namespace Go.Proofs.Ytmilljlkcbljpaa
open Go.RowKit

open Classical in
/-- Whether the values do not decrease. -/
noncomputable def srtB (n : Nat) (f : Nat → Int) : Bool := decide (∀ k, k + 1 < n → f k ≤ f (k + 1))
theorem srtB_t {n : Nat} {f : Nat → Int} (h : ∀ k, k + 1 < n → f k ≤ f (k + 1)) : srtB n f = true := by simp only [srtB, decide_eq_true_eq]; exact h
theorem srtB_f {n : Nat} {f : Nat → Int} (k : Nat) (hk : k + 1 < n) (h : f (k + 1) < f k) : srtB n f = false := by
  simp only [srtB, decide_eq_false_iff_not]; exact fun hh => by have := hh k hk; omega

set_option maxHeartbeats 400000 in
theorem isSorted_any (f : Nat → Int) (n b off cap : Nat) (w : World) (hn : n ≤ 300) (h1 : 1 ≤ n) (hc : Cells w b off n f) :
    Calls Try.prog 91 #[.slice (some ⟨b, off, none⟩) n cap] w fun e w' => e = .returned (.bool (srtB n f)) ∧ Drawn w w' := by
  go_enter Try.func91, Try.ntmps91
  go_wp2
  go_loopw [3] (fun i wr => ∃ k : Nat, k < n ∧ i = .int .i64 k ∧ (∀ j, k ≤ j → j + 1 < n → f j ≤ f (j + 1)) ∧ Drawn w wr) (fun i _ => (intOf i).toNat)
  case atStart => exact ⟨n - 1, by omega, by simp; omega, fun j h1 h2 => by omega, .refl _⟩
  case round =>
    obtain ⟨k, hk, rfl, hs, hq⟩ := hrel
    have hc := hc.drawn hq
    by_cases h0 : 0 < k
    · obtain ⟨j, rfl⟩ : ∃ j, k = j + 1 := ⟨k - 1, by omega⟩
      have c1 := hc (j + 1) (by omega)
      have c2 := hc j (by omega)
      have hs' := Lib.hid hs
      clear hs
      have i1 : 0 ≤ (j : Int) + 1 ∧ (j : Int) + 1 < n := by omega
      have i2 : 0 ≤ (j : Int) ∧ (j : Int) < n := by omega
      have w1 : IntKind.i64.wrap (j : Int) = j := IntWalk.i64_in _ (by omega)
      by_cases hd : f (j + 1) < f j
      · have hd' : decide (f (j + 1) < f j) = true := by simpa using hd
        go_wp2
        go_quiet ((go_at_call 107; exact Calls.quiet_of (less_int _ _ _)))
        go_wp2
        go_ret
        exact ⟨ret_bool (srtB_f j (by omega) hd).symm, hq.on _⟩
      · have hd' : decide (f (j + 1) < f j) = false := by simpa using hd
        go_wp2
        go_quiet ((go_at_call 107; exact Calls.quiet_of (less_int _ _ _)))
        go_wp2
        go_roundw
        case rel => exact ⟨j, by omega, by go_num, fun i h1 h2 => by
          by_cases e : i = j
          · subst e; omega
          · exact hs'.out i (by omega) h2, hq.on _⟩
        case measure => simp [intOf]
    · obtain rfl : k = 0 := by omega
      go_wp2
      go_ret
      exact ⟨ret_bool (srtB_t fun k hk => hs k (Nat.zero_le _) hk).symm, hq⟩

theorem vld_srt {n : Nat} {f : Nat → Int} (h1 : 2 ≤ n) (h2 : n ≤ 257) (h3 : 0 ≤ f 0) (h4 : f (n - 1) ≤ 65535) : srtB n f = vldB n f := by
  unfold srtB vldB Vld
  exact decide_eq_decide.2 ⟨fun h => ⟨h1, h2, h3, h4, h⟩, fun h => h.2.2.2.2⟩

set_option maxHeartbeats 400000 in
theorem valid_any {f : Nat → Int} {n B : Nat} {v : Value} {w : World} (hn : n ≤ 9223372036854775807) (hs : Sl w B v n f) :
    Calls Try.prog 62 #[v] w fun e w' => e = .returned (.bool (vldB n f)) ∧ Drawn w w' := by
  by_cases hp : 2 ≤ n ∧ n ≤ 257
  · obtain ⟨b, off, cap, rfl, _, hc⟩ := hs.at (by omega)
    obtain ⟨m, rfl⟩ : ∃ m, n = m + 1 := ⟨n - 1, by omega⟩
    obtain ⟨hp1, hp2⟩ := hp
    have P1 : pts ((m : Int) + 1) = true := pts_t (by omega) (by omega)
    have S1 := Lib.hid (fun h3 h4 => vld_srt (n := m + 1) (f := f) hp1 hp2 h3 h4)
    have F1 := Lib.hid (fun h : 0 ≤ f 0 ∧ f m ≤ 65535 → False => vldB_f (n := m + 1) (f := f) fun hv => h ⟨hv.2.2.1, hv.2.2.2.1⟩)
    by_cases h1 : 0 ≤ f 0
    · by_cases h2 : f m ≤ 65535
      · go_enter Try.func62, Try.ntmps62
        go_wp2_with (first | (go_at_call 90; refine (points_any _ _).mono ?_; rintro e w1 ⟨rfl, hd⟩; have c1' := (hc.drawn hd).zero (by omega); have c2' := hc.drawn hd m (by omega)) | (go_at_call 91; refine (isSorted_any f _ _ _ _ _ (by omega) (by omega) (hc.drawn hd)).mono ?_; rintro e w2 ⟨rfl, hd2⟩))
        go_ret
        exact ⟨ret_bool (S1.out h1 h2), hd.trans hd2⟩
      · go_enter Try.func62, Try.ntmps62
        go_wp2_with (first | (go_at_call 90; refine (points_any _ _).mono ?_; rintro e w1 ⟨rfl, hd⟩; have c1' := (hc.drawn hd).zero (by omega); have c2' := hc.drawn hd m (by omega)))
        go_ret
        exact ⟨ret_bool (F1.out (by omega)).symm, hd⟩
    · go_enter Try.func62, Try.ntmps62
      go_wp2_with (first | (go_at_call 90; refine (points_any _ _).mono ?_; rintro e w1 ⟨rfl, hd⟩; have c1' := (hc.drawn hd).zero (by omega); have c2' := hc.drawn hd m (by omega)))
      go_ret
      exact ⟨ret_bool (F1.out (by omega)).symm, hd⟩
  · obtain ⟨a, cap, rfl⟩ := hs.shape
    have P1 : pts (n : Int) = false := pts_f (by omega)
    have F1 := Lib.hid (vldB_f (n := n) (f := f) fun hv => hp ⟨hv.1, hv.2.1⟩)
    clear hs
    go_enter Try.func62, Try.ntmps62
    go_wp2_with (first | (go_at_call 90; refine (points_any _ _).mono ?_; rintro e w1 ⟨rfl, hd⟩))
    go_ret
    exact ⟨ret_bool F1.out.symm, hd⟩

/-- What the reference's loop has found good. -/
def good (f : Nat → Int) (k : Nat) : Prop := 0 ≤ f k ∧ f k ≤ 65535 ∧ (0 < k → f (k - 1) ≤ f k)
theorem vld_good {n : Nat} {f : Nat → Int} (h1 : 2 ≤ n) (h2 : n ≤ 257) (h : ∀ k, k < n → good f k) : Vld n f :=
  ⟨h1, h2, (h 0 (by omega)).1, (h (n - 1) (by omega)).2.1, fun k hk => by have := (h (k + 1) hk).2.2 (by omega); simpa using this⟩
theorem good_vld {n : Nat} {f : Nat → Int} (h : Vld n f) (k : Nat) (hk : k < n) : good f k :=
  ⟨(h.bd k hk).1, (h.bd k hk).2, fun h0 => h.le (by omega) hk⟩

set_option maxHeartbeats 1000000 in
theorem refValid_any {f : Nat → Int} {n B : Nat} {v : Value} {w : World} (hn : n ≤ 9223372036854775807) (hs : Sl w B v n f) :
    Calls Try.prog 65 #[v] w fun e w' => e = .returned (.bool (vldB n f)) ∧ Drawn w w' := by
  by_cases hp : 2 ≤ n ∧ n ≤ 257
  · obtain ⟨b, off, cap, rfl, _, hc⟩ := hs.at (by omega)
    obtain ⟨hp1, hp2⟩ := hp
    have P1 : pts (n : Int) = true := pts_t (by omega) (by omega)
    have S1 := Lib.hid (fun h => vldB_t (vld_good (n := n) (f := f) hp1 hp2 h))
    have F1 := Lib.hid (fun k (hk : k < n) (h : ¬ good f k) => vldB_f (n := n) (f := f) fun hv => h (good_vld hv k hk))
    go_enter Try.func65, Try.ntmps65
    go_wp2_with (first | (go_at_call 94; refine (refPoints_any _ _).mono ?_; rintro e w1 ⟨rfl, hd⟩))
    go_loopw [4] (fun i wr => ∃ k : Nat, k ≤ n ∧ i = .int .i64 k ∧ Hid (∀ j, j < k → good f j) ∧ Drawn w wr) (fun i _ => n - (intOf i).toNat)
    case atStart => exact ⟨0, by omega, rfl, Lib.hid (fun j hj => by omega), hd⟩
    case round =>
      obtain ⟨k, hk, rfl, hg, hq⟩ := hrel
      by_cases hlt : k < n
      · have c1 := hc.drawn hq k hlt
        have i1 : 0 ≤ (k : Int) ∧ (k : Int) < n := by omega
        by_cases h1 : f k < 0
        · have d1 : decide (f k < 0) = true := by simpa using h1
          go_wp2
          go_quiet (fail)
          go_wp2
          go_ret
          exact ⟨ret_bool (F1.out k hlt fun h => by have := h.1; omega).symm, hq.on _⟩
        · have d1 : decide (f k < 0) = false := by simpa using h1
          by_cases h2 : 65535 < f k
          · have d2 : decide (65535 < f k) = true := by simpa using h2
            go_wp2
            go_quiet (fail)
            go_wp2
            go_ret
            exact ⟨ret_bool (F1.out k hlt fun h => by have := h.2.1; omega).symm, hq.on _⟩
          · have d2 : decide (65535 < f k) = false := by simpa using h2
            by_cases h3 : 0 < k
            · obtain ⟨j, rfl⟩ : ∃ j, k = j + 1 := ⟨k - 1, by omega⟩
              have c2 := hc.drawn hq j (by omega)
              have i2 : 0 ≤ (j : Int) + 1 ∧ (j : Int) + 1 < n := by omega
              have i3 : 0 ≤ (j : Int) ∧ (j : Int) < n := by omega
              have w1 : IntKind.i64.wrap (j : Int) = j := IntWalk.i64_in _ (by omega)
              have d3 : decide ((0 : Int) < (j : Int) + 1) = true := decide_eq_true (by omega)
              by_cases h4 : f (j + 1) < f j
              · have d4 : decide (f (j + 1) < f j) = true := by simpa using h4
                go_wp2
                go_quiet (fail)
                go_wp2
                go_ret
                exact ⟨ret_bool (F1.out (j + 1) hlt fun h => by have hh := h.2.2 (by omega); rw [Nat.add_sub_cancel] at hh; omega).symm, hq.on _⟩
              · have d4 : decide (f (j + 1) < f j) = false := by simpa using h4
                go_wp2
                go_quiet (fail)
                go_wp2
                go_roundw
                case rel => exact ⟨j + 2, by omega, by go_num, Lib.hid (fun i hi => by
                  by_cases e : i = j + 1
                  · subst e; exact ⟨by omega, by omega, fun _ => by rw [Nat.add_sub_cancel]; omega⟩
                  · exact hg.out i (by omega)), hq.on _⟩
                case measure => simp [intOf]; omega
            · obtain rfl : k = 0 := by omega
              have c0 := (hc.drawn hq).zero hlt
              go_wp2
              go_quiet (fail)
              go_wp2
              go_roundw
              case rel => exact ⟨1, by omega, by go_num, Lib.hid (fun i hi => by
                obtain rfl : i = 0 := by omega
                exact ⟨by omega, by omega, fun h => by omega⟩), hq.on _⟩
              case measure => simp [intOf]; omega
      · obtain rfl : k = n := by omega
        go_wp2
        go_ret
        exact ⟨ret_bool (S1.out hg.out).symm, hq⟩
  · obtain ⟨a, cap, rfl⟩ := hs.shape
    have P1 : pts (n : Int) = false := pts_f (by omega)
    have F1 := Lib.hid (vldB_f (n := n) (f := f) fun hv => hp ⟨hv.1, hv.2.1⟩)
    clear hs
    go_enter Try.func65, Try.ntmps65
    go_wp2_with (first | (go_at_call 94; refine (refPoints_any _ _).mono ?_; rintro e w1 ⟨rfl, hd⟩))
    go_ret
    exact ⟨ret_bool F1.out.symm, hd⟩

end Go.Proofs.Ytmilljlkcbljpaa
