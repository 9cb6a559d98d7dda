/- Error and its reference. -/
import Derived.Test.YtphcianmgpbjmaaArr
namespace Go.Proofs.Ytphcianmgpbjmaa
open Go.RowKit

/-- The value of a curve, zero where it is not valid. -/
noncomputable def vv (n : Nat) (f : Nat → Int) (x : Nat) : Int := bif vldB n f then atV f (n - 1) x else 0
theorem vv_t {n : Nat} {f : Nat → Int} (h : vldB n f = true) (x : Nat) : vv n f x = atV f (n - 1) x := by unfold vv; rw [h]; rfl
theorem vv_f {n : Nat} {f : Nat → Int} (h : vldB n f = false) (x : Nat) : vv n f x = 0 := by unfold vv; rw [h]; rfl
theorem vv_bd (n : Nat) (f : Nat → Int) (x : Nat) (hx : x ≤ 65535) : 0 ≤ vv n f x ∧ vv n f x ≤ 65535 := by
  cases h : vldB n f with
  | false => rw [vv_f h]; omega
  | true => rw [vv_t h]; exact atV_range (of_vldB h) (by omega) (by omega)

/-- One step of the search for the greatest distance. -/
def wstep (W P Q : Int) : Int := if W < P - Q then P - Q else if W < Q - P then Q - P else W
/-- The greatest distance at the first k arguments. -/
noncomputable def worst (n : Nat) (f : Nat → Int) (m : Nat) (g : Nat → Int) : Nat → Int
  | 0 => 0
  | k + 1 => wstep (worst n f m g k) (vv n f k) (vv m g k)
theorem wstep_a {W P Q : Int} (h : W < P - Q) : wstep W P Q = P - Q := if_pos h
theorem wstep_b {W P Q : Int} (h : ¬ W < P - Q) (h' : W < Q - P) : wstep W P Q = Q - P := by unfold wstep; rw [if_neg h, if_pos h']
theorem wstep_c {W P Q : Int} (h : ¬ W < P - Q) (h' : ¬ W < Q - P) : wstep W P Q = W := by unfold wstep; rw [if_neg h, if_neg h']
theorem worst_bd (n : Nat) (f : Nat → Int) (m : Nat) (g : Nat → Int) : ∀ k, k ≤ 65536 → 0 ≤ worst n f m g k ∧ worst n f m g k ≤ 65535
  | 0, _ => by simp [worst]
  | k + 1, h => by
    have h1 := worst_bd n f m g k (by omega)
    have h2 := vv_bd n f k (by omega)
    have h3 := vv_bd m g k (by omega)
    simp only [worst]
    unfold wstep
    split <;> (try split) <;> omega
theorem worst_nonneg (n : Nat) (f : Nat → Int) (m : Nat) (g : Nat → Int) : ∀ k, 0 ≤ worst n f m g k
  | 0 => Int.le_refl _
  | k + 1 => by
    have := worst_nonneg n f m g k
    simp only [worst]
    unfold wstep
    split <;> (try split) <;> omega
theorem worst_up (n : Nat) (f : Nat → Int) (m : Nat) (g : Nat → Int) (k : Nat) : worst n f m g k ≤ worst n f m g (k + 1) ∧ vv n f k - vv m g k ≤ worst n f m g (k + 1) ∧ vv m g k - vv n f k ≤ worst n f m g (k + 1) := by
  have h0 := worst_nonneg n f m g k
  simp only [worst]
  unfold wstep
  split <;> (try split) <;> omega
theorem worst_mono (n : Nat) (f : Nat → Int) (m : Nat) (g : Nat → Int) (k : Nat) : ∀ d, worst n f m g k ≤ worst n f m g (k + d)
  | 0 => Int.le_refl _
  | d + 1 => Int.le_trans (worst_mono n f m g k d) (worst_up n f m g (k + d)).1
theorem worst_ge (n : Nat) (f : Nat → Int) (m : Nat) (g : Nat → Int) {k K : Nat} (h : k < K) : vv n f k - vv m g k ≤ worst n f m g K ∧ vv m g k - vv n f k ≤ worst n f m g K := by
  have h1 := worst_up n f m g k
  have h2 := worst_mono n f m g (k + 1) (K - (k + 1))
  rw [show k + 1 + (K - (k + 1)) = K by omega] at h2
  omega
theorem worst_sym (n : Nat) (f : Nat → Int) (m : Nat) (g : Nat → Int) : ∀ k, worst m g n f k = worst n f m g k
  | 0 => rfl
  | k + 1 => by
    have h1 := worst_sym n f m g k
    have h2 : ∀ j, 0 ≤ worst n f m g j := fun j => by
      have := worst_mono n f m g 0 j
      rw [Nat.zero_add] at this
      exact this
    have h3 := h2 k
    simp only [worst]
    rw [h1]
    unfold wstep
    split <;> split <;> (try split) <;> (try split) <;> omega
theorem worst_self (n : Nat) (f : Nat → Int) : ∀ k, worst n f n f k = 0
  | 0 => rfl
  | k + 1 => by
    simp only [worst]
    rw [worst_self n f k]
    unfold wstep
    rw [if_neg (by omega), if_neg (by omega)]

theorem at_is {f : Nat → Int} {n B : Nat} {v : Value} {x r : Int} {w : World} (hv : Vld n f) (hs : Sl w B v n f) (hx : 0 ≤ x) (hx' : x ≤ 65535) (h : atV f (n - 1) x = r) :
    Calls Try.prog 39 #[v, .int .i64 x] w fun e w' => e = .returned (.int .i64 r) ∧ Drawn w w' := h ▸ at_any hv hs hx hx'
theorem value_is {f : Nat → Int} {n B : Nat} {v : Value} {x r : Int} {w : World} (hv : Vld n f) (hs : Sl w B v n f) (hx : 0 ≤ x) (hx' : x ≤ 65535) (h : atV f (n - 1) x = r) :
    Calls Try.prog 40 #[v, .int .i64 x] w fun e w' => e = .returned (.int .i64 r) ∧ Drawn w w' := h ▸ value_any hv hs hx hx'

set_option maxRecDepth 100000 in
set_option maxHeartbeats 8000000 in
theorem error_any {f g : Nat → Int} {n m B B' : Nat} {v u : Value} {w : World} (hn : n ≤ 9223372036854775807) (hm : m ≤ 9223372036854775807) (hs : Sl w B v n f) (ht : Sl w B' u m g) :
    Calls Try.prog 34 #[v, u] w fun e w' => e = .returned (.int .i64 (worst n f m g 65536)) ∧ Drawn w w' := by
  obtain ⟨a, cap, rfl⟩ := hs.shape
  obtain ⟨a', cap', rfl⟩ := ht.shape
  obtain ⟨T, hT⟩ : ∃ T : Nat, T = 65536 := ⟨_, rfl⟩
  rw [← hT]
  have HT := Lib.hid hT
  clear hT
  cases V : vldB n f with
  | false =>
    cases U : vldB m g with
    | false =>
      go_enter Try.func34, Try.ntmps34
      go_wp2_with fail
      refine (valid_any hn hs).mono ?_
      rintro e w1 ⟨rfl, q1⟩
      obtain ⟨j1, rfl⟩ := q1
      rw [V]
      go_wp2_with fail
      refine (valid_any hm (ht.drawnN j1)).mono ?_
      rintro e w2 ⟨rfl, q2⟩
      obtain ⟨j2, rfl⟩ := q2
      rw [U]
      go_wp2
      go_loopw [5, 15] (fun c i wr => ∃ k : Nat, k ≤ T ∧ i = .int .i64 k ∧ c = .int .i64 (worst n f m g k) ∧ Drawn w wr) (fun _ i _ => T - (intOf i).toNat)
      case atStart => exact ⟨0, Nat.zero_le _, rfl, rfl, .of _⟩
      case round =>
        obtain ⟨k, hk, rfl, rfl, hq⟩ := hrel
        by_cases hlt : k < T
        · have hk65 : (k : Int) ≤ 65535 := by have := HT.out; omega
          have hk65' : k ≤ 65535 := by omega
          obtain ⟨P, hP⟩ : ∃ P, vv n f k = P := ⟨_, rfl⟩
          obtain ⟨Q, hQ⟩ : ∃ Q, vv m g k = Q := ⟨_, rfl⟩
          obtain ⟨W, hW⟩ : ∃ W, worst n f m g k = W := ⟨_, rfl⟩
          obtain ⟨p0, p1⟩ : 0 ≤ P ∧ P ≤ 65535 := by rw [← hP]; exact vv_bd n f k hk65'
          obtain ⟨r0, r1⟩ : 0 ≤ Q ∧ Q ≤ 65535 := by rw [← hQ]; exact vv_bd m g k hk65'
          obtain ⟨s0, s1⟩ : 0 ≤ W ∧ W ≤ 65535 := by rw [← hW]; exact worst_bd n f m g k (by omega)
          have HW := Lib.hid (show worst n f m g (k + 1) = wstep W P Q by simp only [worst]; rw [hW, hP, hQ])
          rw [hW]
          rw [vv_f V] at hP
          rw [vv_f U] at hQ
          have HP := Lib.hid hP
          have HQ := Lib.hid hQ
          have hlt' := Lib.hid hlt
          have hk' := Lib.hid hk
          have d1 : decide ((k : Int) < 65536) = true := decide_eq_true (by omega)
          clear hW hP hQ hlt hk hk65'
          obtain rfl := HP.out
          obtain rfl := HQ.out
          by_cases h1 : W < 0 - 0
          · exfalso; omega
          · by_cases h2 : W < 0 - 0
            · exfalso; omega
            · have HE := Lib.hid (wstep_c h1 h2)
              go_wp2
              go_roundw
              case rel => exact ⟨k + 1, hlt'.out, by go_num, by first | (rw [HW.out, HE.out]; done) | (rw [HW.out, HE.out]; simp), by first | exact hq | exact hq.on _⟩
              case measure =>
                have := hlt'.out
                first | (simp [intOf]; done) | (simp [intOf]; omega)
        · obtain rfl : k = T := by omega
          have hT := HT.out
          subst hT
          go_wp2
          go_ret
          exact ⟨rfl, hq⟩
    | true =>
      go_enter Try.func34, Try.ntmps34
      go_wp2_with fail
      refine (valid_any hn hs).mono ?_
      rintro e w1 ⟨rfl, q1⟩
      obtain ⟨j1, rfl⟩ := q1
      rw [V]
      go_wp2_with fail
      refine (valid_any hm (ht.drawnN j1)).mono ?_
      rintro e w2 ⟨rfl, q2⟩
      obtain ⟨j2, rfl⟩ := q2
      rw [U]
      go_wp2
      go_loopw [5, 15] (fun c i wr => ∃ k : Nat, k ≤ T ∧ i = .int .i64 k ∧ c = .int .i64 (worst n f m g k) ∧ Drawn w wr) (fun _ i _ => T - (intOf i).toNat)
      case atStart => exact ⟨0, Nat.zero_le _, rfl, rfl, .of _⟩
      case round =>
        obtain ⟨k, hk, rfl, rfl, hq⟩ := hrel
        by_cases hlt : k < T
        · have hk65 : (k : Int) ≤ 65535 := by have := HT.out; omega
          have hk65' : k ≤ 65535 := by omega
          obtain ⟨P, hP⟩ : ∃ P, vv n f k = P := ⟨_, rfl⟩
          obtain ⟨Q, hQ⟩ : ∃ Q, vv m g k = Q := ⟨_, rfl⟩
          obtain ⟨W, hW⟩ : ∃ W, worst n f m g k = W := ⟨_, rfl⟩
          obtain ⟨p0, p1⟩ : 0 ≤ P ∧ P ≤ 65535 := by rw [← hP]; exact vv_bd n f k hk65'
          obtain ⟨r0, r1⟩ : 0 ≤ Q ∧ Q ≤ 65535 := by rw [← hQ]; exact vv_bd m g k hk65'
          obtain ⟨s0, s1⟩ : 0 ≤ W ∧ W ≤ 65535 := by rw [← hW]; exact worst_bd n f m g k (by omega)
          have HW := Lib.hid (show worst n f m g (k + 1) = wstep W P Q by simp only [worst]; rw [hW, hP, hQ])
          rw [hW]
          rw [vv_f V] at hP
          rw [vv_t U] at hQ
          have HP := Lib.hid hP
          have HQ := Lib.hid hQ
          have hlt' := Lib.hid hlt
          have hk' := Lib.hid hk
          have d1 : decide ((k : Int) < 65536) = true := decide_eq_true (by omega)
          clear hW hP hQ hlt hk hk65'
          obtain rfl := HP.out
          by_cases h1 : W < 0 - Q
          · exfalso; omega
          · by_cases h2 : W < Q - 0
            · have HE := Lib.hid (wstep_b h1 h2)
              go_wp2_with fail
              refine (at_is (of_vldB U) (ht.drawn hq) (by omega) hk65 HQ.out).mono ?_
              rintro e w3 ⟨rfl, q3⟩
              replace hq := hq.trans q3
              clear q3
              go_wp2
              go_roundw
              case rel => exact ⟨k + 1, hlt'.out, by go_num, by first | (rw [HW.out, HE.out]; done) | (rw [HW.out, HE.out]; simp), by first | exact hq | exact hq.on _⟩
              case measure =>
                have := hlt'.out
                first | (simp [intOf]; done) | (simp [intOf]; omega)
            · have HE := Lib.hid (wstep_c h1 h2)
              go_wp2_with fail
              refine (at_is (of_vldB U) (ht.drawn hq) (by omega) hk65 HQ.out).mono ?_
              rintro e w3 ⟨rfl, q3⟩
              replace hq := hq.trans q3
              clear q3
              go_wp2
              go_roundw
              case rel => exact ⟨k + 1, hlt'.out, by go_num, by first | (rw [HW.out, HE.out]; done) | (rw [HW.out, HE.out]; simp), by first | exact hq | exact hq.on _⟩
              case measure =>
                have := hlt'.out
                first | (simp [intOf]; done) | (simp [intOf]; omega)
        · obtain rfl : k = T := by omega
          have hT := HT.out
          subst hT
          go_wp2
          go_ret
          exact ⟨rfl, hq⟩
  | true =>
    cases U : vldB m g with
    | false =>
      go_enter Try.func34, Try.ntmps34
      go_wp2_with fail
      refine (valid_any hn hs).mono ?_
      rintro e w1 ⟨rfl, q1⟩
      obtain ⟨j1, rfl⟩ := q1
      rw [V]
      go_wp2_with fail
      refine (valid_any hm (ht.drawnN j1)).mono ?_
      rintro e w2 ⟨rfl, q2⟩
      obtain ⟨j2, rfl⟩ := q2
      rw [U]
      go_wp2
      go_loopw [5, 15] (fun c i wr => ∃ k : Nat, k ≤ T ∧ i = .int .i64 k ∧ c = .int .i64 (worst n f m g k) ∧ Drawn w wr) (fun _ i _ => T - (intOf i).toNat)
      case atStart => exact ⟨0, Nat.zero_le _, rfl, rfl, .of _⟩
      case round =>
        obtain ⟨k, hk, rfl, rfl, hq⟩ := hrel
        by_cases hlt : k < T
        · have hk65 : (k : Int) ≤ 65535 := by have := HT.out; omega
          have hk65' : k ≤ 65535 := by omega
          obtain ⟨P, hP⟩ : ∃ P, vv n f k = P := ⟨_, rfl⟩
          obtain ⟨Q, hQ⟩ : ∃ Q, vv m g k = Q := ⟨_, rfl⟩
          obtain ⟨W, hW⟩ : ∃ W, worst n f m g k = W := ⟨_, rfl⟩
          obtain ⟨p0, p1⟩ : 0 ≤ P ∧ P ≤ 65535 := by rw [← hP]; exact vv_bd n f k hk65'
          obtain ⟨r0, r1⟩ : 0 ≤ Q ∧ Q ≤ 65535 := by rw [← hQ]; exact vv_bd m g k hk65'
          obtain ⟨s0, s1⟩ : 0 ≤ W ∧ W ≤ 65535 := by rw [← hW]; exact worst_bd n f m g k (by omega)
          have HW := Lib.hid (show worst n f m g (k + 1) = wstep W P Q by simp only [worst]; rw [hW, hP, hQ])
          rw [hW]
          rw [vv_t V] at hP
          rw [vv_f U] at hQ
          have HP := Lib.hid hP
          have HQ := Lib.hid hQ
          have hlt' := Lib.hid hlt
          have hk' := Lib.hid hk
          have d1 : decide ((k : Int) < 65536) = true := decide_eq_true (by omega)
          clear hW hP hQ hlt hk hk65'
          obtain rfl := HQ.out
          by_cases h1 : W < P - 0
          · have h2 : ¬ P - 0 < 0 - P := by omega
            have HE := Lib.hid (wstep_a h1)
            go_wp2_with fail
            refine (at_is (of_vldB V) (hs.drawn hq) (by omega) hk65 HP.out).mono ?_
            rintro e w3 ⟨rfl, q3⟩
            replace hq := hq.trans q3
            clear q3
            go_wp2
            go_roundw
            case rel => exact ⟨k + 1, hlt'.out, by go_num, by first | (rw [HW.out, HE.out]; done) | (rw [HW.out, HE.out]; simp), by first | exact hq | exact hq.on _⟩
            case measure =>
              have := hlt'.out
              first | (simp [intOf]; done) | (simp [intOf]; omega)
          · by_cases h2 : W < 0 - P
            · exfalso; omega
            · have HE := Lib.hid (wstep_c h1 h2)
              go_wp2_with fail
              refine (at_is (of_vldB V) (hs.drawn hq) (by omega) hk65 HP.out).mono ?_
              rintro e w3 ⟨rfl, q3⟩
              replace hq := hq.trans q3
              clear q3
              go_wp2
              go_roundw
              case rel => exact ⟨k + 1, hlt'.out, by go_num, by first | (rw [HW.out, HE.out]; done) | (rw [HW.out, HE.out]; simp), by first | exact hq | exact hq.on _⟩
              case measure =>
                have := hlt'.out
                first | (simp [intOf]; done) | (simp [intOf]; omega)
        · obtain rfl : k = T := by omega
          have hT := HT.out
          subst hT
          go_wp2
          go_ret
          exact ⟨rfl, hq⟩
    | true =>
      go_enter Try.func34, Try.ntmps34
      go_wp2_with fail
      refine (valid_any hn hs).mono ?_
      rintro e w1 ⟨rfl, q1⟩
      obtain ⟨j1, rfl⟩ := q1
      rw [V]
      go_wp2_with fail
      refine (valid_any hm (ht.drawnN j1)).mono ?_
      rintro e w2 ⟨rfl, q2⟩
      obtain ⟨j2, rfl⟩ := q2
      rw [U]
      go_wp2
      go_loopw [5, 15] (fun c i wr => ∃ k : Nat, k ≤ T ∧ i = .int .i64 k ∧ c = .int .i64 (worst n f m g k) ∧ Drawn w wr) (fun _ i _ => T - (intOf i).toNat)
      case atStart => exact ⟨0, Nat.zero_le _, rfl, rfl, .of _⟩
      case round =>
        obtain ⟨k, hk, rfl, rfl, hq⟩ := hrel
        by_cases hlt : k < T
        · have hk65 : (k : Int) ≤ 65535 := by have := HT.out; omega
          have hk65' : k ≤ 65535 := by omega
          obtain ⟨P, hP⟩ : ∃ P, vv n f k = P := ⟨_, rfl⟩
          obtain ⟨Q, hQ⟩ : ∃ Q, vv m g k = Q := ⟨_, rfl⟩
          obtain ⟨W, hW⟩ : ∃ W, worst n f m g k = W := ⟨_, rfl⟩
          obtain ⟨p0, p1⟩ : 0 ≤ P ∧ P ≤ 65535 := by rw [← hP]; exact vv_bd n f k hk65'
          obtain ⟨r0, r1⟩ : 0 ≤ Q ∧ Q ≤ 65535 := by rw [← hQ]; exact vv_bd m g k hk65'
          obtain ⟨s0, s1⟩ : 0 ≤ W ∧ W ≤ 65535 := by rw [← hW]; exact worst_bd n f m g k (by omega)
          have HW := Lib.hid (show worst n f m g (k + 1) = wstep W P Q by simp only [worst]; rw [hW, hP, hQ])
          rw [hW]
          rw [vv_t V] at hP
          rw [vv_t U] at hQ
          have HP := Lib.hid hP
          have HQ := Lib.hid hQ
          have hlt' := Lib.hid hlt
          have hk' := Lib.hid hk
          have d1 : decide ((k : Int) < 65536) = true := decide_eq_true (by omega)
          clear hW hP hQ hlt hk hk65'
          by_cases h1 : W < P - Q
          · have h2 : ¬ P - Q < Q - P := by omega
            have HE := Lib.hid (wstep_a h1)
            go_wp2_with fail
            refine (at_is (of_vldB V) (hs.drawn hq) (by omega) hk65 HP.out).mono ?_
            rintro e w3 ⟨rfl, q3⟩
            replace hq := hq.trans q3
            clear q3
            go_wp2_with fail
            refine (at_is (of_vldB U) (ht.drawn hq) (by omega) hk65 HQ.out).mono ?_
            rintro e w3 ⟨rfl, q3⟩
            replace hq := hq.trans q3
            clear q3
            go_wp2
            go_roundw
            case rel => exact ⟨k + 1, hlt'.out, by go_num, by first | (rw [HW.out, HE.out]; done) | (rw [HW.out, HE.out]; simp), by first | exact hq | exact hq.on _⟩
            case measure =>
              have := hlt'.out
              first | (simp [intOf]; done) | (simp [intOf]; omega)
          · by_cases h2 : W < Q - P
            · have HE := Lib.hid (wstep_b h1 h2)
              go_wp2_with fail
              refine (at_is (of_vldB V) (hs.drawn hq) (by omega) hk65 HP.out).mono ?_
              rintro e w3 ⟨rfl, q3⟩
              replace hq := hq.trans q3
              clear q3
              go_wp2_with fail
              refine (at_is (of_vldB U) (ht.drawn hq) (by omega) hk65 HQ.out).mono ?_
              rintro e w3 ⟨rfl, q3⟩
              replace hq := hq.trans q3
              clear q3
              go_wp2
              go_roundw
              case rel => exact ⟨k + 1, hlt'.out, by go_num, by first | (rw [HW.out, HE.out]; done) | (rw [HW.out, HE.out]; simp), by first | exact hq | exact hq.on _⟩
              case measure =>
                have := hlt'.out
                first | (simp [intOf]; done) | (simp [intOf]; omega)
            · have HE := Lib.hid (wstep_c h1 h2)
              go_wp2_with fail
              refine (at_is (of_vldB V) (hs.drawn hq) (by omega) hk65 HP.out).mono ?_
              rintro e w3 ⟨rfl, q3⟩
              replace hq := hq.trans q3
              clear q3
              go_wp2_with fail
              refine (at_is (of_vldB U) (ht.drawn hq) (by omega) hk65 HQ.out).mono ?_
              rintro e w3 ⟨rfl, q3⟩
              replace hq := hq.trans q3
              clear q3
              go_wp2
              go_roundw
              case rel => exact ⟨k + 1, hlt'.out, by go_num, by first | (rw [HW.out, HE.out]; done) | (rw [HW.out, HE.out]; simp), by first | exact hq | exact hq.on _⟩
              case measure =>
                have := hlt'.out
                first | (simp [intOf]; done) | (simp [intOf]; omega)
        · obtain rfl : k = T := by omega
          have hT := HT.out
          subst hT
          go_wp2
          go_ret
          exact ⟨rfl, hq⟩

set_option maxRecDepth 100000 in
set_option maxHeartbeats 8000000 in
theorem refError_any {f g : Nat → Int} {n m B B' : Nat} {v u : Value} {w : World} (hn : n ≤ 9223372036854775807) (hm : m ≤ 9223372036854775807) (hs : Sl w B v n f) (ht : Sl w B' u m g) :
    Calls Try.prog 35 #[v, u] w fun e w' => e = .returned (.int .i64 (worst n f m g 65536)) ∧ Drawn w w' := by
  obtain ⟨a, cap, rfl⟩ := hs.shape
  obtain ⟨a', cap', rfl⟩ := ht.shape
  obtain ⟨T, hT⟩ : ∃ T : Nat, T = 65536 := ⟨_, rfl⟩
  rw [← hT]
  have HT := Lib.hid hT
  clear hT
  cases V : vldB n f with
  | false =>
    cases U : vldB m g with
    | false =>
      go_enter Try.func35, Try.ntmps35
      go_wp2_with fail
      refine (refValid_any hn hs).mono ?_
      rintro e w1 ⟨rfl, q1⟩
      obtain ⟨j1, rfl⟩ := q1
      rw [V]
      go_wp2_with fail
      refine (refValid_any hm (ht.drawnN j1)).mono ?_
      rintro e w2 ⟨rfl, q2⟩
      obtain ⟨j2, rfl⟩ := q2
      rw [U]
      go_wp2
      go_loopw [7, 8] (fun c i wr => ∃ k : Nat, k ≤ T ∧ i = .int .i64 k ∧ c = .int .i64 (worst n f m g k) ∧ Drawn w wr) (fun _ i _ => T - (intOf i).toNat)
      case atStart => exact ⟨0, Nat.zero_le _, rfl, rfl, .of _⟩
      case round =>
        obtain ⟨k, hk, rfl, rfl, hq⟩ := hrel
        by_cases hlt : k < T
        · have hk65 : (k : Int) ≤ 65535 := by have := HT.out; omega
          have hk65' : k ≤ 65535 := by omega
          obtain ⟨P, hP⟩ : ∃ P, vv n f k = P := ⟨_, rfl⟩
          obtain ⟨Q, hQ⟩ : ∃ Q, vv m g k = Q := ⟨_, rfl⟩
          obtain ⟨W, hW⟩ : ∃ W, worst n f m g k = W := ⟨_, rfl⟩
          obtain ⟨p0, p1⟩ : 0 ≤ P ∧ P ≤ 65535 := by rw [← hP]; exact vv_bd n f k hk65'
          obtain ⟨r0, r1⟩ : 0 ≤ Q ∧ Q ≤ 65535 := by rw [← hQ]; exact vv_bd m g k hk65'
          obtain ⟨s0, s1⟩ : 0 ≤ W ∧ W ≤ 65535 := by rw [← hW]; exact worst_bd n f m g k (by omega)
          have HW := Lib.hid (show worst n f m g (k + 1) = wstep W P Q by simp only [worst]; rw [hW, hP, hQ])
          rw [hW]
          rw [vv_f V] at hP
          rw [vv_f U] at hQ
          have HP := Lib.hid hP
          have HQ := Lib.hid hQ
          have hlt' := Lib.hid hlt
          have hk' := Lib.hid hk
          have d1 : decide ((k : Int) ≤ 65535) = true := decide_eq_true (by omega)
          clear hW hP hQ hlt hk hk65'
          obtain rfl := HP.out
          obtain rfl := HQ.out
          by_cases h1 : W < 0 - 0
          · exfalso; omega
          · by_cases h2 : W < 0 - 0
            · exfalso; omega
            · have HE := Lib.hid (wstep_c h1 h2)
              go_wp2
              go_roundw
              case rel => exact ⟨k + 1, hlt'.out, by go_num, by first | (rw [HW.out, HE.out]; done) | (rw [HW.out, HE.out]; simp), by first | exact hq | exact hq.on _⟩
              case measure =>
                have := hlt'.out
                first | (simp [intOf]; done) | (simp [intOf]; omega)
        · obtain rfl : k = T := by omega
          have hT := HT.out
          subst hT
          go_wp2
          go_ret
          exact ⟨rfl, hq⟩
    | true =>
      go_enter Try.func35, Try.ntmps35
      go_wp2_with fail
      refine (refValid_any hn hs).mono ?_
      rintro e w1 ⟨rfl, q1⟩
      obtain ⟨j1, rfl⟩ := q1
      rw [V]
      go_wp2_with fail
      refine (refValid_any hm (ht.drawnN j1)).mono ?_
      rintro e w2 ⟨rfl, q2⟩
      obtain ⟨j2, rfl⟩ := q2
      rw [U]
      go_wp2
      go_loopw [7, 8] (fun c i wr => ∃ k : Nat, k ≤ T ∧ i = .int .i64 k ∧ c = .int .i64 (worst n f m g k) ∧ Drawn w wr) (fun _ i _ => T - (intOf i).toNat)
      case atStart => exact ⟨0, Nat.zero_le _, rfl, rfl, .of _⟩
      case round =>
        obtain ⟨k, hk, rfl, rfl, hq⟩ := hrel
        by_cases hlt : k < T
        · have hk65 : (k : Int) ≤ 65535 := by have := HT.out; omega
          have hk65' : k ≤ 65535 := by omega
          obtain ⟨P, hP⟩ : ∃ P, vv n f k = P := ⟨_, rfl⟩
          obtain ⟨Q, hQ⟩ : ∃ Q, vv m g k = Q := ⟨_, rfl⟩
          obtain ⟨W, hW⟩ : ∃ W, worst n f m g k = W := ⟨_, rfl⟩
          obtain ⟨p0, p1⟩ : 0 ≤ P ∧ P ≤ 65535 := by rw [← hP]; exact vv_bd n f k hk65'
          obtain ⟨r0, r1⟩ : 0 ≤ Q ∧ Q ≤ 65535 := by rw [← hQ]; exact vv_bd m g k hk65'
          obtain ⟨s0, s1⟩ : 0 ≤ W ∧ W ≤ 65535 := by rw [← hW]; exact worst_bd n f m g k (by omega)
          have HW := Lib.hid (show worst n f m g (k + 1) = wstep W P Q by simp only [worst]; rw [hW, hP, hQ])
          rw [hW]
          rw [vv_f V] at hP
          rw [vv_t U] at hQ
          have HP := Lib.hid hP
          have HQ := Lib.hid hQ
          have hlt' := Lib.hid hlt
          have hk' := Lib.hid hk
          have d1 : decide ((k : Int) ≤ 65535) = true := decide_eq_true (by omega)
          clear hW hP hQ hlt hk hk65'
          obtain rfl := HP.out
          by_cases h1 : W < 0 - Q
          · exfalso; omega
          · by_cases h2 : W < Q - 0
            · have HE := Lib.hid (wstep_b h1 h2)
              go_wp2_with fail
              refine (value_is (of_vldB U) (ht.drawn hq) (by omega) hk65 HQ.out).mono ?_
              rintro e w3 ⟨rfl, q3⟩
              replace hq := hq.trans q3
              clear q3
              go_wp2
              go_roundw
              case rel => exact ⟨k + 1, hlt'.out, by go_num, by first | (rw [HW.out, HE.out]; done) | (rw [HW.out, HE.out]; simp), by first | exact hq | exact hq.on _⟩
              case measure =>
                have := hlt'.out
                first | (simp [intOf]; done) | (simp [intOf]; omega)
            · have HE := Lib.hid (wstep_c h1 h2)
              go_wp2_with fail
              refine (value_is (of_vldB U) (ht.drawn hq) (by omega) hk65 HQ.out).mono ?_
              rintro e w3 ⟨rfl, q3⟩
              replace hq := hq.trans q3
              clear q3
              go_wp2
              go_roundw
              case rel => exact ⟨k + 1, hlt'.out, by go_num, by first | (rw [HW.out, HE.out]; done) | (rw [HW.out, HE.out]; simp), by first | exact hq | exact hq.on _⟩
              case measure =>
                have := hlt'.out
                first | (simp [intOf]; done) | (simp [intOf]; omega)
        · obtain rfl : k = T := by omega
          have hT := HT.out
          subst hT
          go_wp2
          go_ret
          exact ⟨rfl, hq⟩
  | true =>
    cases U : vldB m g with
    | false =>
      go_enter Try.func35, Try.ntmps35
      go_wp2_with fail
      refine (refValid_any hn hs).mono ?_
      rintro e w1 ⟨rfl, q1⟩
      obtain ⟨j1, rfl⟩ := q1
      rw [V]
      go_wp2_with fail
      refine (refValid_any hm (ht.drawnN j1)).mono ?_
      rintro e w2 ⟨rfl, q2⟩
      obtain ⟨j2, rfl⟩ := q2
      rw [U]
      go_wp2
      go_loopw [7, 8] (fun c i wr => ∃ k : Nat, k ≤ T ∧ i = .int .i64 k ∧ c = .int .i64 (worst n f m g k) ∧ Drawn w wr) (fun _ i _ => T - (intOf i).toNat)
      case atStart => exact ⟨0, Nat.zero_le _, rfl, rfl, .of _⟩
      case round =>
        obtain ⟨k, hk, rfl, rfl, hq⟩ := hrel
        by_cases hlt : k < T
        · have hk65 : (k : Int) ≤ 65535 := by have := HT.out; omega
          have hk65' : k ≤ 65535 := by omega
          obtain ⟨P, hP⟩ : ∃ P, vv n f k = P := ⟨_, rfl⟩
          obtain ⟨Q, hQ⟩ : ∃ Q, vv m g k = Q := ⟨_, rfl⟩
          obtain ⟨W, hW⟩ : ∃ W, worst n f m g k = W := ⟨_, rfl⟩
          obtain ⟨p0, p1⟩ : 0 ≤ P ∧ P ≤ 65535 := by rw [← hP]; exact vv_bd n f k hk65'
          obtain ⟨r0, r1⟩ : 0 ≤ Q ∧ Q ≤ 65535 := by rw [← hQ]; exact vv_bd m g k hk65'
          obtain ⟨s0, s1⟩ : 0 ≤ W ∧ W ≤ 65535 := by rw [← hW]; exact worst_bd n f m g k (by omega)
          have HW := Lib.hid (show worst n f m g (k + 1) = wstep W P Q by simp only [worst]; rw [hW, hP, hQ])
          rw [hW]
          rw [vv_t V] at hP
          rw [vv_f U] at hQ
          have HP := Lib.hid hP
          have HQ := Lib.hid hQ
          have hlt' := Lib.hid hlt
          have hk' := Lib.hid hk
          have d1 : decide ((k : Int) ≤ 65535) = true := decide_eq_true (by omega)
          clear hW hP hQ hlt hk hk65'
          obtain rfl := HQ.out
          by_cases h1 : W < P - 0
          · have h2 : ¬ P - 0 < 0 - P := by omega
            have HE := Lib.hid (wstep_a h1)
            go_wp2_with fail
            refine (value_is (of_vldB V) (hs.drawn hq) (by omega) hk65 HP.out).mono ?_
            rintro e w3 ⟨rfl, q3⟩
            replace hq := hq.trans q3
            clear q3
            go_wp2
            go_roundw
            case rel => exact ⟨k + 1, hlt'.out, by go_num, by first | (rw [HW.out, HE.out]; done) | (rw [HW.out, HE.out]; simp), by first | exact hq | exact hq.on _⟩
            case measure =>
              have := hlt'.out
              first | (simp [intOf]; done) | (simp [intOf]; omega)
          · by_cases h2 : W < 0 - P
            · exfalso; omega
            · have HE := Lib.hid (wstep_c h1 h2)
              go_wp2_with fail
              refine (value_is (of_vldB V) (hs.drawn hq) (by omega) hk65 HP.out).mono ?_
              rintro e w3 ⟨rfl, q3⟩
              replace hq := hq.trans q3
              clear q3
              go_wp2
              go_roundw
              case rel => exact ⟨k + 1, hlt'.out, by go_num, by first | (rw [HW.out, HE.out]; done) | (rw [HW.out, HE.out]; simp), by first | exact hq | exact hq.on _⟩
              case measure =>
                have := hlt'.out
                first | (simp [intOf]; done) | (simp [intOf]; omega)
        · obtain rfl : k = T := by omega
          have hT := HT.out
          subst hT
          go_wp2
          go_ret
          exact ⟨rfl, hq⟩
    | true =>
      go_enter Try.func35, Try.ntmps35
      go_wp2_with fail
      refine (refValid_any hn hs).mono ?_
      rintro e w1 ⟨rfl, q1⟩
      obtain ⟨j1, rfl⟩ := q1
      rw [V]
      go_wp2_with fail
      refine (refValid_any hm (ht.drawnN j1)).mono ?_
      rintro e w2 ⟨rfl, q2⟩
      obtain ⟨j2, rfl⟩ := q2
      rw [U]
      go_wp2
      go_loopw [7, 8] (fun c i wr => ∃ k : Nat, k ≤ T ∧ i = .int .i64 k ∧ c = .int .i64 (worst n f m g k) ∧ Drawn w wr) (fun _ i _ => T - (intOf i).toNat)
      case atStart => exact ⟨0, Nat.zero_le _, rfl, rfl, .of _⟩
      case round =>
        obtain ⟨k, hk, rfl, rfl, hq⟩ := hrel
        by_cases hlt : k < T
        · have hk65 : (k : Int) ≤ 65535 := by have := HT.out; omega
          have hk65' : k ≤ 65535 := by omega
          obtain ⟨P, hP⟩ : ∃ P, vv n f k = P := ⟨_, rfl⟩
          obtain ⟨Q, hQ⟩ : ∃ Q, vv m g k = Q := ⟨_, rfl⟩
          obtain ⟨W, hW⟩ : ∃ W, worst n f m g k = W := ⟨_, rfl⟩
          obtain ⟨p0, p1⟩ : 0 ≤ P ∧ P ≤ 65535 := by rw [← hP]; exact vv_bd n f k hk65'
          obtain ⟨r0, r1⟩ : 0 ≤ Q ∧ Q ≤ 65535 := by rw [← hQ]; exact vv_bd m g k hk65'
          obtain ⟨s0, s1⟩ : 0 ≤ W ∧ W ≤ 65535 := by rw [← hW]; exact worst_bd n f m g k (by omega)
          have HW := Lib.hid (show worst n f m g (k + 1) = wstep W P Q by simp only [worst]; rw [hW, hP, hQ])
          rw [hW]
          rw [vv_t V] at hP
          rw [vv_t U] at hQ
          have HP := Lib.hid hP
          have HQ := Lib.hid hQ
          have hlt' := Lib.hid hlt
          have hk' := Lib.hid hk
          have d1 : decide ((k : Int) ≤ 65535) = true := decide_eq_true (by omega)
          clear hW hP hQ hlt hk hk65'
          by_cases h1 : W < P - Q
          · have h2 : ¬ P - Q < Q - P := by omega
            have HE := Lib.hid (wstep_a h1)
            go_wp2_with fail
            refine (value_is (of_vldB V) (hs.drawn hq) (by omega) hk65 HP.out).mono ?_
            rintro e w3 ⟨rfl, q3⟩
            replace hq := hq.trans q3
            clear q3
            go_wp2_with fail
            refine (value_is (of_vldB U) (ht.drawn hq) (by omega) hk65 HQ.out).mono ?_
            rintro e w3 ⟨rfl, q3⟩
            replace hq := hq.trans q3
            clear q3
            go_wp2
            go_roundw
            case rel => exact ⟨k + 1, hlt'.out, by go_num, by first | (rw [HW.out, HE.out]; done) | (rw [HW.out, HE.out]; simp), by first | exact hq | exact hq.on _⟩
            case measure =>
              have := hlt'.out
              first | (simp [intOf]; done) | (simp [intOf]; omega)
          · by_cases h2 : W < Q - P
            · have HE := Lib.hid (wstep_b h1 h2)
              go_wp2_with fail
              refine (value_is (of_vldB V) (hs.drawn hq) (by omega) hk65 HP.out).mono ?_
              rintro e w3 ⟨rfl, q3⟩
              replace hq := hq.trans q3
              clear q3
              go_wp2_with fail
              refine (value_is (of_vldB U) (ht.drawn hq) (by omega) hk65 HQ.out).mono ?_
              rintro e w3 ⟨rfl, q3⟩
              replace hq := hq.trans q3
              clear q3
              go_wp2
              go_roundw
              case rel => exact ⟨k + 1, hlt'.out, by go_num, by first | (rw [HW.out, HE.out]; done) | (rw [HW.out, HE.out]; simp), by first | exact hq | exact hq.on _⟩
              case measure =>
                have := hlt'.out
                first | (simp [intOf]; done) | (simp [intOf]; omega)
            · have HE := Lib.hid (wstep_c h1 h2)
              go_wp2_with fail
              refine (value_is (of_vldB V) (hs.drawn hq) (by omega) hk65 HP.out).mono ?_
              rintro e w3 ⟨rfl, q3⟩
              replace hq := hq.trans q3
              clear q3
              go_wp2_with fail
              refine (value_is (of_vldB U) (ht.drawn hq) (by omega) hk65 HQ.out).mono ?_
              rintro e w3 ⟨rfl, q3⟩
              replace hq := hq.trans q3
              clear q3
              go_wp2
              go_roundw
              case rel => exact ⟨k + 1, hlt'.out, by go_num, by first | (rw [HW.out, HE.out]; done) | (rw [HW.out, HE.out]; simp), by first | exact hq | exact hq.on _⟩
              case measure =>
                have := hlt'.out
                first | (simp [intOf]; done) | (simp [intOf]; omega)
        · obtain rfl : k = T := by omega
          have hT := HT.out
          subst hT
          go_wp2
          go_ret
          exact ⟨rfl, hq⟩

end Go.Proofs.Ytphcianmgpbjmaa
