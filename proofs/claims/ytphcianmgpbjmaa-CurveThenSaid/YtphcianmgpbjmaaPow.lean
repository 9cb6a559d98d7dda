/- Plain laws of gamma curves. -/
import Derived.Test.YtphcianmgpbjmaaRg2
namespace Go.Proofs.Ytphcianmgpbjmaa
open Go.RowKit

theorem fnd_found (p : Nat → Bool) : Found p (fnd p) := Classical.epsilon_spec (p := Found p) (found_ex p)

/-- A test that holds earlier finds an earlier place. -/
theorem fnd_le {p q : Nat → Bool} (hp : Stays p) (hq : Stays q) (h : ∀ y, p y = true → q y = true) : fnd q ≤ fnd p := by
  refine Nat.le_of_not_lt fun hlt => ?_
  obtain ⟨a1, a2, a3⟩ := (fnd_found p).all hp
  obtain ⟨b1, b2, b3⟩ := (fnd_found q).all hq
  have h1 := h _ (a3 (fnd p) (Nat.le_refl _) (by omega))
  rw [b2 _ hlt] at h1
  exact Bool.noConfusion h1

theorem fnd_is {p : Nat → Bool} (hp : Stays p) {r : Nat} (h : Found p r) : fnd p = r := (h.eq hp).symm

theorem gamV_zero {num den n : Nat} (h1 : 1 ≤ num) (hn : 2 ≤ n) : gamV num den n 0 = 0 := by
  unfold gamV
  rw [fnd_is (gamP_stays num den n 0) (r := 0) ⟨by omega, .inl rfl, .inr ?_⟩]
  · rfl
  · have : 0 < (0 + 1) ^ den * (n - 1) ^ num := Nat.mul_pos (Nat.pow_pos (by omega)) (Nat.pow_pos (by omega))
    simp only [gamP, Nat.zero_pow (show 0 < num by omega), Nat.mul_zero, decide_eq_true_eq]
    exact this

theorem gamV_top {num den n : Nat} : gamV num den n (n - 1) = 65535 := by
  unfold gamV
  rw [fnd_is (gamP_stays num den n (n - 1)) (r := 65535) ⟨by omega, .inr ?_, .inl rfl⟩]
  · rfl
  · simp [gamP]

theorem gamP_double (num den n i y : Nat) : gamP (2 * num) (2 * den) n i y = gamP num den n i y := by
  have e : ∀ a b c d : Nat, a ^ (2 * b) * c ^ (2 * d) = (a ^ b * c ^ d) * (a ^ b * c ^ d) := fun a b c d => by
    rw [Nat.two_mul, Nat.two_mul, Nat.pow_add, Nat.pow_add]
    simp only [Nat.mul_assoc, Nat.mul_comm, Nat.mul_left_comm]
  unfold gamP
  rw [e, e]
  exact decide_eq_decide.2 Nat.mul_self_lt_mul_self_iff
theorem gamV_double (num den n : Nat) : gamV (2 * num) (2 * den) n = gamV num den n := by
  funext i
  unfold gamV
  rw [show gamP (2 * num) (2 * den) n i = gamP num den n i from funext fun y => gamP_double num den n i y]

theorem gamV_num {num den n i : Nat} (hn : 2 ≤ n) (hi : i ≤ n - 1) : gamV (num + 1) den n i ≤ gamV num den n i := by
  unfold gamV
  refine Int.ofNat_le.2 (fnd_le (gamP_stays num den n i) (gamP_stays (num + 1) den n i) fun y h => ?_)
  simp only [gamP, decide_eq_true_eq] at h ⊢
  rw [Nat.pow_succ, Nat.pow_succ, ← Nat.mul_assoc, ← Nat.mul_assoc]
  exact Nat.lt_of_le_of_lt (Nat.mul_le_mul_left _ hi) (Nat.mul_lt_mul_of_pos_right h (by omega))

theorem gamV_mono {num den n i : Nat} : gamV num den n i ≤ gamV num den n (i + 1) := by
  unfold gamV
  refine Int.ofNat_le.2 (fnd_le (gamP_stays num den n (i + 1)) (gamP_stays num den n i) fun y h => ?_)
  simp only [gamP, decide_eq_true_eq] at h ⊢
  exact Nat.lt_of_le_of_lt (Nat.mul_le_mul_left _ (Nat.pow_le_pow_left (Nat.le_succ i) num)) h

theorem gamV_same {num n i : Nat} (h1 : 1 ≤ num) (hn : 2 ≤ n) (hi : i ≤ n - 1) : gamV num num n i = ((65535 * i / (n - 1) : Nat) : Int) := by
  have hm : 0 < n - 1 := by omega
  have key : ∀ y, gamP num num n i y = decide (65535 * i / (n - 1) ≤ y) := fun y => by
    unfold gamP
    refine decide_eq_decide.2 ?_
    rw [← Nat.mul_pow, ← Nat.mul_pow, Nat.pow_lt_pow_iff_left (by omega), ← Nat.div_lt_iff_lt_mul hm]
    omega
  have hle : 65535 * i / (n - 1) ≤ 65535 := Nat.div_le_of_le_mul (by rw [Nat.mul_comm (n - 1)]; exact Nat.mul_le_mul_left _ hi)
  unfold gamV
  generalize 65535 * i / (n - 1) = Z at *
  rw [fnd_is (gamP_stays num num n i) (r := Z) ⟨hle, ?_, ?_⟩]
  · by_cases h0 : Z = 0
    · exact .inl h0
    · exact .inr (by rw [key]; exact decide_eq_false (by omega))
  · exact .inr (by rw [key]; exact decide_eq_true (Nat.le_refl _))

theorem gamV_vld {num den n : Nat} (h1 : 1 ≤ num) (hn : 2 ≤ n) (hn' : n ≤ 257) : Vld n (gamV num den n) :=
  ⟨hn, hn', by rw [gamV_zero h1 hn]; omega, by rw [gamV_top]; omega, fun _ _ => gamV_mono⟩
theorem gamV_bd (num den n i : Nat) : 0 ≤ gamV num den n i ∧ gamV num den n i ≤ 65535 := by
  have := (fnd_found (gamP num den n i)).1
  unfold gamV
  omega

end Go.Proofs.Ytphcianmgpbjmaa
