/- Plain laws of looking up: the cell, the order of the axes, the weights. -/
import Derived.Test.YtmilljlkcbljpaaSt
namespace Go.Proofs.Ytmilljlkcbljpaa
open Go.RowKit

/-- The cell of a colour in a grid of N points a side, and how far it lies from there. -/
def lkA (N : Nat) (c : Nat → Int) (i : Nat) : Nat := min ((gam c i).toNat * (N - 1) / 65535) (N - 2)
def lkO (N : Nat) (c : Nat → Int) (i : Nat) : Int := gam c i * ((N : Int) - 1) - 65535 * (lkA N c i : Int)
theorem lk_bd {N : Nat} (hN : 2 ≤ N) (hN' : N ≤ 17) (c : Nat → Int) (i : Nat) : lkA N c i ≤ N - 2 ∧ 0 ≤ lkO N c i ∧ lkO N c i ≤ 65535 := by
  have hg : 0 ≤ gam c i ∧ gam c i ≤ 65535 := clm_bd (by omega) (c i)
  obtain ⟨v, hv⟩ := Int.eq_ofNat_of_zero_le hg.1
  obtain ⟨M, rfl⟩ : ∃ M, N = M + 1 := ⟨N - 1, by omega⟩
  have e : ((M + 1 : Nat) : Int) - 1 = (M : Int) := by omega
  unfold lkO lkA
  rw [hv, e, Int.toNat_natCast, Nat.add_sub_cancel, ← Int.natCast_mul]
  have hm : v * M ≤ 65535 * M := Nat.mul_le_mul_right M (by omega)
  generalize hp : v * M = p at *
  refine ⟨Nat.min_le_right _ _, ?_, ?_⟩
  · have : min (p / 65535) (M + 1 - 2) ≤ p / 65535 := Nat.min_le_left _ _
    omega
  · by_cases h : p / 65535 ≤ M + 1 - 2
    · rw [Nat.min_eq_left h]; omega
    · rw [Nat.min_eq_right (by omega)]; omega

/-- The order of the axes. -/
def axo (o : Nat → Int) : Nat → Nat := srt o (fun k => k) 3
theorem axo_cases (o : Nat → Int) : ∃ a b c, (axo o 0 = a ∧ axo o 1 = b ∧ axo o 2 = c) ∧ (o b ≤ o a ∧ o c ≤ o b) ∧ ((a = 0 ∧ b = 1 ∧ c = 2) ∨ (a = 0 ∧ b = 2 ∧ c = 1) ∨ (a = 1 ∧ b = 0 ∧ c = 2) ∨ (a = 1 ∧ b = 2 ∧ c = 0) ∨ (a = 2 ∧ b = 0 ∧ c = 1) ∨ (a = 2 ∧ b = 1 ∧ c = 0)) := by
  refine ⟨_, _, _, ⟨rfl, rfl, rfl⟩, ?_⟩
  unfold axo srt srt srt srt sft sft sft
  by_cases h1 : o 0 < o 1
  · by_cases h2 : o 0 < o 2
    · by_cases h3 : o 1 < o 2
      · simp [h1, h2, h3, swp, sft]; omega
      · simp [h1, h2, h3, swp, sft]; omega
    · simp [h1, h2, swp, sft]; omega
  · by_cases h2 : o 1 < o 2
    · by_cases h3 : o 0 < o 2
      · simp [h1, h2, h3, swp, sft]; omega
      · simp [h1, h2, h3, swp, sft]; omega
    · simp [h1, h2]; omega

theorem axo_lt (o : Nat → Int) {k : Nat} (hk : k < 3) : axo o k < 3 := by
  obtain ⟨a, b, c, ⟨ha, hb, hc⟩, _, h⟩ := axo_cases o
  obtain rfl | rfl | rfl : k = 0 ∨ k = 1 ∨ k = 2 := by omega
  · rw [ha]; omega
  · rw [hb]; omega
  · rw [hc]; omega

/-- What is left after k steps. -/
def lft (o : Nat → Int) : Nat → Int
  | 0 => 65535
  | k + 1 => o (axo o k)
theorem lft_bd {o : Nat → Int} (ho : ∀ i, i < 3 → 0 ≤ o i ∧ o i ≤ 65535) : ∀ k, k ≤ 3 → 0 ≤ lft o k ∧ lft o k ≤ 65535
  | 0, _ => by simp [lft]
  | k + 1, hk => ho _ (axo_lt o (by omega))
theorem lft_le {o : Nat → Int} (ho : ∀ i, i < 3 → 0 ≤ o i ∧ o i ≤ 65535) (k : Nat) (hk : k < 3) : lft o (k + 1) ≤ lft o k := by
  obtain ⟨a, b, c, ⟨ha, hb, hc⟩, h1, _⟩ := axo_cases o
  obtain rfl | rfl | rfl : k = 0 ∨ k = 1 ∨ k = 2 := by omega
  · exact (ho _ (axo_lt o (by omega))).2
  · show o (axo o 1) ≤ o (axo o 0); rw [ha, hb]; exact h1.1
  · show o (axo o 2) ≤ o (axo o 1); rw [hb, hc]; exact h1.2

/-- The corner after k steps. -/
def psn (A : Nat → Nat) (o : Nat → Int) : Nat → Nat → Nat
  | 0, i => A i
  | k + 1, i => if i = axo o k then psn A o k i + 1 else psn A o k i
theorem psn_le (A : Nat → Nat) (o : Nat → Int) (k i : Nat) (hk : k ≤ 3) : A i ≤ psn A o k i ∧ psn A o k i ≤ A i + 1 := by
  obtain ⟨a, b, c, ⟨ha, hb, hc⟩, _, h⟩ := axo_cases o
  have e1 : psn A o 1 i = if i = a then A i + 1 else A i := by simp only [psn, ha]
  have e2 : psn A o 2 i = if i = b then psn A o 1 i + 1 else psn A o 1 i := by simp only [psn, hb]
  have e3 : psn A o 3 i = if i = c then psn A o 2 i + 1 else psn A o 2 i := by simp only [psn, hc]
  obtain rfl | rfl | rfl | rfl : k = 0 ∨ k = 1 ∨ k = 2 ∨ k = 3 := by omega
  · exact ⟨Nat.le_refl _, Nat.le_succ _⟩
  · rw [e1]; split <;> omega
  · rw [e2, e1]; split <;> split <;> omega
  · rw [e3, e2, e1]; split <;> split <;> split <;> omega

/-- The number of a corner. -/
def ixN (N : Nat) (p : Nat → Nat) : Nat := (p 0 * N + p 1) * N + p 2
theorem ixN_lt {N : Nat} {p : Nat → Nat} (h : ∀ i, i < 3 → p i ≤ N - 1) (hN : 1 ≤ N) : ixN N p < N * N * N := by
  have h0 := h 0 (by omega)
  have h1 := h 1 (by omega)
  have h2 := h 2 (by omega)
  unfold ixN
  have a : p 0 * N + p 1 ≤ N * N - 1 := by
    have : p 0 * N ≤ (N - 1) * N := Nat.mul_le_mul_right N h0
    rw [Nat.sub_mul, Nat.one_mul] at this
    have : N ≤ N * N := Nat.le_mul_self N
    omega
  have b : (p 0 * N + p 1) * N ≤ (N * N - 1) * N := Nat.mul_le_mul_right N a
  rw [Nat.sub_mul, Nat.one_mul] at b
  have : N ≤ N * N * N := Nat.le_trans (Nat.le_mul_self N) (Nat.le_mul_of_pos_right _ (by omega))
  omega

/-- The sum after k steps. -/
def smV (N : Nat) (A : Nat → Nat) (o : Nat → Int) (g : Nat → Nat → Int) : Nat → Nat → Int
  | 0, _ => 0
  | k + 1, i => smV N A o g k i + (lft o k - o (axo o k)) * g (ixN N (psn A o k)) i
def lkS (N : Nat) (g : Nat → Nat → Int) (c : Nat → Int) (i : Nat) : Int :=
  smV N (lkA N c) (lkO N c) g 3 i + lft (lkO N c) 3 * g (ixN N (psn (lkA N c) (lkO N c) 3)) i
/-- What Look returns. -/
def lkV (N : Nat) (g : Nat → Nat → Int) (c : Nat → Int) (i : Nat) : Int := (lkS N g c i + 32767) / 65535

theorem smV_bd {N : Nat} {A : Nat → Nat} {o : Nat → Int} {g : Nat → Nat → Int} (hN : 2 ≤ N) (hA : ∀ i, i < 3 → A i ≤ N - 2) (ho : ∀ i, i < 3 → 0 ≤ o i ∧ o i ≤ 65535) (hg : ∀ j, j < N * N * N → InG (g j)) {i : Nat} (hi : i < 3) :
    ∀ k, k ≤ 3 → 0 ≤ smV N A o g k i ∧ smV N A o g k i ≤ (65535 - lft o k) * 65535
  | 0, _ => by simp [smV, lft]
  | k + 1, hk => by
    have ih := smV_bd hN hA ho hg hi k (by omega)
    have hl := lft_le ho k (by omega)
    have hix : ixN N (psn A o k) < N * N * N := ixN_lt (fun i hi => by have := psn_le A o k i (by omega); have := hA i hi; omega) (by omega)
    have hgi := hg _ hix i hi
    have hw : lft o (k + 1) = o (axo o k) := rfl
    rw [hw] at hl ⊢
    obtain ⟨p1, p2⟩ := mul_bd (a := lft o k - o (axo o k)) (A := lft o k - o (axo o k)) (by omega) (Int.le_refl _) hgi.1 hgi.2
    have e : (65535 - o (axo o k)) * 65535 = (65535 - lft o k) * 65535 + (lft o k - o (axo o k)) * 65535 := by rw [← Int.add_mul]; congr 1; omega
    show 0 ≤ smV N A o g k i + _ ∧ smV N A o g k i + _ ≤ _
    rw [e]
    omega
theorem lkS_bd {N n : Nat} {g : Nat → Nat → Int} (hG : GrV N n g) (c : Nat → Int) {i : Nat} (hi : i < 3) : 0 ≤ lkS N g c i ∧ lkS N g c i ≤ 4294836225 := by
  obtain ⟨hN, hN', rfl, hg⟩ := hG
  have h1 := smV_bd hN (fun i _ => (lk_bd hN hN' c i).1) (fun i _ => (lk_bd hN hN' c i).2) hg hi 3 (by omega)
  have h2 := lft_bd (fun i _ => (lk_bd hN hN' c i).2) 3 (by omega)
  have hix : ixN N (psn (lkA N c) (lkO N c) 3) < N * N * N := ixN_lt (fun i hi => by have := psn_le (lkA N c) (lkO N c) 3 i (by omega); have := (lk_bd hN hN' c i).1; omega) (by omega)
  have hgi := hg _ hix i hi
  obtain ⟨p1, p2⟩ := mul_bd (a := lft (lkO N c) 3) (A := lft (lkO N c) 3) h2.1 (Int.le_refl _) hgi.1 hgi.2
  have e : (65535 - lft (lkO N c) 3) * 65535 = 4294836225 - lft (lkO N c) 3 * 65535 := by rw [Int.sub_mul]; rfl
  rw [e] at h1
  unfold lkS
  omega

end Go.Proofs.Ytmilljlkcbljpaa
