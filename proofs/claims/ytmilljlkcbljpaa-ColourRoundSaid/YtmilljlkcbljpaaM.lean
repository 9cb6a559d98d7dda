/- Plain laws of curves: At is monotone, its values lie between those of the neighbouring points. -/
import Derived.Test.YtmilljlkcbljpaaB
namespace Go.Proofs.Ytmilljlkcbljpaa
open Go.RowKit

/-- 65535 times the value, before rounding, at the place t = m x. -/
def rawV (f : Nat → Int) (t : Nat) : Int := f (t / 65535) * (65535 - (t % 65535 : Nat)) + f (t / 65535 + 1) * (t % 65535 : Nat)

theorem rawV_low {f : Nat → Int} {t : Nat} (h : f (t / 65535) ≤ f (t / 65535 + 1)) : f (t / 65535) * 65535 ≤ rawV f t := by
  unfold rawV
  have h1 := Int.mul_le_mul_of_nonneg_right h (show (0 : Int) ≤ (t % 65535 : Nat) by omega)
  have h2 := Int.mul_sub (f (t / 65535)) 65535 ((t % 65535 : Nat) : Int)
  omega
theorem rawV_high {f : Nat → Int} {t : Nat} (h : f (t / 65535) ≤ f (t / 65535 + 1)) : rawV f t ≤ f (t / 65535 + 1) * 65535 := by
  unfold rawV
  have h3 := Int.mul_le_mul_of_nonneg_right h (show (0 : Int) ≤ 65535 - (t % 65535 : Nat) by omega)
  have h2 := Int.mul_sub (f (t / 65535 + 1)) 65535 ((t % 65535 : Nat) : Int)
  omega
theorem rawV_at {f : Nat → Int} (i : Nat) : rawV f (i * 65535) = f i * 65535 := by
  unfold rawV
  rw [Nat.mul_div_cancel _ (by omega), Nat.mul_mod_left]
  simp

theorem rawV_step {f : Nat → Int} {t : Nat} (h : f (t / 65535) ≤ f (t / 65535 + 1)) : rawV f t ≤ rawV f (t + 1) := by
  by_cases hb : t % 65535 + 1 < 65535
  · have e1 : (t + 1) / 65535 = t / 65535 := by omega
    have e2 : (t + 1) % 65535 = t % 65535 + 1 := by omega
    unfold rawV
    rw [e1, e2]
    generalize f (t / 65535) = a at *
    generalize f (t / 65535 + 1) = b at *
    generalize t % 65535 = r at *
    have p1 := Int.mul_sub a 65535 ((r : Nat) : Int)
    have p2 := Int.mul_sub a 65535 ((r + 1 : Nat) : Int)
    have p3 : a * ((r + 1 : Nat) : Int) = a * (r : Int) + a := by rw [Int.natCast_add, Int.mul_add]; simp
    have p4 : b * ((r + 1 : Nat) : Int) = b * (r : Int) + b := by rw [Int.natCast_add, Int.mul_add]; simp
    omega
  · have e : t + 1 = (t / 65535 + 1) * 65535 := by omega
    rw [e, rawV_at]
    exact rawV_high h

theorem rawV_mono {f : Nat → Int} {m : Nat} (hf : ∀ k, k < m → f k ≤ f (k + 1)) : ∀ (d t : Nat), t + d ≤ m * 65535 → rawV f t ≤ rawV f (t + d)
  | 0, _, _ => Int.le_refl _
  | d + 1, t, h => Int.le_trans (rawV_mono hf d t (by omega)) (rawV_step (hf _ (by omega)))

theorem atV_raw {f : Nat → Int} {m x : Nat} (hx : x ≤ 65535) : atV f m x = (rawV f (m * x) + 32767) / 65535 := by
  have hmx : m * x ≤ m * 65535 := Nat.mul_le_mul_left m hx
  have hc : (m : Int) * (x : Int) = ((m * x : Nat) : Int) := (Int.natCast_mul m x).symm
  by_cases he : m * x / 65535 = m
  · have h1 : (m : Int) * (x : Int) / 65535 = (m : Int) := by rw [hc]; omega
    have h2 : m * x = m * 65535 := by omega
    rw [atV_end h1, h2, rawV_at]
    omega
  · have h1 : (m : Int) * (x : Int) / 65535 = ((m * x / 65535 : Nat) : Int) := by rw [hc]; omega
    have h2 : (m : Int) * (x : Int) % 65535 = ((m * x % 65535 : Nat) : Int) := by rw [hc]; omega
    rw [atV_mid h1 h2 he]
    rfl

theorem Vld.step {n : Nat} {f : Nat → Int} (h : Vld n f) (k : Nat) (hk : k < n - 1) : f k ≤ f (k + 1) := h.2.2.2.2 k (by omega)

theorem atV_mono_nat {n : Nat} {f : Nat → Int} (h : Vld n f) {x y : Nat} (hxy : x ≤ y) (hy : y ≤ 65535) : atV f (n - 1) x ≤ atV f (n - 1) y := by
  rw [atV_raw (by omega), atV_raw hy]
  have hm : (n - 1) * x ≤ (n - 1) * y := Nat.mul_le_mul_left _ hxy
  have hm' : (n - 1) * y ≤ (n - 1) * 65535 := Nat.mul_le_mul_left _ hy
  have := rawV_mono (fun k hk => h.step k hk) ((n - 1) * y - (n - 1) * x) ((n - 1) * x) (by omega)
  rw [show (n - 1) * x + ((n - 1) * y - (n - 1) * x) = (n - 1) * y from by omega] at this
  omega
theorem atV_mono {n : Nat} {f : Nat → Int} (h : Vld n f) {x y : Int} (h0 : 0 ≤ x) (hxy : x ≤ y) (hy : y ≤ 65535) : atV f (n - 1) x ≤ atV f (n - 1) y := by
  obtain ⟨a, rfl⟩ := Int.eq_ofNat_of_zero_le h0
  obtain ⟨b, rfl⟩ := Int.eq_ofNat_of_zero_le (show 0 ≤ y by omega)
  exact atV_mono_nat h (by omega) (by omega)

theorem atV_zero {n : Nat} {f : Nat → Int} : atV f (n - 1) 0 = f 0 := by
  have := atV_raw (f := f) (m := n - 1) (x := 0) (by omega)
  rw [show ((0 : Nat) : Int) = 0 from rfl] at this
  rw [this, Nat.mul_zero]
  have := rawV_at (f := f) 0
  rw [Nat.zero_mul] at this
  rw [this]
  omega
theorem atV_top {n : Nat} {f : Nat → Int} : atV f (n - 1) 65535 = f (n - 1) := by
  have := atV_raw (f := f) (m := n - 1) (x := 65535) (by omega)
  rw [show ((65535 : Nat) : Int) = 65535 from rfl] at this
  rw [this, rawV_at]
  omega
theorem atV_bd {n : Nat} {f : Nat → Int} (h : Vld n f) {x : Int} (h0 : 0 ≤ x) (h1 : x ≤ 65535) : f 0 ≤ atV f (n - 1) x ∧ atV f (n - 1) x ≤ f (n - 1) :=
  ⟨by have := atV_mono h (Int.le_refl 0) h0 h1; rw [atV_zero] at this; exact this,
   by have := atV_mono h h0 h1 (Int.le_refl _); rw [atV_top] at this; exact this⟩
theorem atV_range {n : Nat} {f : Nat → Int} (h : Vld n f) {x : Int} (h0 : 0 ≤ x) (h1 : x ≤ 65535) : 0 ≤ atV f (n - 1) x ∧ atV f (n - 1) x ≤ 65535 := by
  have a := atV_bd h h0 h1
  have b := h.bd 0 (by have := h.1; omega)
  have c := h.bd (n - 1) (by have := h.1; omega)
  omega

/-- Between the neighbouring points. -/
theorem atV_between {n : Nat} {f : Nat → Int} (h : Vld n f) {x : Nat} (h1 : x ≤ 65535) :
    f ((n - 1) * x / 65535) ≤ atV f (n - 1) x ∧ atV f (n - 1) x ≤ f (min ((n - 1) * x / 65535 + 1) (n - 1)) := by
  rw [atV_raw h1]
  have hm' : (n - 1) * x ≤ (n - 1) * 65535 := Nat.mul_le_mul_left _ h1
  by_cases he : (n - 1) * x / 65535 = n - 1
  · have h2 : (n - 1) * x = (n - 1) * 65535 := by omega
    rw [h2, rawV_at, Nat.mul_div_cancel _ (by omega), Nat.min_eq_right (by omega)]
    omega
  · have hs := h.step ((n - 1) * x / 65535) (by omega)
    have a := rawV_low hs
    have b := rawV_high hs
    rw [Nat.min_eq_left (by omega)]
    omega

/-- The same, said of the place as an integer. -/
theorem mono_place {N : Nat} {X : Int} (h0 : 0 ≤ X) (h1 : X ≤ 65535) : ∃ i : Nat, (N : Int) * X / 65535 = (i : Int) ∧ i ≤ N ∧ i = N * X.toNat / 65535 := by
  obtain ⟨x, rfl⟩ := Int.eq_ofNat_of_zero_le h0
  have h2 : N * x ≤ N * 65535 := Nat.mul_le_mul_left N (by omega)
  refine ⟨N * x / 65535, ?_, by omega, by simp⟩
  rw [← Int.natCast_mul]
  omega

theorem between_place {N : Nat} {F : Nat → Int} {X : Int} (h : Vld (N + 1) F) (h0 : 0 ≤ X) (h1 : X ≤ 65535) :
    ∃ i : Nat, (N : Int) * X / 65535 = (i : Int) ∧ i ≤ N ∧ F i ≤ atV F N X ∧ atV F N X ≤ F (min (i + 1) N) := by
  obtain ⟨i, hi, hiN, hix⟩ := mono_place (N := N) h0 h1
  have hb := atV_between h (x := X.toNat) (by omega)
  rw [Int.toNat_of_nonneg h0] at hb
  refine ⟨i, hi, hiN, ?_⟩
  rw [hix]
  exact hb

end Go.Proofs.Ytmilljlkcbljpaa
