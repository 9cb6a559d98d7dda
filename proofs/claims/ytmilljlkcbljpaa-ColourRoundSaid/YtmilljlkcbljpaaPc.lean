/- Plain words and laws of colours: clamping, the greatest share of the way from grey that stays in gamut. -/
import Derived.Test.YtmilljlkcbljpaaB
namespace Go.Proofs.Ytmilljlkcbljpaa
open Go.RowKit

/-- v, clamped to a to b. -/
def clm (a b v : Int) : Int := if v < a then a else if b < v then b else v
theorem clm_lo {a b v : Int} (h : v < a) : clm a b v = a := if_pos h
theorem clm_hi {a b v : Int} (h : ¬ v < a) (h' : b < v) : clm a b v = b := by unfold clm; rw [if_neg h, if_pos h']
theorem clm_in {a b v : Int} (h : a ≤ v) (h' : v ≤ b) : clm a b v = v := by unfold clm; rw [if_neg (by omega), if_neg (by omega)]
theorem clm_bd {a b : Int} (hab : a ≤ b) (v : Int) : a ≤ clm a b v ∧ clm a b v ≤ b := by unfold clm; split <;> (try split) <;> omega
theorem clm_clm {a b v : Int} (hab : a ≤ b) : clm a b (clm a b v) = clm a b v := clm_in (clm_bd hab v).1 (clm_bd hab v).2

/-- A colour, clamped to the gamut; to the range of arguments. -/
def gam (c : Nat → Int) (i : Nat) : Int := clm 0 65535 (c i)
def bnd (c : Nat → Int) (i : Nat) : Int := clm (-16777216) 16777216 (c i)

theorem mul_abs {a b A B : Int} (h0 : -A ≤ a) (h1 : a ≤ A) (h2 : 0 ≤ b) (h3 : b ≤ B) : -(A * B) ≤ a * b ∧ a * b ≤ A * B := by
  by_cases h : 0 ≤ a
  · have := mul_bd h h1 h2 h3
    omega
  · have := mul_bd (a := -a) (A := A) (by omega) (by omega) h2 h3
    rw [Int.neg_mul] at this
    omega

/-- In gamut. -/
def InG (c : Nat → Int) : Prop := ∀ i, i < 3 → 0 ≤ c i ∧ c i ≤ 65535
/-- In the range of arguments. -/
def InB (c : Nat → Int) : Prop := ∀ i, i < 3 → -16777216 ≤ c i ∧ c i ≤ 16777216
theorem InB.of (c : Nat → Int) : InB (bnd c) := fun i _ => clm_bd (by omega) (c i)
theorem InG.of (c : Nat → Int) : InG (gam c) := fun i _ => clm_bd (by omega) (c i)
theorem InG.gam {c : Nat → Int} (h : InG c) : ∀ i, i < 3 → gam c i = c i := fun i hi => clm_in (h i hi).1 (h i hi).2
theorem InG.inB {c : Nat → Int} (h : InG c) : InB c := fun i hi => by have := h i hi; omega
theorem InB.bnd {c : Nat → Int} (h : InB c) : ∀ i, i < 3 → bnd c i = c i := fun i hi => clm_in (h i hi).1 (h i hi).2

open Classical in
/-- Whether a colour is in gamut. -/
noncomputable def ingB (c : Nat → Int) : Bool := decide (InG c)
theorem ingB_t {c : Nat → Int} (h : InG c) : ingB c = true := by simp [ingB, h]
theorem ingB_f {c : Nat → Int} (h : ¬ InG c) : ingB c = false := by simp [ingB, h]
theorem of_ingB {c : Nat → Int} (h : ingB c = true) : InG c := by simpa [ingB] using h

/-- The grey of a colour. -/
def gry (c : Nat → Int) : Int := clm 0 65535 ((c 0 + c 1 + c 2 + 1) / 3)
theorem gry_bd (c : Nat → Int) : 0 ≤ gry c ∧ gry c ≤ 65535 := clm_bd (by omega) _

/-- The share that a channel allows: numerator and denominator. -/
def shN (g v : Int) : Int := if v < 0 then g else if 65535 < v then 65535 - g else 1
def shD (g v : Int) : Int := if v < 0 then g - v else if 65535 < v then v - g else 1

/-- The least share of the first k channels. -/
def minS (g : Int) (c : Nat → Int) : Nat → Int × Int
  | 0 => (1, 1)
  | k + 1 => if shN g (c k) * (minS g c k).2 < (minS g c k).1 * shD g (c k) then (shN g (c k), shD g (c k)) else minS g c k

theorem minS_lt {g : Int} {c : Nat → Int} {k : Nat} (h : shN g (c k) * (minS g c k).2 < (minS g c k).1 * shD g (c k)) : minS g c (k + 1) = (shN g (c k), shD g (c k)) := if_pos h
theorem minS_ge {g : Int} {c : Nat → Int} {k : Nat} (h : ¬ shN g (c k) * (minS g c k).2 < (minS g c k).1 * shD g (c k)) : minS g c (k + 1) = minS g c k := if_neg h

theorem sh_bd {g v : Int} (h0 : 0 ≤ g) (h1 : g ≤ 65535) (hv : -16777216 ≤ v) (hv' : v ≤ 16777216) :
    0 ≤ shN g v ∧ shN g v ≤ 65535 ∧ shN g v ≤ shD g v ∧ 1 ≤ shD g v ∧ shD g v ≤ 16842751 := by
  unfold shN shD
  by_cases a : v < 0
  · rw [if_pos a, if_pos a]; omega
  · by_cases b : 65535 < v
    · rw [if_neg a, if_neg a, if_pos b, if_pos b]; omega
    · rw [if_neg a, if_neg a, if_neg b, if_neg b]; omega

theorem minS_bd {g : Int} {c : Nat → Int} (h0 : 0 ≤ g) (h1 : g ≤ 65535) (hc : InB c) : ∀ k, k ≤ 3 →
    0 ≤ (minS g c k).1 ∧ (minS g c k).1 ≤ 65535 ∧ (minS g c k).1 ≤ (minS g c k).2 ∧ 1 ≤ (minS g c k).2 ∧ (minS g c k).2 ≤ 16842751
  | 0, _ => by simp [minS]
  | k + 1, hk => by
    have a := minS_bd h0 h1 hc k (by omega)
    have b := sh_bd h0 h1 (hc k (by omega)).1 (hc k (by omega)).2
    by_cases h : shN g (c k) * (minS g c k).2 < (minS g c k).1 * shD g (c k)
    · rw [minS_lt h]; exact b
    · rw [minS_ge h]; exact a

theorem minS_le {g : Int} {c : Nat → Int} (h0 : 0 ≤ g) (h1 : g ≤ 65535) (hc : InB c) : ∀ k, k ≤ 3 → ∀ j, j < k →
    (minS g c k).1 * shD g (c j) ≤ shN g (c j) * (minS g c k).2
  | 0, _, j, hj => by omega
  | k + 1, hk, j, hj => by
    have a := minS_bd h0 h1 hc k (by omega)
    have b := sh_bd h0 h1 (hc k (by omega)).1 (hc k (by omega)).2
    by_cases h : shN g (c k) * (minS g c k).2 < (minS g c k).1 * shD g (c k)
    · rw [minS_lt h]
      by_cases e : j = k
      · subst e; exact Int.le_refl _
      · have ih := minS_le h0 h1 hc k (by omega) j (by omega)
        have d := sh_bd h0 h1 (hc j (by omega)).1 (hc j (by omega)).2
        generalize (minS g c k).1 = n at *
        generalize (minS g c k).2 = m at *
        generalize shN g (c k) = n' at *
        generalize shD g (c k) = m' at *
        generalize shN g (c j) = p at *
        generalize shD g (c j) = q at *
        show n' * q ≤ p * m'
        refine Int.le_of_mul_le_mul_right (a := m) ?_ (show 0 < m by omega)
        have e1 : n' * m * q ≤ n * m' * q := Int.mul_le_mul_of_nonneg_right (by omega) (by omega)
        have e2 : n * q * m' ≤ p * m * m' := Int.mul_le_mul_of_nonneg_right ih (by omega)
        have e3 : n' * q * m = n' * m * q := Int.mul_right_comm _ _ _
        have e4 : n * m' * q = n * q * m' := Int.mul_right_comm _ _ _
        have e5 : p * m' * m = p * m * m' := Int.mul_right_comm _ _ _
        omega
    · rw [minS_ge h]
      by_cases e : j = k
      · subst e; omega
      · exact minS_le h0 h1 hc k (by omega) j (by omega)

/-- A share n / m of u, towards zero. -/
theorem share_pos {u n m t : Int} (hu : 0 ≤ u) (hn : 0 ≤ n) (hnm : n ≤ m) (hm : 1 ≤ m) : 0 ≤ (u * n).tdiv m ∧ (u * n).tdiv m ≤ u ∧ (u * n ≤ t * m → (u * n).tdiv m ≤ t) := by
  have h := Int.mul_nonneg hu hn
  rw [Int.tdiv_eq_ediv_of_nonneg h]
  refine ⟨Int.ediv_nonneg h (by omega), ?_, fun ht => ?_⟩
  · refine Int.ediv_le_of_le_mul (by omega) ?_
    exact Int.mul_le_mul_of_nonneg_left hnm hu
  · exact Int.ediv_le_of_le_mul (by omega) ht
theorem share_neg {u n m t : Int} (hu : u ≤ 0) (hn : 0 ≤ n) (hnm : n ≤ m) (hm : 1 ≤ m) : u ≤ (u * n).tdiv m ∧ (u * n).tdiv m ≤ 0 ∧ (-u * n ≤ t * m → -t ≤ (u * n).tdiv m) := by
  have h := share_pos (u := -u) (t := t) (by omega) hn hnm hm
  have e : (-u * n).tdiv m = - (u * n).tdiv m := by rw [Int.neg_mul, Int.neg_tdiv]
  rw [e] at h
  refine ⟨by omega, by omega, fun ht => by have := h.2.2 ht; omega⟩

/-- Clip, of a colour in the range of arguments. -/
def clpO (c : Nat → Int) (i : Nat) : Int := gry c + ((c i - gry c) * (minS (gry c) c 3).1).tdiv (minS (gry c) c 3).2

theorem clpO_is {c : Nat → Int} (hc : InB c) {i : Nat} (hi : i < 3) :
    0 ≤ clpO c i ∧ clpO c i ≤ 65535 ∧ min (gry c) (c i) ≤ clpO c i ∧ clpO c i ≤ max (gry c) (c i) := by
  have hg := gry_bd c
  have a := minS_bd hg.1 hg.2 hc 3 (by omega)
  have l := minS_le hg.1 hg.2 hc 3 (by omega) i hi
  have hci := hc i hi
  unfold clpO
  generalize (minS (gry c) c 3).1 = n at *
  generalize (minS (gry c) c 3).2 = m at *
  generalize gry c = g at *
  generalize c i = v at *
  unfold shN shD at l
  by_cases h : g ≤ v
  · obtain ⟨h1, h2, h3⟩ := share_pos (u := v - g) (t := 65535 - g) (by omega) a.1 a.2.2.1 a.2.2.2.1
    by_cases h4 : 65535 < v
    · simp only [show ¬ v < 0 by omega, h4, if_true, if_false] at l
      have := h3 (by rw [Int.mul_comm]; exact l)
      omega
    · omega
  · obtain ⟨h1, h2, h3⟩ := share_neg (u := v - g) (t := g) (by omega) a.1 a.2.2.1 a.2.2.2.1
    by_cases h4 : v < 0
    · simp only [h4, if_true] at l
      have := h3 (by rw [Int.mul_comm, show -(v - g) = g - v by omega]; exact l)
      omega
    · omega

open Classical in
/-- Clip. -/
noncomputable def clpV (c : Nat → Int) (i : Nat) : Int := if InG (bnd c) then bnd c i else clpO (bnd c) i
theorem clpV_in {c : Nat → Int} (h : InG (bnd c)) (i : Nat) : clpV c i = bnd c i := if_pos h
theorem clpV_out {c : Nat → Int} (h : ¬ InG (bnd c)) (i : Nat) : clpV c i = clpO (bnd c) i := if_neg h
theorem clpV_gam (c : Nat → Int) : InG (clpV c) := fun i hi => by
  by_cases h : InG (bnd c)
  · rw [clpV_in h]; exact h i hi
  · rw [clpV_out h]; have := clpO_is (InB.of c) hi; omega
theorem clpV_id {c : Nat → Int} (h : InG c) {i : Nat} (hi : i < 3) : clpV c i = c i := by
  have e := h.inB.bnd
  rw [clpV_in (fun j hj => by rw [e j hj]; exact h j hj), e i hi]
theorem bnd_congr {c : Nat → Int} (h : InB c) : (fun i => if i < 3 then bnd c i else c i) = c := by
  funext i
  by_cases hi : i < 3
  · rw [if_pos hi, h.bnd i hi]
  · rw [if_neg hi]

end Go.Proofs.Ytmilljlkcbljpaa
