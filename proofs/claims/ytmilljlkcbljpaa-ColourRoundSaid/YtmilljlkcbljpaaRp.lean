/- Plain laws of ColourRound: a colour goes to the reference space and back. -/
import Derived.Test.YtmilljlkcbljpaaXa
import Derived.Test.YtmilljlkcbljpaaRu
namespace Go.Proofs.Ytmilljlkcbljpaa
open Go.RowKit Go.Sort

/-- The shares of a colour that is hardly out of gamut. -/
theorem minS_near {g : Int} {c : Nat → Int} (hc : ∀ i, i < 3 → 0 ≤ c i ∧ c i ≤ 65536) : ∀ k, k ≤ 3 → minS g c k = (1, 1) ∨ minS g c k = (65535 - g, 65536 - g)
  | 0, _ => .inl rfl
  | k + 1, hk => by
    have ih := minS_near (g := g) hc k (by omega)
    have hk' := hc k (by omega)
    by_cases h : shN g (c k) * (minS g c k).2 < (minS g c k).1 * shD g (c k)
    · rw [minS_lt h]
      unfold shN shD
      by_cases h2 : 65535 < c k
      · right
        rw [if_neg (by omega), if_pos h2, if_neg (by omega), if_pos h2]
        rw [show c k = 65536 by omega]
      · left
        rw [if_neg (by omega), if_neg h2, if_neg (by omega), if_neg h2]
    · rw [minS_ge h]; exact ih

theorem tdiv_near {u M : Int} (hM : 1 ≤ M) (h1 : u ≤ 3 * M) (h2 : -(3 * M) ≤ u) : u - 3 ≤ (u * (M - 1)).tdiv M ∧ (u * (M - 1)).tdiv M ≤ u + 3 := by
  have key : ∀ x : Int, 0 ≤ x → x ≤ 3 * M → x - 3 ≤ (x * (M - 1)).tdiv M ∧ (x * (M - 1)).tdiv M ≤ x := fun x h0 h3 => by
    have hnn : 0 ≤ x * (M - 1) := Int.mul_nonneg h0 (by omega)
    rw [Int.tdiv_eq_ediv_of_nonneg hnn]
    have e : x * (M - 1) = x * M - x := by rw [Int.mul_sub]; omega
    refine ⟨?_, ?_⟩
    · refine Int.le_ediv_of_mul_le (by omega) ?_
      rw [e, Int.sub_mul]
      omega
    · refine Int.ediv_le_of_le_mul (by omega) ?_
      rw [e]
      omega
  by_cases h : 0 ≤ u
  · have := key u h h1; omega
  · have := key (-u) (by omega) (by omega)
    rw [Int.neg_mul, Int.neg_tdiv] at this
    omega

theorem clp_near {z : Nat → Int} (hz : ∀ i, i < 3 → 0 ≤ z i ∧ z i ≤ 65536) {i : Nat} (hi : i < 3) : z i - 3 ≤ clpV z i ∧ clpV z i ≤ z i + 3 := by
  have hB : InB z := fun i hi => by have := hz i hi; omega
  have hb : ∀ i, i < 3 → bnd z i = z i := hB.bnd
  by_cases h : InG (bnd z)
  · rw [clpV_in h, hb i hi]; omega
  · rw [clpV_out h]
    have hz' : ∀ i, i < 3 → 0 ≤ bnd z i ∧ bnd z i ≤ 65536 := fun i hi => by rw [hb i hi]; exact hz i hi
    have hg := gry_bd (bnd z)
    have hg3 : 3 * gry (bnd z) ≤ z 0 + z 1 + z 2 + 1 := by
      have h0 := hz 0 (by omega)
      have h1 := hz 1 (by omega)
      have h2 := hz 2 (by omega)
      unfold gry
      rw [hb 0 (by omega), hb 1 (by omega), hb 2 (by omega)]
      unfold clm
      split <;> (try split) <;> omega
    unfold clpO
    rw [hb i hi]
    rcases minS_near (g := gry (bnd z)) hz' 3 (by omega) with e | e
    · rw [e]
      show z i - 3 ≤ gry (bnd z) + ((z i - gry (bnd z)) * 1).tdiv 1 ∧ _
      rw [Int.mul_one, Int.tdiv_one]
      omega
    · rw [e]
      have h0 := hz 0 (by omega)
      have h1 := hz 1 (by omega)
      have h2 := hz 2 (by omega)
      have hzi := hz i hi
      have hsum : z 0 + z 1 + z 2 ≤ z i + 131072 := by
        obtain rfl | rfl | rfl : i = 0 ∨ i = 1 ∨ i = 2 := by omega
        all_goals omega
      generalize gry (bnd z) = g at *
      have := tdiv_near (u := z i - g) (M := 65536 - g) (by omega) (by omega) (by omega)
      rw [show 65536 - g - 1 = 65535 - g by omega] at this
      show z i - 3 ≤ g + ((z i - g) * (65535 - g)).tdiv (65536 - g) ∧ g + ((z i - g) * (65535 - g)).tdiv (65536 - g) ≤ z i + 3
      omega

/-- Steps of a curve. -/
theorem rawV_up1 {f : Nat → Int} {t : Nat} (h : f (t / 65535 + 1) ≤ f (t / 65535) + 65535) : rawV f (t + 1) ≤ rawV f t + 65535 := by
  by_cases hb : t % 65535 + 1 < 65535
  · have e1 : (t + 1) / 65535 = t / 65535 := by omega
    have e2 : (t + 1) % 65535 = t % 65535 + 1 := by omega
    unfold rawV
    rw [e1, e2]
    generalize f (t / 65535) = a at *
    generalize f (t / 65535 + 1) = b at *
    generalize t % 65535 = r at *
    have p1 := Int.mul_sub a 65535 ((r : Nat) : Int)
    have p2 := Int.mul_sub a 65535 ((r + 1 : Nat) : Int)
    have p3 : a * ((r + 1 : Nat) : Int) = a * (r : Int) + a := by rw [Int.natCast_add, Int.mul_add]; simp
    have p4 : b * ((r + 1 : Nat) : Int) = b * (r : Int) + b := by rw [Int.natCast_add, Int.mul_add]; simp
    omega
  · have e : t + 1 = (t / 65535 + 1) * 65535 := by omega
    have e2 : t % 65535 = 65534 := by omega
    rw [e, rawV_at]
    unfold rawV
    rw [e2]
    generalize f (t / 65535) = a at *
    generalize f (t / 65535 + 1) = b at *
    show b * 65535 ≤ a * (65535 - ((65534 : Nat) : Int)) + b * ((65534 : Nat) : Int) + 65535
    omega
theorem rawV_up {f : Nat → Int} {m : Nat} (hf : ∀ k, k < m → f (k + 1) ≤ f k + 65535) : ∀ (d t : Nat), t + d ≤ m * 65535 → rawV f (t + d) ≤ rawV f t + d * 65535
  | 0, t, _ => by simp
  | d + 1, t, h => by
    have h1 := rawV_up hf d t (by omega)
    have h2 := rawV_up1 (f := f) (t := t + d) (hf _ (by omega))
    rw [show t + (d + 1) = t + d + 1 by omega]
    have : ((d + 1 : Nat) : Int) * 65535 = (d : Int) * 65535 + 65535 := by rw [Int.natCast_add, Int.add_mul]; simp
    omega
theorem atV_step {n : Nat} {f : Nat → Int} (h : Vld n f) (hn : n ≤ 5) {x : Nat} (hx : x + 1 ≤ 65535) : atV f (n - 1) ((x + 1 : Nat) : Int) ≤ atV f (n - 1) (x : Int) + 5 := by
  rw [atV_raw hx, atV_raw (show x ≤ 65535 by omega)]
  have hm : (n - 1) * (x + 1) ≤ (n - 1) * 65535 := Nat.mul_le_mul_left _ hx
  have e : (n - 1) * (x + 1) = (n - 1) * x + (n - 1) := by rw [Nat.mul_add, Nat.mul_one]
  have := rawV_up (f := f) (m := n - 1) (fun k hk => by have a := h.bd k (by omega); have b := h.bd (k + 1) (by omega); omega) (n - 1) ((n - 1) * x) (by omega)
  rw [e]
  have h4 : (n - 1) ≤ 4 := by omega
  generalize rawV f ((n - 1) * x + (n - 1)) = a at *
  generalize rawV f ((n - 1) * x) = b at *
  omega

/-- There and back along a curve. -/
theorem back_near {n : Nat} {f : Nat → Int} (h : Vld n f) (hn : n ≤ 5) {c y : Int} (h0 : 0 ≤ c) (h1 : c ≤ 65535) (hy : AtV n f c - 3 ≤ y) (hy' : y ≤ AtV n f c + 4) :
    AtV n f c - AtV n f (solV n f y) ≤ 2048 ∧ -2048 ≤ AtV n f c - AtV n f (solV n f y) := by
  rw [AtV_yes h, clp_in h0 h1] at *
  obtain ⟨x, rfl⟩ := Int.eq_ofNat_of_zero_le h0
  by_cases hk : y ≤ f (n - 1)
  · obtain ⟨s1, s2, s3⟩ := slv_is h hk
    have e : solV n f y = (slv n f y : Nat) := by rw [solV_t (slvOk_t ⟨h, hk⟩)]; unfold slvX; rw [slvOk_t ⟨h, hk⟩]; rfl
    rw [e]
    generalize slv n f y = X at *
    rw [AtV_yes h, clp_in (by omega) (by omega)]
    refine ⟨by omega, ?_⟩
    by_cases hX : X = 0
    · subst hX
      have := atV_mono_nat h (Nat.zero_le x) (by omega)
      omega
    · have a := s3 (X - 1) (by omega)
      have b := atV_step h hn (x := X - 1) (by omega)
      rw [show X - 1 + 1 = X by omega] at b
      omega
  · have e : solV n f y = 65535 := solV_f (slvOk_f fun hh => hk hh.2)
    rw [e, AtV_yes h, clp_in (by omega) (by omega), atV_top]
    have := (atV_bd h (x := (x : Int)) (by omega) h1).2
    omega

/-- Both matrices. -/
theorem mats_near {r : Nat} (hr : r < 4) {l : Nat → Int} (hl : ∀ i, i < 3 → 0 ≤ l i ∧ l i ≤ 65535) {i : Nat} (hi : i < 3) :
    (-16777216 ≤ apV (spT r) l i ∧ apV (spT r) l i ≤ 16777216) ∧ l i ≤ apV (spF r) (apV (spT r) l) i ∧ apV (spF r) (apV (spT r) l) i ≤ l i + 1 := by
  have h0 := hl 0 (by omega)
  have h1 := hl 1 (by omega)
  have h2 := hl 2 (by omega)
  obtain rfl | rfl | rfl | rfl : r = 0 ∨ r = 1 ∨ r = 2 ∨ r = 3 := by omega
  all_goals
    obtain rfl | rfl | rfl : i = 0 ∨ i = 1 ∨ i = 2 := by omega
    all_goals
      simp [apV, spT, spF]
      omega

theorem apV_congr (m : Nat → Int) {c d : Nat → Int} (h : ∀ i, i < 3 → c i = d i) (i : Nat) : apV m c i = apV m d i := by
  unfold apV; rw [h 0 (by omega), h 1 (by omega), h 2 (by omega)]
theorem clpV_congr {c d : Nat → Int} (h : ∀ i, c i = d i) (i : Nat) : clpV c i = clpV d i := by rw [show c = d from funext h]

theorem cvN_5 {r : Nat} (hr : r < 4) : cvN r ≤ 5 := by
  obtain rfl | rfl | rfl | rfl : r = 0 ∨ r = 1 ∨ r = 2 ∨ r = 3 := by omega
  all_goals decide

/-- From a space to itself. -/
theorem round_near {r : Nat} {k : Nat → Nat} (hr : r < 4) (hk : ∀ i, k i < 4) {c : Nat → Int} (hc : InG c) {i : Nat} (hi : i < 3) :
    AtV (cvN (k i)) (cvF (k i)) (c i) - AtV (cvN (k i)) (cvF (k i)) (fromV (fun i => cvN (k i)) (fun i => cvF (k i)) (spF r) (toV (fun i => cvN (k i)) (fun i => cvF (k i)) (spT r) c) i) ≤ 2048 ∧
    -2048 ≤ AtV (cvN (k i)) (cvF (k i)) (c i) - AtV (cvN (k i)) (cvF (k i)) (fromV (fun i => cvN (k i)) (fun i => cvF (k i)) (spF r) (toV (fun i => cvN (k i)) (fun i => cvF (k i)) (spT r) c) i) := by
  obtain ⟨l, hl⟩ : ∃ l : Nat → Int, l = fun i => AtV (cvN (k i)) (cvF (k i)) (c i) := ⟨_, rfl⟩
  have hl01 : ∀ i, i < 3 → 0 ≤ l i ∧ l i ≤ 65535 := fun i _ => by rw [hl]; exact AtV_range _
  have ey : ∀ i, toV (fun i => cvN (k i)) (fun i => cvF (k i)) (spT r) c i = apV (spT r) l i := fun i => by
    unfold toV
    exact apV_congr _ (fun j hj => by rw [hl, hc.inB.bnd j hj]) i
  have ez : ∀ i, apV (spF r) (bnd (toV (fun i => cvN (k i)) (fun i => cvF (k i)) (spT r) c)) i = apV (spF r) (apV (spT r) l) i := fun i =>
    apV_congr _ (fun j hj => by unfold bnd; rw [ey j, clm_in (mats_near hr hl01 hj).1.1 (mats_near hr hl01 hj).1.2]) i
  have hz : ∀ i, i < 3 → 0 ≤ apV (spF r) (apV (spT r) l) i ∧ apV (spF r) (apV (spT r) l) i ≤ 65536 := fun i hi => by
    have := (mats_near hr hl01 hi).2; have := hl01 i hi; omega
  have hn := clp_near hz hi
  have hm := (mats_near hr hl01 hi).2
  unfold fromV
  rw [clpV_congr ez i]
  have hli : AtV (cvN (k i)) (cvF (k i)) (c i) = l i := by rw [hl]
  exact back_near (cv_vld (hk i)) (cvN_5 (hk i)) (hc i hi).1 (hc i hi).2 (by rw [hli]; omega) (by rw [hli]; omega)

theorem solV_gam {n : Nat} {f : Nat → Int} (y : Int) : 0 ≤ solV n f y ∧ solV n f y ≤ 65535 := by
  cases h : slvOk n f y with
  | false => rw [solV_f h]; omega
  | true =>
    rw [solV_t h]
    unfold slvX
    rw [h]
    have h' : Vld n f ∧ y ≤ f (n - 1) := by simpa [slvOk] using h
    have := (slv_is h'.1 h'.2).1
    show 0 ≤ ((slv n f y : Nat) : Int) ∧ ((slv n f y : Nat) : Int) ≤ 65535
    omega
theorem FromV_gam {n : Nat → Nat} {f : Nat → Nat → Int} {t m c : Nat → Int} : InG (FromV n f t m c) := fun i _ => by
  unfold FromV
  cases spB n f t m with
  | true => exact solV_gam _
  | false => show (0 : Int) ≤ 0 ∧ (0 : Int) ≤ 65535; omega

end Go.Proofs.Ytmilljlkcbljpaa
