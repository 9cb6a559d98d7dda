/- Texts of this proof, one behind another: B M A C D E Sv Ce Pc Rg F L. -/
import Derived.WalkKit
import Derived.WalkSpells
import Derived.WalkLawsBesides
import Derived.Lib.Hide
import Derived.Test.YtmilljlkcbljpaaRows
import Derived.Deep.QuietTactic
import Derived.BigQuiet
import Derived.OneCell
import Derived.OrdersIn
import Derived.OwnWalkIn
import Derived.RangeFuncBox
import Derived.RangeFuncNested
import Derived.RangeFuncBound
import Derived.RangeFuncCalls
import Derived.RangeFuncLeaves
import Derived.Shelf.Abstract
import Derived.Shelf.RegionOpen
import Derived.TacticsInMore
import Derived.LoopNIn
import Derived.LoopIn
import Derived.Maps.AppendAt
/- Slices of integers as the walks speak of them, and the plain words of a curve: nothing of the program is used here. -/
namespace Go.Proofs.Ytmilljlkcbljpaa
open Go.RowKit

theorem ret_int {k : IntKind} {a b : Int} (h : a = b) : Ending.returned (.int k a) = .returned (.int k b) := by rw [h]
theorem ret_bool {a b : Bool} (h : a = b) : Ending.returned (.bool a) = .returned (.bool b) := by rw [h]

/-- w' is w after some draws. -/
def Drawn (w w' : World) : Prop := ∃ n, w' = w.drewN n
theorem Drawn.of {w : World} (n : Nat) : Drawn w (w.drewN n) := ⟨n, rfl⟩
theorem Drawn.refl (w : World) : Drawn w w := ⟨0, rfl⟩
theorem Drawn.trans {a b c : World} (h : Drawn a b) (k : Drawn b c) : Drawn a c := by
  obtain ⟨n, rfl⟩ := h; obtain ⟨m, rfl⟩ := k; exact ⟨n + m, World.drewN_drewN _ _ _⟩
theorem Drawn.on {a b : World} (h : Drawn a b) (n : Nat) : Drawn a (b.drewN n) := h.trans (.of n)
theorem Drawn.below {a b : World} (h : Drawn a b) (B : Nat) : Below B a b := by
  obtain ⟨n, rfl⟩ := h; exact below_drewN (Below.refl B a) n

/-- The cells of n integers f 0 .. f (n - 1). -/
def Cells (w : World) (b off n : Nat) (f : Nat → Int) : Prop := ∀ k, k < n → w.cell? ⟨b, off + k, none⟩ = some (.int .i64 (f k))

/-- A slice of n integers f 0 .. f (n - 1) that lies below block B. -/
def Sl (w : World) (B : Nat) (v : Value) (n : Nat) (f : Nat → Int) : Prop :=
  (n = 0 ∧ ∃ a cap, v = .slice a 0 cap ∧ (a = none → cap = 0)) ∨ ∃ b off cap, v = .slice (some ⟨b, off, none⟩) n cap ∧ (b < B ∧ n ≤ cap) ∧ Cells w b off n f

theorem Cells.zero {w : World} {b off n : Nat} {f : Nat → Int} (h : Cells w b off n f) (hn : 0 < n) : w.cell? ⟨b, off, none⟩ = some (.int .i64 (f 0)) := h 0 hn
theorem Cells.below {w w' : World} {b off n B : Nat} {f : Nat → Int} (h : Cells w b off n f) (hb : Below B w w') (hB : b < B) : Cells w' b off n f :=
  fun k hk => (hb.cell (p := ⟨b, off + k, none⟩) hB).trans (h k hk)

theorem Sl.below {w w' : World} {B B' n : Nat} {v : Value} {f : Nat → Int} (h : Sl w B v n f) (hb : Below B' w w') (hB : B ≤ B') : Sl w' B v n f := by
  rcases h with h | ⟨b, off, cap, h1, h2, h3⟩
  · exact .inl h
  · exact .inr ⟨b, off, cap, h1, h2, h3.below hb (by omega)⟩

theorem Sl.mono {w : World} {B B' n : Nat} {v : Value} {f : Nat → Int} (h : Sl w B v n f) (hB : B ≤ B') : Sl w B' v n f := by
  rcases h with h | ⟨b, off, cap, h1, h2, h3⟩
  · exact .inl h
  · exact .inr ⟨b, off, cap, h1, ⟨by omega, h2.2⟩, h3⟩

theorem Cells.drawn {w w' : World} {b off n : Nat} {f : Nat → Int} (h : Cells w b off n f) (hd : Drawn w w') : Cells w' b off n f := by
  obtain ⟨j, rfl⟩ := hd; exact h
theorem Sl.drawn {w w' : World} {B n : Nat} {v : Value} {f : Nat → Int} (h : Sl w B v n f) (hd : Drawn w w') : Sl w' B v n f := h.below (hd.below B) (Nat.le_refl _)
theorem Sl.drawnN {w : World} {B n : Nat} {v : Value} {f : Nat → Int} (h : Sl w B v n f) (j : Nat) : Sl (w.drewN j) B v n f :=
  h.below (below_drewN (Below.refl B w) j) (Nat.le_refl _)

theorem Sl.shape {w : World} {B n : Nat} {v : Value} {f : Nat → Int} (h : Sl w B v n f) : ∃ a cap, v = .slice a n cap := by
  rcases h with ⟨rfl, a, cap, h, _⟩ | ⟨b, off, cap, h, _⟩
  · exact ⟨a, cap, h⟩
  · exact ⟨_, cap, h⟩

theorem Sl.at {w : World} {B n : Nat} {v : Value} {f : Nat → Int} (h : Sl w B v n f) (hn : 1 ≤ n) : ∃ b off cap, v = .slice (some ⟨b, off, none⟩) n cap ∧ b < B ∧ Cells w b off n f := by
  rcases h with ⟨rfl, _⟩ | ⟨b, off, cap, h1, h2, h3⟩
  · omega
  · exact ⟨b, off, cap, h1, h2.1, h3⟩
theorem Sl.roomy {w : World} {B n : Nat} {v : Value} {f : Nat → Int} (h : Sl w B v n f) (hn : 1 ≤ n) : ∃ b off cap, v = .slice (some ⟨b, off, none⟩) n cap ∧ n ≤ cap ∧ b < B ∧ Cells w b off n f := by
  rcases h with ⟨rfl, _⟩ | ⟨b, off, cap, h1, h2, h3⟩
  · omega
  · exact ⟨b, off, cap, h1, h2.2, h2.1, h3⟩

theorem Sl.congr {w : World} {B n : Nat} {v : Value} {f g : Nat → Int} (h : Sl w B v n f) (hfg : ∀ k, k < n → f k = g k) : Sl w B v n g := by
  rcases h with h | ⟨b, off, cap, h1, h2, h3⟩
  · exact .inl h
  · exact .inr ⟨b, off, cap, h1, h2, fun k hk => by rw [← hfg k hk]; exact h3 k hk⟩

theorem own_le {w : World} {base base' size n : Nat} {e : TypeId} {v : Value} {xs : List Value} (h : w.ownsRow base e size v n xs) (hb : base' ≤ base) : w.ownsRow base' e size v n xs := by
  obtain ⟨h1, h2⟩ := h
  refine ⟨h1, ?_⟩
  rcases h2 with h2 | ⟨g, cap, cur, hv, hg, r⟩
  · exact .inl h2
  · exact .inr ⟨g, cap, cur, hv, Nat.le_trans hb hg, r⟩

/-- What an owned row holds, as a slice of integers. -/
theorem Sl.of_own {w : World} {base e n B : Nat} {v : Value} {xs : List Value} {f : Nat → Int} (h : w.ownsRow base e 1 v n xs) (hf : ∀ k, k < n → xs[k]? = some (.int .i64 (f k))) (hB : w.heap.size ≤ B) : Sl w B v n f := by
  have hl := h.lt
  rcases h.2 with ⟨rfl, rfl⟩ | ⟨g, cap, cur, rfl, _, _, hcap, _⟩
  · exact .inl ⟨rfl, _, _, rfl, fun _ => rfl⟩
  · refine .inr ⟨g, 0, cap, rfl, ⟨?_, hcap⟩, fun k hk => ?_⟩
    · have := (hl g rfl).2; omega
    · rw [Nat.zero_add, h.cellAt k (by omega)]; exact hf k hk

/-- 2 to 257. -/
def pts (n : Int) : Bool := decide (2 ≤ n) && decide (n ≤ 257)
theorem pts_t {n : Int} (h : 2 ≤ n) (h' : n ≤ 257) : pts n = true := by simp [pts, h, h']
theorem pts_f {n : Int} (h : ¬ (2 ≤ n ∧ n ≤ 257)) : pts n = false := by
  unfold pts; by_cases h1 : 2 ≤ n <;> by_cases h2 : n ≤ 257 <;> simp_all

/-- A valid curve. -/
def Vld (n : Nat) (f : Nat → Int) : Prop := 2 ≤ n ∧ n ≤ 257 ∧ 0 ≤ f 0 ∧ f (n - 1) ≤ 65535 ∧ ∀ k, k + 1 < n → f k ≤ f (k + 1)

theorem Vld.mono {n : Nat} {f : Nat → Int} (h : Vld n f) : ∀ (j i : Nat), i + j < n → f i ≤ f (i + j)
  | 0, _, _ => Int.le_refl _
  | j + 1, i, hk => Int.le_trans (h.mono j i (by omega)) (h.2.2.2.2 (i + j) (by omega))
theorem Vld.le {n : Nat} {f : Nat → Int} (h : Vld n f) {i j : Nat} (hij : i ≤ j) (hj : j < n) : f i ≤ f j := by
  have := h.mono (j - i) i (by omega)
  rwa [show i + (j - i) = j from by omega] at this
theorem Vld.bd {n : Nat} {f : Nat → Int} (h : Vld n f) (k : Nat) (hk : k < n) : 0 ≤ f k ∧ f k ≤ 65535 :=
  ⟨Int.le_trans h.2.2.1 (h.le (Nat.zero_le k) hk), Int.le_trans (h.le (i := k) (j := n - 1) (by omega) (by omega)) h.2.2.2.1⟩

open Classical in
/-- Whether a curve is valid. -/
noncomputable def vldB (n : Nat) (f : Nat → Int) : Bool := decide (Vld n f)
theorem vldB_t {n : Nat} {f : Nat → Int} (h : Vld n f) : vldB n f = true := by simp [vldB, h]
theorem vldB_f {n : Nat} {f : Nat → Int} (h : ¬ Vld n f) : vldB n f = false := by simp [vldB, h]
theorem of_vldB {n : Nat} {f : Nat → Int} (h : vldB n f = true) : Vld n f := by simpa [vldB] using h

/-- The value of a curve with m + 1 points f 0 .. f m at x. -/
def atV (f : Nat → Int) (m : Nat) (x : Int) : Int :=
  if m * x / 65535 = m then f m else
    (f (m * x / 65535).toNat * (65535 - m * x % 65535) + f ((m * x / 65535).toNat + 1) * (m * x % 65535) + 32767) / 65535

theorem atV_end {f : Nat → Int} {m : Nat} {x : Int} (h : (m : Int) * x / 65535 = m) : atV f m x = f m := by unfold atV; rw [if_pos h]
theorem atV_mid {f : Nat → Int} {m i : Nat} {x r : Int} (h : (m : Int) * x / 65535 = i) (hr : (m : Int) * x % 65535 = r) (hi : i ≠ m) :
    atV f m x = (f i * (65535 - r) + f (i + 1) * r + 32767) / 65535 := by
  unfold atV; rw [if_neg (by omega), h, hr]; rfl

theorem mul_bd {a b A B : Int} (h0 : 0 ≤ a) (h1 : a ≤ A) (h2 : 0 ≤ b) (h3 : b ≤ B) : 0 ≤ a * b ∧ a * b ≤ A * B :=
  ⟨Int.mul_nonneg h0 h2, Int.mul_le_mul h1 h3 h2 (Int.le_trans h0 h1)⟩

/-- Where x lies in a curve with m + 1 points. -/
theorem at_place (m : Nat) (x : Int) (hm' : m ≤ 256) (hx : 0 ≤ x) (hx' : x ≤ 65535) :
    (0 ≤ (m : Int) * x ∧ (m : Int) * x ≤ 256 * 65535) ∧ ∃ (i : Nat) (r : Int), (m : Int) * x / 65535 = (i : Int) ∧ (m : Int) * x % 65535 = r ∧ 0 ≤ r ∧ r < 65535 ∧ i ≤ m := by
  obtain ⟨q1, q2⟩ := mul_bd (a := (m : Int)) (b := x) (A := 256) (B := 65535) (by omega) (by omega) hx hx'
  have h : (m : Int) * x ≤ m * 65535 := Int.mul_le_mul_of_nonneg_left hx' (by omega)
  exact ⟨⟨q1, q2⟩, ((m : Int) * x / 65535).toNat, _, by omega, rfl, by omega, by omega, by omega⟩

end Go.Proofs.Ytmilljlkcbljpaa

/- Plain laws of curves: At is monotone, its values lie between those of the neighbouring points. -/
namespace Go.Proofs.Ytmilljlkcbljpaa
open Go.RowKit

/-- 65535 times the value, before rounding, at the place t = m x. -/
def rawV (f : Nat → Int) (t : Nat) : Int := f (t / 65535) * (65535 - (t % 65535 : Nat)) + f (t / 65535 + 1) * (t % 65535 : Nat)

theorem rawV_low {f : Nat → Int} {t : Nat} (h : f (t / 65535) ≤ f (t / 65535 + 1)) : f (t / 65535) * 65535 ≤ rawV f t := by
  unfold rawV
  have h1 := Int.mul_le_mul_of_nonneg_right h (show (0 : Int) ≤ (t % 65535 : Nat) by omega)
  have h2 := Int.mul_sub (f (t / 65535)) 65535 ((t % 65535 : Nat) : Int)
  omega
theorem rawV_high {f : Nat → Int} {t : Nat} (h : f (t / 65535) ≤ f (t / 65535 + 1)) : rawV f t ≤ f (t / 65535 + 1) * 65535 := by
  unfold rawV
  have h3 := Int.mul_le_mul_of_nonneg_right h (show (0 : Int) ≤ 65535 - (t % 65535 : Nat) by omega)
  have h2 := Int.mul_sub (f (t / 65535 + 1)) 65535 ((t % 65535 : Nat) : Int)
  omega
theorem rawV_at {f : Nat → Int} (i : Nat) : rawV f (i * 65535) = f i * 65535 := by
  unfold rawV
  rw [Nat.mul_div_cancel _ (by omega), Nat.mul_mod_left]
  simp

theorem rawV_step {f : Nat → Int} {t : Nat} (h : f (t / 65535) ≤ f (t / 65535 + 1)) : rawV f t ≤ rawV f (t + 1) := by
  by_cases hb : t % 65535 + 1 < 65535
  · have e1 : (t + 1) / 65535 = t / 65535 := by omega
    have e2 : (t + 1) % 65535 = t % 65535 + 1 := by omega
    unfold rawV
    rw [e1, e2]
    generalize f (t / 65535) = a at *
    generalize f (t / 65535 + 1) = b at *
    generalize t % 65535 = r at *
    have p1 := Int.mul_sub a 65535 ((r : Nat) : Int)
    have p2 := Int.mul_sub a 65535 ((r + 1 : Nat) : Int)
    have p3 : a * ((r + 1 : Nat) : Int) = a * (r : Int) + a := by rw [Int.natCast_add, Int.mul_add]; simp
    have p4 : b * ((r + 1 : Nat) : Int) = b * (r : Int) + b := by rw [Int.natCast_add, Int.mul_add]; simp
    omega
  · have e : t + 1 = (t / 65535 + 1) * 65535 := by omega
    rw [e, rawV_at]
    exact rawV_high h

theorem rawV_mono {f : Nat → Int} {m : Nat} (hf : ∀ k, k < m → f k ≤ f (k + 1)) : ∀ (d t : Nat), t + d ≤ m * 65535 → rawV f t ≤ rawV f (t + d)
  | 0, _, _ => Int.le_refl _
  | d + 1, t, h => Int.le_trans (rawV_mono hf d t (by omega)) (rawV_step (hf _ (by omega)))

theorem atV_raw {f : Nat → Int} {m x : Nat} (hx : x ≤ 65535) : atV f m x = (rawV f (m * x) + 32767) / 65535 := by
  have hmx : m * x ≤ m * 65535 := Nat.mul_le_mul_left m hx
  have hc : (m : Int) * (x : Int) = ((m * x : Nat) : Int) := (Int.natCast_mul m x).symm
  by_cases he : m * x / 65535 = m
  · have h1 : (m : Int) * (x : Int) / 65535 = (m : Int) := by rw [hc]; omega
    have h2 : m * x = m * 65535 := by omega
    rw [atV_end h1, h2, rawV_at]
    omega
  · have h1 : (m : Int) * (x : Int) / 65535 = ((m * x / 65535 : Nat) : Int) := by rw [hc]; omega
    have h2 : (m : Int) * (x : Int) % 65535 = ((m * x % 65535 : Nat) : Int) := by rw [hc]; omega
    rw [atV_mid h1 h2 he]
    rfl

theorem Vld.step {n : Nat} {f : Nat → Int} (h : Vld n f) (k : Nat) (hk : k < n - 1) : f k ≤ f (k + 1) := h.2.2.2.2 k (by omega)

theorem atV_mono_nat {n : Nat} {f : Nat → Int} (h : Vld n f) {x y : Nat} (hxy : x ≤ y) (hy : y ≤ 65535) : atV f (n - 1) x ≤ atV f (n - 1) y := by
  rw [atV_raw (by omega), atV_raw hy]
  have hm : (n - 1) * x ≤ (n - 1) * y := Nat.mul_le_mul_left _ hxy
  have hm' : (n - 1) * y ≤ (n - 1) * 65535 := Nat.mul_le_mul_left _ hy
  have := rawV_mono (fun k hk => h.step k hk) ((n - 1) * y - (n - 1) * x) ((n - 1) * x) (by omega)
  rw [show (n - 1) * x + ((n - 1) * y - (n - 1) * x) = (n - 1) * y from by omega] at this
  omega
theorem atV_mono {n : Nat} {f : Nat → Int} (h : Vld n f) {x y : Int} (h0 : 0 ≤ x) (hxy : x ≤ y) (hy : y ≤ 65535) : atV f (n - 1) x ≤ atV f (n - 1) y := by
  obtain ⟨a, rfl⟩ := Int.eq_ofNat_of_zero_le h0
  obtain ⟨b, rfl⟩ := Int.eq_ofNat_of_zero_le (show 0 ≤ y by omega)
  exact atV_mono_nat h (by omega) (by omega)

theorem atV_zero {n : Nat} {f : Nat → Int} : atV f (n - 1) 0 = f 0 := by
  have := atV_raw (f := f) (m := n - 1) (x := 0) (by omega)
  rw [show ((0 : Nat) : Int) = 0 from rfl] at this
  rw [this, Nat.mul_zero]
  have := rawV_at (f := f) 0
  rw [Nat.zero_mul] at this
  rw [this]
  omega
theorem atV_top {n : Nat} {f : Nat → Int} : atV f (n - 1) 65535 = f (n - 1) := by
  have := atV_raw (f := f) (m := n - 1) (x := 65535) (by omega)
  rw [show ((65535 : Nat) : Int) = 65535 from rfl] at this
  rw [this, rawV_at]
  omega
theorem atV_bd {n : Nat} {f : Nat → Int} (h : Vld n f) {x : Int} (h0 : 0 ≤ x) (h1 : x ≤ 65535) : f 0 ≤ atV f (n - 1) x ∧ atV f (n - 1) x ≤ f (n - 1) :=
  ⟨by have := atV_mono h (Int.le_refl 0) h0 h1; rw [atV_zero] at this; exact this,
   by have := atV_mono h h0 h1 (Int.le_refl _); rw [atV_top] at this; exact this⟩
theorem atV_range {n : Nat} {f : Nat → Int} (h : Vld n f) {x : Int} (h0 : 0 ≤ x) (h1 : x ≤ 65535) : 0 ≤ atV f (n - 1) x ∧ atV f (n - 1) x ≤ 65535 := by
  have a := atV_bd h h0 h1
  have b := h.bd 0 (by have := h.1; omega)
  have c := h.bd (n - 1) (by have := h.1; omega)
  omega

/-- Between the neighbouring points. -/
theorem atV_between {n : Nat} {f : Nat → Int} (h : Vld n f) {x : Nat} (h1 : x ≤ 65535) :
    f ((n - 1) * x / 65535) ≤ atV f (n - 1) x ∧ atV f (n - 1) x ≤ f (min ((n - 1) * x / 65535 + 1) (n - 1)) := by
  rw [atV_raw h1]
  have hm' : (n - 1) * x ≤ (n - 1) * 65535 := Nat.mul_le_mul_left _ h1
  by_cases he : (n - 1) * x / 65535 = n - 1
  · have h2 : (n - 1) * x = (n - 1) * 65535 := by omega
    rw [h2, rawV_at, Nat.mul_div_cancel _ (by omega), Nat.min_eq_right (by omega)]
    omega
  · have hs := h.step ((n - 1) * x / 65535) (by omega)
    have a := rawV_low hs
    have b := rawV_high hs
    rw [Nat.min_eq_left (by omega)]
    omega

/-- The same, said of the place as an integer. -/
theorem mono_place {N : Nat} {X : Int} (h0 : 0 ≤ X) (h1 : X ≤ 65535) : ∃ i : Nat, (N : Int) * X / 65535 = (i : Int) ∧ i ≤ N ∧ i = N * X.toNat / 65535 := by
  obtain ⟨x, rfl⟩ := Int.eq_ofNat_of_zero_le h0
  have h2 : N * x ≤ N * 65535 := Nat.mul_le_mul_left N (by omega)
  refine ⟨N * x / 65535, ?_, by omega, by simp⟩
  rw [← Int.natCast_mul]
  omega

theorem between_place {N : Nat} {F : Nat → Int} {X : Int} (h : Vld (N + 1) F) (h0 : 0 ≤ X) (h1 : X ≤ 65535) :
    ∃ i : Nat, (N : Int) * X / 65535 = (i : Int) ∧ i ≤ N ∧ F i ≤ atV F N X ∧ atV F N X ≤ F (min (i + 1) N) := by
  obtain ⟨i, hi, hiN, hix⟩ := mono_place (N := N) h0 h1
  have hb := atV_between h (x := X.toNat) (by omega)
  rw [Int.toNat_of_nonneg h0] at hb
  refine ⟨i, hi, hiN, ?_⟩
  rw [hix]
  exact hb

end Go.Proofs.Ytmilljlkcbljpaa

/- The leaf functions of package curve and of its reference: what each call returns. -/
namespace Go.Proofs.Ytmilljlkcbljpaa
open Go.RowKit

set_option maxHeartbeats 400000 in
theorem points_same (n : Int) (w : World) :
    Calls Try.prog 90 #[.int .i64 n] w fun e w' => e = .returned (.bool (pts n)) ∧ w = w' := by
  by_cases h1 : 2 ≤ n
  · by_cases h2 : n ≤ 257
    · go_enter Try.func90, Try.ntmps90
      go_wp2
      go_ret
      exact ⟨ret_bool (pts_t h1 h2).symm, rfl⟩
    · go_enter Try.func90, Try.ntmps90
      go_wp2
      go_ret
      exact ⟨ret_bool (pts_f (by omega)).symm, rfl⟩
  · go_enter Try.func90, Try.ntmps90
    go_wp2
    go_ret
    exact ⟨ret_bool (pts_f (by omega)).symm, rfl⟩

set_option maxHeartbeats 400000 in
theorem refPoints_same (n : Int) (w : World) :
    Calls Try.prog 94 #[.int .i64 n] w fun e w' => e = .returned (.bool (pts n)) ∧ w = w' := by
  by_cases h1 : 2 ≤ n
  · by_cases h2 : n ≤ 257
    · go_enter Try.func94, Try.ntmps94
      go_wp2
      go_ret
      exact ⟨ret_bool (pts_t h1 h2).symm, rfl⟩
    · go_enter Try.func94, Try.ntmps94
      go_wp2
      go_ret
      exact ⟨ret_bool (pts_f (by omega)).symm, rfl⟩
  · go_enter Try.func94, Try.ntmps94
    go_wp2
    go_ret
    exact ⟨ret_bool (pts_f (by omega)).symm, rfl⟩

theorem points_any (n : Int) (w : World) : Calls Try.prog 90 #[.int .i64 n] w fun e w' => e = .returned (.bool (pts n)) ∧ Drawn w w' :=
  (points_same n w).mono fun _ _ ⟨h, k⟩ => ⟨h, k ▸ .refl _⟩
theorem refPoints_any (n : Int) (w : World) : Calls Try.prog 94 #[.int .i64 n] w fun e w' => e = .returned (.bool (pts n)) ∧ Drawn w w' :=
  (refPoints_same n w).mono fun _ _ ⟨h, k⟩ => ⟨h, k ▸ .refl _⟩

set_option maxHeartbeats 400000 in
theorem less_int (x y : Int) (w : World) :
    Calls Try.prog 107 #[.int .i64 x, .int .i64 y] w fun e w' => e = .returned (.bool (decide (x < y))) ∧ Drawn w w' := by
  by_cases h : x < y
  · have hd : decide (x < y) = true := by simpa using h
    go_enter Try.func107, Try.ntmps107
    go_wp2
    go_ret
    exact ⟨ret_bool (by simp [h]), .refl _⟩
  · have hd : decide (x < y) = false := by simpa using h
    go_enter Try.func107, Try.ntmps107
    go_wp2
    go_ret
    exact ⟨ret_bool (by simp), .refl _⟩

set_option maxHeartbeats 400000 in
theorem at_cells (f : Nat → Int) (m b off cap : Nat) (x : Int) (w : World) (hm' : m ≤ 256) (hx : 0 ≤ x) (hx' : x ≤ 65535)
    (hc : Cells w b off (m + 1) f) (hf : ∀ k, k < m + 1 → 0 ≤ f k ∧ f k ≤ 65535) :
    Calls Try.prog 74 #[.slice (some ⟨b, off, none⟩) (m + 1) cap, .int .i64 x] w fun e w' => e = .returned (.int .i64 (atV f m x)) ∧ Drawn w w' := by
  obtain ⟨⟨q1, q2⟩, i, r, hi, hr, hr0, hr1, him⟩ := at_place m x hm' hx hx'
  by_cases he : i = m
  · have e1 := Lib.hid (atV_end (f := f) (he ▸ hi))
    subst he
    have c1 := hc i (by omega)
    go_enter Try.func74, Try.ntmps74
    go_wp2
    go_ret
    exact ⟨ret_int e1.out.symm, .refl _⟩
  · have e1 := Lib.hid (atV_mid (f := f) hi hr he)
    have c1 := hc i (by omega)
    have c2 := hc (i + 1) (by omega)
    have hne : ((i : Int) == (m : Int)) = false := by simp; omega
    obtain ⟨p1, p2⟩ := mul_bd (hf i (by omega)).1 (hf i (by omega)).2 (b := 65535 - r) (B := 65535) (by omega) (by omega)
    obtain ⟨p3, p4⟩ := mul_bd (hf (i + 1) (by omega)).1 (hf (i + 1) (by omega)).2 (b := r) (B := 65535) (by omega) (by omega)
    go_enter Try.func74, Try.ntmps74
    go_wp2
    go_quiet (fail)
    go_wp2
    go_ret
    exact ⟨ret_int e1.out.symm, .of _⟩

theorem round_two (a : Int) : (2 * a + 65535) / 131070 = (a + 32767) / 65535 := by omega

set_option maxHeartbeats 400000 in
theorem value_cells (f : Nat → Int) (m b off cap : Nat) (x : Int) (w : World) (hm' : m ≤ 256) (hx : 0 ≤ x) (hx' : x ≤ 65535)
    (hc : Cells w b off (m + 1) f) (hf : ∀ k, k < m + 1 → 0 ≤ f k ∧ f k ≤ 65535) :
    Calls Try.prog 110 #[.slice (some ⟨b, off, none⟩) (m + 1) cap, .int .i64 x] w fun e w' => e = .returned (.int .i64 (atV f m x)) ∧ Drawn w w' := by
  obtain ⟨⟨q1, q2⟩, i, r, hi, hr, hr0, hr1, him⟩ := at_place m x hm' hx hx'
  by_cases he : i = m
  · have e1 := Lib.hid (atV_end (f := f) (he ▸ hi))
    subst he
    have c1 := hc i (by omega)
    go_enter Try.func110, Try.ntmps110
    go_wp2
    go_ret
    exact ⟨ret_int e1.out.symm, .refl _⟩
  · have e1 := Lib.hid (atV_mid (f := f) hi hr he)
    have c1 := hc i (by omega)
    have c2 := hc (i + 1) (by omega)
    have hne : ((i : Int) == (m : Int)) = false := by simp; omega
    obtain ⟨p1, p2⟩ := mul_bd (hf i (by omega)).1 (hf i (by omega)).2 (b := 65535 - r) (B := 65535) (by omega) (by omega)
    obtain ⟨p3, p4⟩ := mul_bd (hf (i + 1) (by omega)).1 (hf (i + 1) (by omega)).2 (b := r) (B := 65535) (by omega) (by omega)
    have e2 := Lib.hid (round_two (f i * (65535 - r) + f (i + 1) * r))
    go_enter Try.func110, Try.ntmps110
    go_wp2
    go_quiet (fail)
    go_wp2
    go_ret
    exact ⟨ret_int (e2.out.trans e1.out.symm), .of _⟩

/-- curve.at on a slice whose shape is not looked at. -/
theorem at_any {f : Nat → Int} {n B : Nat} {v : Value} {x : Int} {w : World} (hv : Vld n f) (hs : Sl w B v n f) (hx : 0 ≤ x) (hx' : x ≤ 65535) :
    Calls Try.prog 74 #[v, .int .i64 x] w fun e w' => e = .returned (.int .i64 (atV f (n - 1) x)) ∧ Drawn w w' := by
  obtain ⟨b, off, cap, rfl, _, hc⟩ := hs.at (by have := hv.1; omega)
  obtain ⟨m, rfl⟩ : ∃ m, n = m + 1 := ⟨n - 1, by have := hv.1; omega⟩
  exact at_cells f m b off cap x w (by have := hv.2.1; omega) hx hx' hc hv.bd
theorem value_any {f : Nat → Int} {n B : Nat} {v : Value} {x : Int} {w : World} (hv : Vld n f) (hs : Sl w B v n f) (hx : 0 ≤ x) (hx' : x ≤ 65535) :
    Calls Try.prog 110 #[v, .int .i64 x] w fun e w' => e = .returned (.int .i64 (atV f (n - 1) x)) ∧ Drawn w w' := by
  obtain ⟨b, off, cap, rfl, _, hc⟩ := hs.at (by have := hv.1; omega)
  obtain ⟨m, rfl⟩ : ∃ m, n = m + 1 := ⟨n - 1, by have := hv.1; omega⟩
  exact value_cells f m b off cap x w (by have := hv.2.1; omega) hx hx' hc hv.bd

end Go.Proofs.Ytmilljlkcbljpaa

/- Valid, At of package curve and of its reference, Same: what each call returns. -/
namespace Go.Proofs.Ytmilljlkcbljpaa
open Go.RowKit

open Classical in
/-- Whether the values do not decrease. -/
noncomputable def srtB (n : Nat) (f : Nat → Int) : Bool := decide (∀ k, k + 1 < n → f k ≤ f (k + 1))
theorem srtB_t {n : Nat} {f : Nat → Int} (h : ∀ k, k + 1 < n → f k ≤ f (k + 1)) : srtB n f = true := by simp only [srtB, decide_eq_true_eq]; exact h
theorem srtB_f {n : Nat} {f : Nat → Int} (k : Nat) (hk : k + 1 < n) (h : f (k + 1) < f k) : srtB n f = false := by
  simp only [srtB, decide_eq_false_iff_not]; exact fun hh => by have := hh k hk; omega

set_option maxHeartbeats 400000 in
theorem isSorted_any (f : Nat → Int) (n b off cap : Nat) (w : World) (hn : n ≤ 300) (h1 : 1 ≤ n) (hc : Cells w b off n f) :
    Calls Try.prog 91 #[.slice (some ⟨b, off, none⟩) n cap] w fun e w' => e = .returned (.bool (srtB n f)) ∧ Drawn w w' := by
  go_enter Try.func91, Try.ntmps91
  go_wp2
  go_loopw [3] (fun i wr => ∃ k : Nat, k < n ∧ i = .int .i64 k ∧ (∀ j, k ≤ j → j + 1 < n → f j ≤ f (j + 1)) ∧ Drawn w wr) (fun i _ => (intOf i).toNat)
  case atStart => exact ⟨n - 1, by omega, by simp; omega, fun j h1 h2 => by omega, .refl _⟩
  case round =>
    obtain ⟨k, hk, rfl, hs, hq⟩ := hrel
    have hc := hc.drawn hq
    by_cases h0 : 0 < k
    · obtain ⟨j, rfl⟩ : ∃ j, k = j + 1 := ⟨k - 1, by omega⟩
      have c1 := hc (j + 1) (by omega)
      have c2 := hc j (by omega)
      have hs' := Lib.hid hs
      clear hs
      have i1 : 0 ≤ (j : Int) + 1 ∧ (j : Int) + 1 < n := by omega
      have i2 : 0 ≤ (j : Int) ∧ (j : Int) < n := by omega
      have w1 : IntKind.i64.wrap (j : Int) = j := IntWalk.i64_in _ (by omega)
      by_cases hd : f (j + 1) < f j
      · have hd' : decide (f (j + 1) < f j) = true := by simpa using hd
        go_wp2
        go_quiet ((go_at_call 107; exact Calls.quiet_of (less_int _ _ _)))
        go_wp2
        go_ret
        exact ⟨ret_bool (srtB_f j (by omega) hd).symm, hq.on _⟩
      · have hd' : decide (f (j + 1) < f j) = false := by simpa using hd
        go_wp2
        go_quiet ((go_at_call 107; exact Calls.quiet_of (less_int _ _ _)))
        go_wp2
        go_roundw
        case rel => exact ⟨j, by omega, by go_num, fun i h1 h2 => by
          by_cases e : i = j
          · subst e; omega
          · exact hs'.out i (by omega) h2, hq.on _⟩
        case measure => simp [intOf]
    · obtain rfl : k = 0 := by omega
      go_wp2
      go_ret
      exact ⟨ret_bool (srtB_t fun k hk => hs k (Nat.zero_le _) hk).symm, hq⟩

theorem vld_srt {n : Nat} {f : Nat → Int} (h1 : 2 ≤ n) (h2 : n ≤ 257) (h3 : 0 ≤ f 0) (h4 : f (n - 1) ≤ 65535) : srtB n f = vldB n f := by
  unfold srtB vldB Vld
  exact decide_eq_decide.2 ⟨fun h => ⟨h1, h2, h3, h4, h⟩, fun h => h.2.2.2.2⟩

set_option maxHeartbeats 400000 in
theorem valid_any {f : Nat → Int} {n B : Nat} {v : Value} {w : World} (hn : n ≤ 9223372036854775807) (hs : Sl w B v n f) :
    Calls Try.prog 62 #[v] w fun e w' => e = .returned (.bool (vldB n f)) ∧ Drawn w w' := by
  by_cases hp : 2 ≤ n ∧ n ≤ 257
  · obtain ⟨b, off, cap, rfl, _, hc⟩ := hs.at (by omega)
    obtain ⟨m, rfl⟩ : ∃ m, n = m + 1 := ⟨n - 1, by omega⟩
    obtain ⟨hp1, hp2⟩ := hp
    have P1 : pts ((m : Int) + 1) = true := pts_t (by omega) (by omega)
    have S1 := Lib.hid (fun h3 h4 => vld_srt (n := m + 1) (f := f) hp1 hp2 h3 h4)
    have F1 := Lib.hid (fun h : 0 ≤ f 0 ∧ f m ≤ 65535 → False => vldB_f (n := m + 1) (f := f) fun hv => h ⟨hv.2.2.1, hv.2.2.2.1⟩)
    by_cases h1 : 0 ≤ f 0
    · by_cases h2 : f m ≤ 65535
      · go_enter Try.func62, Try.ntmps62
        go_wp2_with (first | (go_at_call 90; refine (points_any _ _).mono ?_; rintro e w1 ⟨rfl, hd⟩; have c1' := (hc.drawn hd).zero (by omega); have c2' := hc.drawn hd m (by omega)) | (go_at_call 91; refine (isSorted_any f _ _ _ _ _ (by omega) (by omega) (hc.drawn hd)).mono ?_; rintro e w2 ⟨rfl, hd2⟩))
        go_ret
        exact ⟨ret_bool (S1.out h1 h2), hd.trans hd2⟩
      · go_enter Try.func62, Try.ntmps62
        go_wp2_with (first | (go_at_call 90; refine (points_any _ _).mono ?_; rintro e w1 ⟨rfl, hd⟩; have c1' := (hc.drawn hd).zero (by omega); have c2' := hc.drawn hd m (by omega)))
        go_ret
        exact ⟨ret_bool (F1.out (by omega)).symm, hd⟩
    · go_enter Try.func62, Try.ntmps62
      go_wp2_with (first | (go_at_call 90; refine (points_any _ _).mono ?_; rintro e w1 ⟨rfl, hd⟩; have c1' := (hc.drawn hd).zero (by omega); have c2' := hc.drawn hd m (by omega)))
      go_ret
      exact ⟨ret_bool (F1.out (by omega)).symm, hd⟩
  · obtain ⟨a, cap, rfl⟩ := hs.shape
    have P1 : pts (n : Int) = false := pts_f (by omega)
    have F1 := Lib.hid (vldB_f (n := n) (f := f) fun hv => hp ⟨hv.1, hv.2.1⟩)
    clear hs
    go_enter Try.func62, Try.ntmps62
    go_wp2_with (first | (go_at_call 90; refine (points_any _ _).mono ?_; rintro e w1 ⟨rfl, hd⟩))
    go_ret
    exact ⟨ret_bool F1.out.symm, hd⟩

/-- What the reference's loop has found good. -/
def good (f : Nat → Int) (k : Nat) : Prop := 0 ≤ f k ∧ f k ≤ 65535 ∧ (0 < k → f (k - 1) ≤ f k)
theorem vld_good {n : Nat} {f : Nat → Int} (h1 : 2 ≤ n) (h2 : n ≤ 257) (h : ∀ k, k < n → good f k) : Vld n f :=
  ⟨h1, h2, (h 0 (by omega)).1, (h (n - 1) (by omega)).2.1, fun k hk => by have := (h (k + 1) hk).2.2 (by omega); simpa using this⟩
theorem good_vld {n : Nat} {f : Nat → Int} (h : Vld n f) (k : Nat) (hk : k < n) : good f k :=
  ⟨(h.bd k hk).1, (h.bd k hk).2, fun h0 => h.le (by omega) hk⟩

set_option maxHeartbeats 1000000 in
theorem refValid_any {f : Nat → Int} {n B : Nat} {v : Value} {w : World} (hn : n ≤ 9223372036854775807) (hs : Sl w B v n f) :
    Calls Try.prog 65 #[v] w fun e w' => e = .returned (.bool (vldB n f)) ∧ Drawn w w' := by
  by_cases hp : 2 ≤ n ∧ n ≤ 257
  · obtain ⟨b, off, cap, rfl, _, hc⟩ := hs.at (by omega)
    obtain ⟨hp1, hp2⟩ := hp
    have P1 : pts (n : Int) = true := pts_t (by omega) (by omega)
    have S1 := Lib.hid (fun h => vldB_t (vld_good (n := n) (f := f) hp1 hp2 h))
    have F1 := Lib.hid (fun k (hk : k < n) (h : ¬ good f k) => vldB_f (n := n) (f := f) fun hv => h (good_vld hv k hk))
    go_enter Try.func65, Try.ntmps65
    go_wp2_with (first | (go_at_call 94; refine (refPoints_any _ _).mono ?_; rintro e w1 ⟨rfl, hd⟩))
    go_loopw [4] (fun i wr => ∃ k : Nat, k ≤ n ∧ i = .int .i64 k ∧ Hid (∀ j, j < k → good f j) ∧ Drawn w wr) (fun i _ => n - (intOf i).toNat)
    case atStart => exact ⟨0, by omega, rfl, Lib.hid (fun j hj => by omega), hd⟩
    case round =>
      obtain ⟨k, hk, rfl, hg, hq⟩ := hrel
      by_cases hlt : k < n
      · have c1 := hc.drawn hq k hlt
        have i1 : 0 ≤ (k : Int) ∧ (k : Int) < n := by omega
        by_cases h1 : f k < 0
        · have d1 : decide (f k < 0) = true := by simpa using h1
          go_wp2
          go_quiet (fail)
          go_wp2
          go_ret
          exact ⟨ret_bool (F1.out k hlt fun h => by have := h.1; omega).symm, hq.on _⟩
        · have d1 : decide (f k < 0) = false := by simpa using h1
          by_cases h2 : 65535 < f k
          · have d2 : decide (65535 < f k) = true := by simpa using h2
            go_wp2
            go_quiet (fail)
            go_wp2
            go_ret
            exact ⟨ret_bool (F1.out k hlt fun h => by have := h.2.1; omega).symm, hq.on _⟩
          · have d2 : decide (65535 < f k) = false := by simpa using h2
            by_cases h3 : 0 < k
            · obtain ⟨j, rfl⟩ : ∃ j, k = j + 1 := ⟨k - 1, by omega⟩
              have c2 := hc.drawn hq j (by omega)
              have i2 : 0 ≤ (j : Int) + 1 ∧ (j : Int) + 1 < n := by omega
              have i3 : 0 ≤ (j : Int) ∧ (j : Int) < n := by omega
              have w1 : IntKind.i64.wrap (j : Int) = j := IntWalk.i64_in _ (by omega)
              have d3 : decide ((0 : Int) < (j : Int) + 1) = true := decide_eq_true (by omega)
              by_cases h4 : f (j + 1) < f j
              · have d4 : decide (f (j + 1) < f j) = true := by simpa using h4
                go_wp2
                go_quiet (fail)
                go_wp2
                go_ret
                exact ⟨ret_bool (F1.out (j + 1) hlt fun h => by have hh := h.2.2 (by omega); rw [Nat.add_sub_cancel] at hh; omega).symm, hq.on _⟩
              · have d4 : decide (f (j + 1) < f j) = false := by simpa using h4
                go_wp2
                go_quiet (fail)
                go_wp2
                go_roundw
                case rel => exact ⟨j + 2, by omega, by go_num, Lib.hid (fun i hi => by
                  by_cases e : i = j + 1
                  · subst e; exact ⟨by omega, by omega, fun _ => by rw [Nat.add_sub_cancel]; omega⟩
                  · exact hg.out i (by omega)), hq.on _⟩
                case measure => simp [intOf]; omega
            · obtain rfl : k = 0 := by omega
              have c0 := (hc.drawn hq).zero hlt
              go_wp2
              go_quiet (fail)
              go_wp2
              go_roundw
              case rel => exact ⟨1, by omega, by go_num, Lib.hid (fun i hi => by
                obtain rfl : i = 0 := by omega
                exact ⟨by omega, by omega, fun h => by omega⟩), hq.on _⟩
              case measure => simp [intOf]; omega
      · obtain rfl : k = n := by omega
        go_wp2
        go_ret
        exact ⟨ret_bool (S1.out hg.out).symm, hq⟩
  · obtain ⟨a, cap, rfl⟩ := hs.shape
    have P1 : pts (n : Int) = false := pts_f (by omega)
    have F1 := Lib.hid (vldB_f (n := n) (f := f) fun hv => hp ⟨hv.1, hv.2.1⟩)
    clear hs
    go_enter Try.func65, Try.ntmps65
    go_wp2_with (first | (go_at_call 94; refine (refPoints_any _ _).mono ?_; rintro e w1 ⟨rfl, hd⟩))
    go_ret
    exact ⟨ret_bool F1.out.symm, hd⟩

end Go.Proofs.Ytmilljlkcbljpaa

/- At and Same of package curve and of its reference: what each call returns. -/
namespace Go.Proofs.Ytmilljlkcbljpaa
open Go.RowKit

/-- x, clamped to 0 to 65535. -/
def clp (x : Int) : Int := if x < 0 then 0 else if 65535 < x then 65535 else x
theorem clp_lo {x : Int} (h : x < 0) : clp x = 0 := if_pos h
theorem clp_hi {x : Int} (h : 65535 < x) : clp x = 65535 := by unfold clp; rw [if_neg (by omega), if_pos h]
theorem clp_in {x : Int} (h : 0 ≤ x) (h' : x ≤ 65535) : clp x = x := by unfold clp; rw [if_neg (by omega), if_neg (by omega)]
theorem clp_bd (x : Int) : 0 ≤ clp x ∧ clp x ≤ 65535 := by unfold clp; omega

open Classical in
/-- What At returns. -/
noncomputable def AtV (n : Nat) (f : Nat → Int) (x : Int) : Int := if Vld n f then atV f (n - 1) (clp x) else 0
theorem AtV_yes {n : Nat} {f : Nat → Int} {x : Int} (h : Vld n f) : AtV n f x = atV f (n - 1) (clp x) := if_pos h
theorem AtV_no {n : Nat} {f : Nat → Int} {x : Int} (h : ¬ Vld n f) : AtV n f x = 0 := if_neg h

set_option maxHeartbeats 400000 in
theorem At_yes {f : Nat → Int} {n B : Nat} {v : Value} {x : Int} {w : World} (hs : Sl w B v n f) (hv : Vld n f) :
    Calls Try.prog 35 #[v, .int .i64 x] w fun e w' => e = .returned (.int .i64 (atV f (n - 1) (clp x))) ∧ Drawn w w' := by
  have hn : n ≤ 9223372036854775807 := by have := hv.2.1; omega
  have V1 := vldB_t hv
  by_cases h1 : x < 0
  · have E := Lib.hid (clp_lo h1)
    go_enter Try.func35, Try.ntmps35
    go_wp2_with (first | (go_at_call 62; refine (valid_any hn hs).mono ?_; rintro e w1 ⟨rfl, hd⟩) | (go_at_call 74; refine (at_any hv (hs.drawn hd) (by omega) (by omega)).mono ?_; rintro e w2 ⟨rfl, hd2⟩))
    go_ret
    exact ⟨ret_int (by rw [E.out]), hd.trans hd2⟩
  · by_cases h2 : 65535 < x
    · have E := Lib.hid (clp_hi h2)
      go_enter Try.func35, Try.ntmps35
      go_wp2_with (first | (go_at_call 62; refine (valid_any hn hs).mono ?_; rintro e w1 ⟨rfl, hd⟩) | (go_at_call 74; refine (at_any hv (hs.drawn hd) (by omega) (by omega)).mono ?_; rintro e w2 ⟨rfl, hd2⟩))
      go_ret
      exact ⟨ret_int (by rw [E.out]), hd.trans hd2⟩
    · have E := Lib.hid (clp_in (x := x) (by omega) (by omega))
      go_enter Try.func35, Try.ntmps35
      go_wp2_with (first | (go_at_call 62; refine (valid_any hn hs).mono ?_; rintro e w1 ⟨rfl, hd⟩) | (go_at_call 74; refine (at_any hv (hs.drawn hd) (by omega) (by omega)).mono ?_; rintro e w2 ⟨rfl, hd2⟩))
      go_ret
      exact ⟨ret_int (by rw [E.out]), hd.trans hd2⟩

set_option maxHeartbeats 400000 in
theorem At_no {f : Nat → Int} {n B : Nat} {v : Value} {x : Int} {w : World} (hn : n ≤ 9223372036854775807) (hs : Sl w B v n f) (hv : ¬ Vld n f) :
    Calls Try.prog 35 #[v, .int .i64 x] w fun e w' => e = .returned (.int .i64 0) ∧ Drawn w w' := by
  have V1 := vldB_f hv
  go_enter Try.func35, Try.ntmps35
  go_wp2_with (first | (go_at_call 62; refine (valid_any hn hs).mono ?_; rintro e w1 ⟨rfl, hd⟩))
  go_ret
  exact ⟨rfl, hd⟩

theorem At_any {f : Nat → Int} {n B : Nat} {v : Value} {x : Int} {w : World} (hn : n ≤ 9223372036854775807) (hs : Sl w B v n f) :
    Calls Try.prog 35 #[v, .int .i64 x] w fun e w' => e = .returned (.int .i64 (AtV n f x)) ∧ Drawn w w' := by
  by_cases hv : Vld n f
  · rw [AtV_yes hv]; exact At_yes hs hv
  · rw [AtV_no hv]; exact At_no hn hs hv

set_option maxHeartbeats 400000 in
theorem refAt_yes {f : Nat → Int} {n B : Nat} {v : Value} {x : Int} {w : World} (hs : Sl w B v n f) (hv : Vld n f) :
    Calls Try.prog 98 #[v, .int .i64 x] w fun e w' => e = .returned (.int .i64 (atV f (n - 1) (clp x))) ∧ Drawn w w' := by
  have hn : n ≤ 9223372036854775807 := by have := hv.2.1; omega
  have V1 := vldB_t hv
  by_cases h1 : x < 0
  · have E := Lib.hid (clp_lo h1)
    go_enter Try.func98, Try.ntmps98
    go_wp2_with (first | (go_at_call 65; refine (refValid_any hn hs).mono ?_; rintro e w1 ⟨rfl, hd⟩) | (go_at_call 110; refine (value_any hv (hs.drawn hd) (by omega) (by omega)).mono ?_; rintro e w2 ⟨rfl, hd2⟩))
    go_ret
    exact ⟨ret_int (by rw [E.out]), hd.trans hd2⟩
  · by_cases h2 : 65535 < x
    · have E := Lib.hid (clp_hi h2)
      go_enter Try.func98, Try.ntmps98
      go_wp2_with (first | (go_at_call 65; refine (refValid_any hn hs).mono ?_; rintro e w1 ⟨rfl, hd⟩) | (go_at_call 110; refine (value_any hv (hs.drawn hd) (by omega) (by omega)).mono ?_; rintro e w2 ⟨rfl, hd2⟩))
      go_ret
      exact ⟨ret_int (by rw [E.out]), hd.trans hd2⟩
    · have E := Lib.hid (clp_in (x := x) (by omega) (by omega))
      go_enter Try.func98, Try.ntmps98
      go_wp2_with (first | (go_at_call 65; refine (refValid_any hn hs).mono ?_; rintro e w1 ⟨rfl, hd⟩) | (go_at_call 110; refine (value_any hv (hs.drawn hd) (by omega) (by omega)).mono ?_; rintro e w2 ⟨rfl, hd2⟩))
      go_ret
      exact ⟨ret_int (by rw [E.out]), hd.trans hd2⟩

set_option maxHeartbeats 400000 in
theorem refAt_no {f : Nat → Int} {n B : Nat} {v : Value} {x : Int} {w : World} (hn : n ≤ 9223372036854775807) (hs : Sl w B v n f) (hv : ¬ Vld n f) :
    Calls Try.prog 98 #[v, .int .i64 x] w fun e w' => e = .returned (.int .i64 0) ∧ Drawn w w' := by
  have V1 := vldB_f hv
  go_enter Try.func98, Try.ntmps98
  go_wp2_with (first | (go_at_call 65; refine (refValid_any hn hs).mono ?_; rintro e w1 ⟨rfl, hd⟩))
  go_ret
  exact ⟨rfl, hd⟩

theorem refAt_any {f : Nat → Int} {n B : Nat} {v : Value} {x : Int} {w : World} (hn : n ≤ 9223372036854775807) (hs : Sl w B v n f) :
    Calls Try.prog 98 #[v, .int .i64 x] w fun e w' => e = .returned (.int .i64 (AtV n f x)) ∧ Drawn w w' := by
  by_cases hv : Vld n f
  · rw [AtV_yes hv]; exact refAt_yes hs hv
  · rw [AtV_no hv]; exact refAt_no hn hs hv

end Go.Proofs.Ytmilljlkcbljpaa

/- sort.Search over a closure of package curve; Solve and its reference. -/
namespace Go.Proofs.Ytmilljlkcbljpaa
open Go.RowKit

/-- What a binary search below 65535 finds. -/
def Found (p : Nat → Bool) (r : Nat) : Prop := r ≤ 65535 ∧ (r = 0 ∨ p (r - 1) = false) ∧ (r = 65535 ∨ p r = true)

/-- A test that stays true. -/
def Stays (p : Nat → Bool) : Prop := ∀ i j, i ≤ j → j ≤ 65535 → p i = true → p j = true

/-- Over a test that stays true, all is said. -/
theorem Found.all {p : Nat → Bool} {r : Nat} (h : Found p r) (hm : Stays p) : r ≤ 65535 ∧ (∀ k, k < r → p k = false) ∧ (∀ k, r ≤ k → k < 65535 → p k = true) := by
  refine ⟨h.1, fun k hk => ?_, fun k hk hk' => ?_⟩
  · rcases h.2.1 with h0 | h0
    · omega
    · cases e : p k with
      | false => rfl
      | true => rw [hm k (r - 1) (by omega) (by have := h.1; omega) e] at h0; exact absurd h0 (by simp)
  · rcases h.2.2 with h0 | h0
    · omega
    · exact hm r k hk (by omega) h0
theorem Found.unique {p : Nat → Bool} {r s : Nat} (h : Found p r) (h' : Found p s) (hm : Stays p) : r = s := by
  have a := h.all hm
  have b := h'.all hm
  rcases Nat.lt_trichotomy r s with e | e | e
  · have h1 := b.2.1 r e
    have h2 := a.2.2 r (Nat.le_refl _) (by have := b.1; omega)
    rw [h1] at h2; exact absurd h2 (by simp)
  · exact e
  · have h1 := a.2.1 s e
    have h2 := b.2.2 s (Nat.le_refl _) (by have := a.1; omega)
    rw [h1] at h2; exact absurd h2 (by simp)

/-- What a binary search finds. -/
noncomputable def fnd (p : Nat → Bool) : Nat := Classical.epsilon (Found p)
theorem Found.eq {p : Nat → Bool} {r : Nat} (h : Found p r) (hm : Stays p) : r = fnd p := h.unique (Classical.epsilon_spec (p := Found p) ⟨r, h⟩) hm

set_option maxHeartbeats 1000000 in
theorem search_solve {p : Nat → Bool} {c1 c2 : Value} {w : World}
    (hf : ∀ (k : Nat) (w' : World), k < 65535 → Below w.heap.size w w' → Calls Try.prog 112 #[.int .i64 k, c1, c2] w' fun e w'' => e = .returned (.bool (p k)) ∧ Below w.heap.size w w'') :
    Calls Try.prog 111 #[.int .i64 65535, .func (.func 112) #[] #[c1, c2]] w fun e w' => ∃ r : Nat, e = .returned (.int .i64 r) ∧ Found p r ∧ Below w.heap.size w w' := by
  have HF := Lib.hid hf
  clear hf
  go_enter Try.func111, Try.ntmps111
  go_wp2
  go_loopw [5, 6] (fun i j wr => ∃ a b : Nat, a ≤ b ∧ b ≤ 65535 ∧ i = .int .i64 a ∧ j = .int .i64 b ∧ Hid (a = 0 ∨ p (a - 1) = false) ∧ Hid (b = 65535 ∨ p b = true) ∧ Below w.heap.size w wr) (fun i j _ => (intOf j - intOf i).toNat)
  case atStart => exact ⟨0, 65535, by omega, by omega, rfl, rfl, Lib.hid (.inl rfl), Lib.hid (.inl rfl), Below.refl _ _⟩
  case round =>
    obtain ⟨a, b, hab, hb, rfl, rfl, ha', hb', hq⟩ := hrel
    by_cases hlt : a < b
    · obtain ⟨h, hh, h1, h2⟩ : ∃ h : Nat, Hid (((a : Int) + b) / 2 = (h : Int)) ∧ a ≤ h ∧ h < b := ⟨(a + b) / 2, Lib.hid (by omega), by omega, by omega⟩
      cases hp : p h with
      | true =>
        go_wp2_with fail
        rw [hh.out]
        refine (HF.out h wr (by omega) hq).mono ?_
        rintro e w1 ⟨rfl, hq1⟩
        go_wp2
        go_roundw
        case rel => exact ⟨a, h, h1, by omega, rfl, rfl, ha', Lib.hid (.inr hp), hq1⟩
        case measure => simp [intOf]; omega
      | false =>
        go_wp2_with fail
        rw [hh.out]
        refine (HF.out h wr (by omega) hq).mono ?_
        rintro e w1 ⟨rfl, hq1⟩
        go_wp2
        go_roundw
        case rel => exact ⟨h + 1, b, by omega, by omega, by go_num, rfl, Lib.hid (.inr (by simpa using hp)), hb', hq1⟩
        case measure => simp [intOf]; omega
    · obtain rfl : a = b := by omega
      go_wp2
      go_ret
      exact ⟨a, rfl, ⟨hb, ha'.out, hb'.out⟩, hq⟩

/-- Whether a curve has reached y at x. -/
def reach (n : Nat) (f : Nat → Int) (y : Int) (x : Nat) : Bool := decide (y ≤ atV f (n - 1) x)

set_option maxHeartbeats 400000 in
theorem solve1_any {f : Nat → Int} {n B b1 b2 : Nat} {v : Value} {x : Nat} {y : Int} {w : World} (hv : Vld n f) (hs : Sl w B v n f) (hx : x < 65535)
    (c1 : w.cell? ⟨b1, 0, none⟩ = some v) (c2 : w.cell? ⟨b2, 0, none⟩ = some (.int .i64 y)) :
    Calls Try.prog 112 #[.int .i64 x, .pointer (some ⟨b1, 0, none⟩), .pointer (some ⟨b2, 0, none⟩)] w fun e w' => e = .returned (.bool (reach n f y x)) ∧ Drawn w w' := by
  obtain ⟨b, off, cap, rfl, _⟩ := hs.at (by have := hv.1; omega)
  cases hp : reach n f y x with
  | true =>
    have h1 : y ≤ atV f (n - 1) x := by simpa [reach] using hp
    have h2 : decide (y ≤ atV f (n - 1) x) = true := by simpa using h1
    clear hp
    go_enter Try.func112, Try.ntmps112
    go_wp2
    go_quiet ((go_at_call 74; exact Calls.quiet_of (at_any hv (hs.drawnN _) (by omega) (by omega))))
    go_wp2
    go_ret
    exact ⟨rfl, .of _⟩
  | false =>
    have h1 : ¬ y ≤ atV f (n - 1) x := by simpa [reach] using hp
    have h2 : decide (y ≤ atV f (n - 1) x) = false := by simpa using h1
    clear hp
    go_enter Try.func112, Try.ntmps112
    go_wp2
    go_quiet ((go_at_call 74; exact Calls.quiet_of (at_any hv (hs.drawnN _) (by omega) (by omega))))
    go_wp2
    go_ret
    exact ⟨rfl, .of _⟩

/-- The two boxes of Solve. -/
theorem boxes {w : World} {v : Value} {y : Int} (t t' : TypeId) : ∃ w0, (w.alloc (.cells #[v] t)).alloc (.cells #[.int .i64 y] t') = w0 ∧ Below w.heap.size w w0 ∧ w0.heap.size = w.heap.size + 2 ∧
    w0.cell? ⟨w.heap.size, 0, none⟩ = some v ∧ w0.cell? ⟨w.heap.size + 1, 0, none⟩ = some (.int .i64 y) := by
  refine ⟨_, rfl, ((Below.refl _ w).alloc (Nat.le_refl _) _).alloc (by simp) _, by simp, ?_, ?_⟩
  · rw [World.cell?_alloc_past _ _ _ (by simp), World.cell?_alloc_at _ _ _ _ rfl]; rfl
  · rw [World.cell?_alloc_at _ _ _ _ (by simp)]; rfl

set_option maxHeartbeats 400000 in
theorem solve_no {f : Nat → Int} {n B : Nat} {v : Value} {y : Int} {w : World} (hn : n ≤ 9223372036854775807) (hB : B ≤ w.heap.size) (hs : Sl w B v n f) (hv : ¬ (Vld n f ∧ y ≤ f (n - 1))) :
    Calls Try.prog 100 #[v, .int .i64 y] w fun e w' => e = .returned (.tuple #[.int .i64 0, .bool false]) ∧ Below w.heap.size w w' := by
  obtain ⟨w0, h0, hb, hz, b1, b2⟩ := boxes (w := w) (v := v) (y := y) 59 3
  have hs0 := hs.below hb hB
  have hz' := Lib.hid hz
  clear hz
  by_cases hv1 : Vld n f
  · have V1 := vldB_t hv1
    have hy : f (n - 1) < y := by have := mt (And.intro hv1) hv; omega
    obtain ⟨b, off, cap, rfl, hbB, hc⟩ := hs.at (by have := hv1.1; omega)
    obtain ⟨m, rfl⟩ : ∃ m, n = m + 1 := ⟨n - 1, by have := hv1.1; omega⟩
    rw [Nat.add_sub_cancel] at hy
    have c1 := hc.below hb (by omega) m (by omega)
    have d1 : decide (f m < y) = true := by simpa using hy
    go_enter Try.func100, Try.ntmps100
    go_wp2_with fail
    go_quiet ((go_at_call 62; exact Calls.quiet_of (valid_any hn (hs0.drawnN _))))
    go_wp2
    go_ret2
    exact ⟨rfl, below_drewN hb _⟩
  · have V1 := vldB_f hv1
    obtain ⟨a, cap, rfl⟩ := hs.shape
    go_enter Try.func100, Try.ntmps100
    go_wp2_with fail
    go_quiet ((go_at_call 62; exact Calls.quiet_of (valid_any hn (hs0.drawnN _))))
    go_wp2
    go_ret2
    exact ⟨rfl, below_drewN hb _⟩

set_option maxHeartbeats 400000 in
theorem solve_yes {f : Nat → Int} {n B : Nat} {v : Value} {y : Int} {w : World} (hB : B ≤ w.heap.size) (hs : Sl w B v n f) (hv : Vld n f) (hy : y ≤ f (n - 1)) :
    Calls Try.prog 100 #[v, .int .i64 y] w fun e w' => ∃ r : Nat, e = .returned (.tuple #[.int .i64 r, .bool true]) ∧ Found (reach n f y) r ∧ Below w.heap.size w w' := by
  have hn : n ≤ 9223372036854775807 := by have := hv.2.1; omega
  have hmf : ∀ (fn : Fn) (first cap : Array Value) (w : World), (Instr.makeFunc fn first cap).run Try.prog w = .ok (.func fn first cap) w := fun _ _ _ _ => rfl
  obtain ⟨w0, h0, hb, hz, b1, b2⟩ := boxes (w := w) (v := v) (y := y) 59 3
  have hs0 := hs.below hb hB
  have hz' := Lib.hid hz
  clear hz
  have V1 := vldB_t hv
  obtain ⟨b, off, cap, rfl, hbB, hc⟩ := hs.at (by have := hv.1; omega)
  obtain ⟨m, rfl⟩ : ∃ m, n = m + 1 := ⟨n - 1, by have := hv.1; omega⟩
  rw [Nat.add_sub_cancel] at hy
  have c1 := hc.below hb (by omega) m (by omega)
  have d1 : decide (f m < y) = false := by simp; omega
  go_enter Try.func100, Try.ntmps100
  go_wp2_with fail
  go_quiet ((go_at_call 62; exact Calls.quiet_of (valid_any hn (hs0.drawnN _))))
  go_wp2_with fail
  refine (search_solve (p := reach (m + 1) f y) fun k w' hk hbw => ?_).mono ?_
  · have e1 : w'.cell? ⟨w.heap.size, 0, none⟩ = _ := (hbw.cell (p := ⟨w.heap.size, 0, none⟩) (by have := hz'.out; simp; omega)).trans b1
    have e2 : w'.cell? ⟨w.heap.size + 1, 0, none⟩ = _ := (hbw.cell (p := ⟨w.heap.size + 1, 0, none⟩) (by have := hz'.out; simp; omega)).trans b2
    refine (solve1_any hv ((hs0.drawnN nq).below hbw (by have := hb.size; simp; omega)) hk e1 e2).mono ?_
    rintro e w'' ⟨he, hd⟩
    exact ⟨he, hbw.trans (hd.below _)⟩
  · rintro e w' ⟨r, rfl, hr, hbw⟩
    go_wp2
    go_ret2
    exact ⟨r, rfl, hr, (below_drewN hb nq).trans (hbw.mono (by have := hb.size; simp; omega))⟩

end Go.Proofs.Ytmilljlkcbljpaa

/- What Solve returns, and its reference. -/
namespace Go.Proofs.Ytmilljlkcbljpaa
open Go.RowKit

theorem reach_stays {n : Nat} {f : Nat → Int} (h : Vld n f) (y : Int) : Stays (reach n f y) := by
  intro i j hij hj hi
  simp only [reach, decide_eq_true_eq] at hi ⊢
  exact Int.le_trans hi (atV_mono_nat h hij hj)

/-- What Solve finds. -/
noncomputable def slv (n : Nat) (f : Nat → Int) (y : Int) : Nat := fnd (reach n f y)

theorem solve_val {f : Nat → Int} {n B : Nat} {v : Value} {y : Int} {w : World} (hB : B ≤ w.heap.size) (hs : Sl w B v n f) (hv : Vld n f) (hy : y ≤ f (n - 1)) :
    Calls Try.prog 100 #[v, .int .i64 y] w fun e w' => e = .returned (.tuple #[.int .i64 (slv n f y : Nat), .bool true]) ∧ Below w.heap.size w w' :=
  (solve_yes hB hs hv hy).mono fun _ _ ⟨_, he, hr, hb⟩ => ⟨by rw [he, hr.eq (reach_stays hv y)]; rfl, hb⟩

set_option maxHeartbeats 1000000 in
theorem refSolve_no {f : Nat → Int} {n B : Nat} {v : Value} {y : Int} {w : World} (hn : n ≤ 9223372036854775807) (hB : B ≤ w.heap.size) (hs : Sl w B v n f) (hv : ¬ (Vld n f ∧ y ≤ f (n - 1))) :
    Calls Try.prog 101 #[v, .int .i64 y] w fun e w' => e = .returned (.agg #[.int .i64 0, .bool false]) ∧ Below w.heap.size w w' := by
  obtain ⟨w0, h0⟩ : ∃ w0, w.alloc (.cells #[.int .i64 0, .bool false] 107) = w0 := ⟨_, rfl⟩
  have hb : Below w.heap.size w w0 := by rw [← h0]; exact (Below.refl _ w).alloc (Nat.le_refl _) _
  have hs0 := hs.below hb hB
  by_cases hv1 : Vld n f
  · have V1 := vldB_t hv1
    have hy : f (n - 1) < y := by have := mt (And.intro hv1) hv; omega
    obtain ⟨b, off, cap, rfl, hbB, hc⟩ := hs.at (by have := hv1.1; omega)
    obtain ⟨m, rfl⟩ : ∃ m, n = m + 1 := ⟨n - 1, by have := hv1.1; omega⟩
    rw [Nat.add_sub_cancel] at hy
    have c1 := hc.below hb (by omega) m (by omega)
    have d1 : decide (f m < y) = true := by simpa using hy
    subst h0
    go_enter Try.func101, Try.ntmps101
    go_wp2_with fail
    refine (refValid_any hn hs0).mono ?_
    rintro e w1 ⟨rfl, q⟩
    obtain ⟨j, rfl⟩ := q
    rw [V1]
    go_wp2
    refine bodyPost_ret (v := .agg #[.int .i64 0, .bool false]) (by simp [results, Try.results101, go_sem]) rfl ?_
    exact ⟨rfl, ((below_drewN hb j).setCell (p := ⟨w.heap.size, 0, none⟩) (Nat.le_refl _) _).setCell (p := ⟨w.heap.size, 1, none⟩) (Nat.le_refl _) _⟩
  · have V1 := vldB_f hv1
    obtain ⟨a, cap, rfl⟩ := hs.shape
    subst h0
    go_enter Try.func101, Try.ntmps101
    go_wp2_with fail
    refine (refValid_any hn hs0).mono ?_
    rintro e w1 ⟨rfl, q⟩
    obtain ⟨j, rfl⟩ := q
    rw [V1]
    go_wp2
    refine bodyPost_ret (v := .agg #[.int .i64 0, .bool false]) (by simp [results, Try.results101, go_sem]) rfl ?_
    exact ⟨rfl, ((below_drewN hb j).setCell (p := ⟨w.heap.size, 0, none⟩) (Nat.le_refl _) _).setCell (p := ⟨w.heap.size, 1, none⟩) (Nat.le_refl _) _⟩

set_option maxHeartbeats 1000000 in
theorem refSolve_yes {f : Nat → Int} {n B : Nat} {v : Value} {y : Int} {w : World} (hB : B ≤ w.heap.size) (hs : Sl w B v n f) (hv : Vld n f) (hy : y ≤ f (n - 1)) :
    Calls Try.prog 101 #[v, .int .i64 y] w fun e w' => e = .returned (.agg #[.int .i64 (slv n f y : Nat), .bool true]) ∧ Below w.heap.size w w' := by
  have hn : n ≤ 9223372036854775807 := by have := hv.2.1; omega
  obtain ⟨w0, h0⟩ : ∃ w0, w.alloc (.cells #[.int .i64 0, .bool false] 107) = w0 := ⟨_, rfl⟩
  have hb : Below w.heap.size w w0 := by rw [← h0]; exact (Below.refl _ w).alloc (Nat.le_refl _) _
  have hs0 := hs.below hb hB
  have V1 := vldB_t hv
  obtain ⟨b, off, cap, rfl, hbB, hc⟩ := hs.at (by have := hv.1; omega)
  obtain ⟨m, rfl⟩ : ∃ m, n = m + 1 := ⟨n - 1, by have := hv.1; omega⟩
  rw [Nat.add_sub_cancel] at hy
  have c1 := hc.below hb (by omega) m (by omega)
  have d1 : decide (f m < y) = false := by simp; omega
  have H0 := Lib.hid h0
  subst h0
  go_enter Try.func101, Try.ntmps101
  go_wp2_with fail
  refine (refValid_any hn hs0).mono ?_
  rintro e w1 ⟨rfl, q⟩
  obtain ⟨j, rfl⟩ := q
  rw [V1]
  go_wp2
  go_loopw [6, 7] (fun i j' wr => ∃ a b : Nat, a ≤ b ∧ b ≤ 65535 ∧ i = .int .i64 a ∧ j' = .int .i64 b ∧ Hid (a = 0 ∨ reach (m + 1) f y (a - 1) = false) ∧ Hid (b = 65535 ∨ reach (m + 1) f y b = true) ∧ ∃ q : Nat, wr = (w.alloc (.cells #[.int .i64 0, .bool false] 107)).drewN q) (fun i j' _ => (intOf j' - intOf i).toNat)
  case atStart => exact ⟨0, 65535, by omega, by omega, rfl, rfl, Lib.hid (.inl rfl), Lib.hid (.inl rfl), j, rfl⟩
  case round =>
    obtain ⟨a, c, hac, hc', rfl, rfl, ha', hb', q, rfl⟩ := hrel
    by_cases hlt : a < c
    · obtain ⟨h, hh, h1, h2⟩ : ∃ h : Nat, Hid (((a : Int) + c) / 2 = (h : Int)) ∧ a ≤ h ∧ h < c := ⟨(a + c) / 2, Lib.hid (by omega), by omega, by omega⟩
      cases hp : reach (m + 1) f y h with
      | true =>
        have g1 : y ≤ atV f m h := by simpa [reach] using hp
        have g2 : decide (y ≤ atV f m h) = true := by simpa using g1
        have HP := Lib.hid hp
        clear hp
        go_wp2_with fail
        rw [hh.out]
        refine (value_any hv (hs0.drawnN q) (by omega) (by omega)).mono ?_
        rintro e w1 ⟨rfl, q1⟩
        obtain ⟨j1, rfl⟩ := q1
        go_wp2
        go_roundw
        case rel => exact ⟨a, h, h1, by omega, rfl, rfl, ha', Lib.hid (.inr HP.out), _, rfl⟩
        case measure => simp [intOf]; omega
      | false =>
        have g1 : ¬ y ≤ atV f m h := by simpa [reach] using hp
        have g2 : decide (y ≤ atV f m h) = false := by simpa using g1
        have HP := Lib.hid hp
        clear hp
        go_wp2_with fail
        rw [hh.out]
        refine (value_any hv (hs0.drawnN q) (by omega) (by omega)).mono ?_
        rintro e w1 ⟨rfl, q1⟩
        obtain ⟨j1, rfl⟩ := q1
        go_wp2
        go_roundw
        case rel => exact ⟨h + 1, c, by omega, by omega, by go_num, rfl, Lib.hid (.inr (by simpa using HP.out)), hb', _, rfl⟩
        case measure => simp [intOf]; omega
    · obtain rfl : a = c := by omega
      have E : a = slv (m + 1) f y := Found.eq ⟨hc', ha'.out, hb'.out⟩ (reach_stays hv y)
      have HE := Lib.hid E
      clear E
      go_wp2
      refine bodyPost_ret (v := .agg #[.int .i64 a, .bool true]) (by simp [results, Try.results101, go_sem]) rfl ?_
      refine ⟨by rw [← HE.out], ?_⟩
      exact ((below_drewN hb _).setCell (p := ⟨w.heap.size, 0, none⟩) (Nat.le_refl _) _).setCell (p := ⟨w.heap.size, 1, none⟩) (Nat.le_refl _) _

open Classical in
/-- Whether Solve finds a solution. -/
noncomputable def slvOk (n : Nat) (f : Nat → Int) (y : Int) : Bool := decide (Vld n f ∧ y ≤ f (n - 1))
theorem slvOk_t {n : Nat} {f : Nat → Int} {y : Int} (h : Vld n f ∧ y ≤ f (n - 1)) : slvOk n f y = true := by simp [slvOk, h]
theorem slvOk_f {n : Nat} {f : Nat → Int} {y : Int} (h : ¬ (Vld n f ∧ y ≤ f (n - 1))) : slvOk n f y = false := by classical exact decide_eq_false h
/-- The argument that Solve returns. -/
noncomputable def slvX (n : Nat) (f : Nat → Int) (y : Int) : Nat := bif slvOk n f y then slv n f y else 0

theorem solve_any {f : Nat → Int} {n B : Nat} {v : Value} {y : Int} {w : World} (hn : n ≤ 9223372036854775807) (hB : B ≤ w.heap.size) (hs : Sl w B v n f) :
    Calls Try.prog 100 #[v, .int .i64 y] w fun e w' => e = .returned (.tuple #[.int .i64 (slvX n f y : Nat), .bool (slvOk n f y)]) ∧ Below w.heap.size w w' := by
  by_cases h : Vld n f ∧ y ≤ f (n - 1)
  · rw [slvX, slvOk_t h]; exact solve_val hB hs h.1 h.2
  · rw [slvX, slvOk_f h]; exact solve_no hn hB hs h
theorem refSolve_any {f : Nat → Int} {n B : Nat} {v : Value} {y : Int} {w : World} (hn : n ≤ 9223372036854775807) (hB : B ≤ w.heap.size) (hs : Sl w B v n f) :
    Calls Try.prog 101 #[v, .int .i64 y] w fun e w' => e = .returned (.agg #[.int .i64 (slvX n f y : Nat), .bool (slvOk n f y)]) ∧ Below w.heap.size w w' := by
  by_cases h : Vld n f ∧ y ≤ f (n - 1)
  · rw [slvX, slvOk_t h]; exact refSolve_yes hB hs h.1 h.2
  · rw [slvX, slvOk_f h]; exact refSolve_no hn hB hs h

theorem first_ex (p : Nat → Bool) : ∀ k, p k = true → ∃ r, r ≤ k ∧ p r = true ∧ (r = 0 ∨ p (r - 1) = false)
  | 0, h => ⟨0, Nat.le_refl _, h, .inl rfl⟩
  | k + 1, h => by
    cases e : p k with
    | false => exact ⟨k + 1, Nat.le_refl _, h, .inr (by simpa using e)⟩
    | true =>
      obtain ⟨r, h1, h2, h3⟩ := first_ex p k e
      exact ⟨r, by omega, h2, h3⟩

theorem found_ex (p : Nat → Bool) : ∃ r, Found p r := by
  cases e : p 65535 with
  | true =>
    obtain ⟨r, h1, h2, h3⟩ := first_ex p 65535 e
    exact ⟨r, h1, h3, .inr h2⟩
  | false =>
    cases e' : p 65534 with
    | false => exact ⟨65535, by omega, .inr e', .inl rfl⟩
    | true =>
      obtain ⟨r, h1, h2, h3⟩ := first_ex p 65534 e'
      exact ⟨r, by omega, h3, .inr h2⟩

/-- What the solution is. -/
theorem slv_is {n : Nat} {f : Nat → Int} {y : Int} (h : Vld n f) (hy : y ≤ f (n - 1)) :
    slv n f y ≤ 65535 ∧ y ≤ atV f (n - 1) (slv n f y : Nat) ∧ ∀ k : Nat, k < slv n f y → atV f (n - 1) k < y := by
  have hm := reach_stays h y
  have hf : Found (reach n f y) (slv n f y) := Classical.epsilon_spec (p := Found (reach n f y)) (found_ex _)
  obtain ⟨h1, h2, h3⟩ := hf.all hm
  refine ⟨h1, ?_, fun k hk => ?_⟩
  · rcases hf.2.2 with e | e
    · rw [e, show ((65535 : Nat) : Int) = 65535 from rfl, atV_top]; exact hy
    · simpa [reach] using e
  · have := h2 k hk
    simp [reach] at this
    omega

end Go.Proofs.Ytmilljlkcbljpaa

/- Colours: three numbers in a block, and each, which maps them by a function, whatever function it is. -/
namespace Go.Proofs.Ytmilljlkcbljpaa
open Go.RowKit

/-- A colour, as a value. -/
def col (c : Nat → Int) : Value := .agg #[.int .i64 (c 0), .int .i64 (c 1), .int .i64 (c 2)]

/-- Three numbers in a block. -/
def Tri (t : TypeId) (w : World) (b : Nat) (c : Nat → Int) : Prop := w.heap[b]? = some (.cells #[.int .i64 (c 0), .int .i64 (c 1), .int .i64 (c 2)] t (0, 0))
theorem Tri.c0 {t : TypeId} {w : World} {b : Nat} {c : Nat → Int} (h : Tri t w b c) : w.cell? ⟨b, 0, none⟩ = some (.int .i64 (c 0)) := by simp [World.cell?, show w.heap[b]? = _ from h]
theorem Tri.c1 {t : TypeId} {w : World} {b : Nat} {c : Nat → Int} (h : Tri t w b c) : w.cell? ⟨b, 1, none⟩ = some (.int .i64 (c 1)) := by simp [World.cell?, show w.heap[b]? = _ from h]
theorem Tri.c2 {t : TypeId} {w : World} {b : Nat} {c : Nat → Int} (h : Tri t w b c) : w.cell? ⟨b, 2, none⟩ = some (.int .i64 (c 2)) := by simp [World.cell?, show w.heap[b]? = _ from h]
theorem Tri.free {t : TypeId} {w : World} {b : Nat} {c : Nat → Int} (h : Tri t w b c) (j : Nat) : w.frozen? ⟨b, j, none⟩ = false := frozen_of_row w b j _ _ h
theorem Tri.lt {t : TypeId} {w : World} {b : Nat} {c : Nat → Int} (h : Tri t w b c) : b < w.heap.size := (Array.getElem?_eq_some_iff.1 h).1
theorem Tri.below {t : TypeId} {w w' : World} {b B : Nat} {c : Nat → Int} (h : Tri t w b c) (hb : Below B w w') (hB : b < B) : Tri t w' b c := (hb.block b hB).trans h
theorem Tri.on {t : TypeId} {w w' : World} {b : Nat} {c : Nat → Int} (h : Tri t w b c) (hb : Below w.heap.size w w') : Tri t w' b c := h.below hb h.lt
theorem Tri.keep {t : TypeId} {w : World} {b b' j : Nat} {c : Nat → Int} {v : Value} (h : Tri t w b c) (hb : b ≠ b') : Tri t (w.setCell ⟨b', j, none⟩ v) b c := (Below.heap_setCell w ⟨b', j, none⟩ v b hb).trans h
theorem Tri.congr {t : TypeId} {w : World} {b : Nat} {c d : Nat → Int} (h : Tri t w b c) (h0 : d 0 = c 0) (h1 : d 1 = c 1) (h2 : d 2 = c 2) : Tri t w b d := by unfold Tri; rw [h0, h1, h2]; exact h
theorem Tri.set {t : TypeId} {w : World} {b j : Nat} {c d : Nat → Int} {v : Int} (h : Tri t w b c) (hj : j < 3) (hv : d j = v) (ho : ∀ i, i ≠ j → d i = c i) : Tri t (w.setCell ⟨b, j, none⟩ (.int .i64 v)) b d := by
  have h1 := heap_setCell_same w b j _ _ (.int .i64 v) h
  unfold Tri
  rw [h1]
  subst hv
  rcases j with _ | _ | _ | j
  · simp [ho 1 (by omega), ho 2 (by omega)]
  · simp [ho 0 (by omega), ho 2 (by omega)]
  · simp [ho 0 (by omega), ho 1 (by omega)]
  · omega
theorem Tri.new (w : World) (c : Nat → Int) (t : TypeId) : Tri t (w.alloc (.cells #[.int .i64 (c 0), .int .i64 (c 1), .int .i64 (c 2)] t)) w.heap.size c := heap_alloc_new w _

theorem set3_below {B b : Nat} {w w0 : World} (h : Below B w w0) (hb : B ≤ b) (x0 x1 x2 : Value) : Below B w (((w0.setCell ⟨b, 0, none⟩ x0).setCell ⟨b, 1, none⟩ x1).setCell ⟨b, 2, none⟩ x2) :=
  ((h.setCell (p := ⟨b, 0, none⟩) hb _).setCell (p := ⟨b, 1, none⟩) hb _).setCell (p := ⟨b, 2, none⟩) hb _
theorem Tri.cell {t : TypeId} {w : World} {b : Nat} {c : Nat → Int} (h : Tri t w b c) (j : Nat) (hj : j < 3) : w.cell? ⟨b, j, none⟩ = some (.int .i64 (c j)) := by
  obtain rfl | rfl | rfl : j = 0 ∨ j = 1 ∨ j = 2 := by omega
  · exact h.c0
  · exact h.c1
  · exact h.c2

theorem index_0 (x0 x1 x2 : Value) (w : World) : (Instr.index 28 (.agg #[x0, x1, x2]) (.int .i64 0)).run Try.prog w = .ok x0 w := by kernel_rfl
theorem index_1 (x0 x1 x2 : Value) (w : World) : (Instr.index 28 (.agg #[x0, x1, x2]) (.int .i64 1)).run Try.prog w = .ok x1 w := by kernel_rfl
theorem index_2 (x0 x1 x2 : Value) (w : World) : (Instr.index 28 (.agg #[x0, x1, x2]) (.int .i64 2)).run Try.prog w = .ok x2 w := by kernel_rfl

/-- The numbers after k rounds of each. -/
def eachV (c r : Nat → Int) (k i : Nat) : Int := if i < k then r i else c i

set_option maxHeartbeats 1000000 in
theorem each_clamped {b1 b2 : Value} {c r : Nat → Int} {w : World}
    (hf : ∀ i : Nat, i < 3 → ∀ W, Below w.heap.size w W → Calls Try.prog 89 #[.int .i64 i, .int .i64 (c i), b1, b2] W fun e W' => e = .returned (.int .i64 (r i)) ∧ Below W.heap.size W W') :
    Calls Try.prog 58 #[col c, .func (.func 89) #[] #[b1, b2]] w fun e w' => e = .returned (col r) ∧ Below w.heap.size w w' := by
  have HF := Lib.hid hf
  clear hf
  unfold col
  have i0 := index_0
  have i1 := index_1
  have i2 := index_2
  go_enter Try.func58, Try.ntmps58
  go_wp2
  have T1 := (Tri.new w c 28).below (((Below.refl _ _).alloc (Nat.le_refl _) (.cells #[.int .i64 0, .int .i64 0, .int .i64 0] 28))) (by simp)
  have T2 := Tri.new (w.alloc (.cells #[.int .i64 (c 0), .int .i64 (c 1), .int .i64 (c 2)] 28)) (fun _ => 0) 28
  rw [World.size_alloc] at T2
  have B1 : Below w.heap.size w ((w.alloc (.cells #[.int .i64 (c 0), .int .i64 (c 1), .int .i64 (c 2)] 28)).alloc (.cells #[.int .i64 0, .int .i64 0, .int .i64 0] 28)) := ((Below.refl _ w).alloc (Nat.le_refl _) _).alloc (by simp) _
  go_loopw [8] (fun i wr => ∃ k : Nat, k ≤ 3 ∧ i = .int .i64 k ∧ Tri 28 wr w.heap.size (eachV c r k) ∧ Tri 28 wr (w.heap.size + 1) (fun _ => 0) ∧ Below w.heap.size w wr) (fun i _ => 3 - (intOf i).toNat)
  case atStart => exact ⟨0, by omega, rfl, T1, T2, B1⟩
  case round =>
    obtain ⟨k, hk, rfl, t1, t2, hb⟩ := hrel
    obtain rfl | rfl | rfl | rfl : k = 0 ∨ k = 1 ∨ k = 2 ∨ k = 3 := by omega
    · have hF := HF.out 0 (by omega)
      have hT := Lib.hid t1
      have hT2 := Lib.hid t2
      have hc : wr.cell? ⟨w.heap.size, 0, none⟩ = some (.int .i64 (c 0)) := t1.c0
      have HF' := Lib.hid hF
      clear hF t1 t2
      have hsz := hb.size
      go_wp2_with fail
      refine (HF'.out wr hb).mono ?_
      rintro e w1 ⟨rfl, hb1⟩
      have t1 := hT.out.on hb1
      have t2 := hT2.out.on hb1
      have hc' := t1.c0
      have hfr := t1.free 0
      have HS := Lib.hid (t1.set (j := 0) (d := eachV c r 1) (v := r 0) (by omega) (by simp [eachV]) (fun i hi => by unfold eachV; by_cases h : i < 0 <;> simp [h] <;> omega))
      have HK := Lib.hid (t2.keep (b' := w.heap.size) (j := 0) (v := .int .i64 (r 0)) (by omega))
      have hb2 := hb.trans (hb1.mono hsz)
      clear t1 t2
      go_wp2
      go_roundw
      case rel => exact ⟨1, by omega, rfl, HS.out, HK.out, hb2.setCell (by simp) _⟩
      case measure => simp [intOf]
    · have hF := HF.out 1 (by omega)
      have hT := Lib.hid t1
      have hT2 := Lib.hid t2
      have hc : wr.cell? ⟨w.heap.size, 1, none⟩ = some (.int .i64 (c 1)) := t1.c1
      have HF' := Lib.hid hF
      clear hF t1 t2
      have hsz := hb.size
      go_wp2_with fail
      refine (HF'.out wr hb).mono ?_
      rintro e w1 ⟨rfl, hb1⟩
      have t1 := hT.out.on hb1
      have t2 := hT2.out.on hb1
      have hc' := t1.c1
      have hfr := t1.free 1
      have HS := Lib.hid (t1.set (j := 1) (d := eachV c r 2) (v := r 1) (by omega) (by simp [eachV]) (fun i hi => by unfold eachV; by_cases h : i < 1 <;> simp [h] <;> omega))
      have HK := Lib.hid (t2.keep (b' := w.heap.size) (j := 1) (v := .int .i64 (r 1)) (by omega))
      have hb2 := hb.trans (hb1.mono hsz)
      clear t1 t2
      go_wp2
      go_roundw
      case rel => exact ⟨2, by omega, rfl, HS.out, HK.out, hb2.setCell (by simp) _⟩
      case measure => simp [intOf]
    · have hF := HF.out 2 (by omega)
      have hT := Lib.hid t1
      have hT2 := Lib.hid t2
      have hc : wr.cell? ⟨w.heap.size, 2, none⟩ = some (.int .i64 (c 2)) := t1.c2
      have HF' := Lib.hid hF
      clear hF t1 t2
      have hsz := hb.size
      go_wp2_with fail
      refine (HF'.out wr hb).mono ?_
      rintro e w1 ⟨rfl, hb1⟩
      have t1 := hT.out.on hb1
      have t2 := hT2.out.on hb1
      have hc' := t1.c2
      have hfr := t1.free 2
      have HS := Lib.hid (t1.set (j := 2) (d := eachV c r 3) (v := r 2) (by omega) (by simp [eachV]) (fun i hi => by unfold eachV; by_cases h : i < 2 <;> simp [h] <;> omega))
      have HK := Lib.hid (t2.keep (b' := w.heap.size) (j := 2) (v := .int .i64 (r 2)) (by omega))
      have hb2 := hb.trans (hb1.mono hsz)
      clear t1 t2
      go_wp2
      go_roundw
      case rel => exact ⟨3, by omega, rfl, HS.out, HK.out, hb2.setCell (by simp) _⟩
      case measure => simp [intOf]
    · have d0 := t1.c0
      have d1 : wr.cell? ⟨w.heap.size, 1, none⟩ = some (.int .i64 (r 1)) := t1.c1
      have d2 : wr.cell? ⟨w.heap.size, 2, none⟩ = some (.int .i64 (r 2)) := t1.c2
      have x0 := t2.c0
      have x1 := t2.c1
      have x2 := t2.c2
      have y0 := t2.free 0
      have y1 := t2.free 1
      have y2 := t2.free 2
      clear t1 t2
      go_wp2
      refine bodyPost_ret (v := .agg #[.int .i64 (r 0), .int .i64 (r 1), .int .i64 (r 2)]) (by simp [results, Try.results58, go_sem, eachV, *]) rfl ?_
      refine ⟨rfl, ?_⟩
      first | exact hb | exact ((hb.setCell (p := ⟨w.heap.size + 1, 0, none⟩) (by simp) _).setCell (p := ⟨w.heap.size + 1, 1, none⟩) (by simp) _).setCell (p := ⟨w.heap.size + 1, 2, none⟩) (by simp) _


end Go.Proofs.Ytmilljlkcbljpaa

/- Plain words and laws of colours: clamping, the greatest share of the way from grey that stays in gamut. -/
namespace Go.Proofs.Ytmilljlkcbljpaa
open Go.RowKit

/-- v, clamped to a to b. -/
def clm (a b v : Int) : Int := if v < a then a else if b < v then b else v
theorem clm_lo {a b v : Int} (h : v < a) : clm a b v = a := if_pos h
theorem clm_hi {a b v : Int} (h : ¬ v < a) (h' : b < v) : clm a b v = b := by unfold clm; rw [if_neg h, if_pos h']
theorem clm_in {a b v : Int} (h : a ≤ v) (h' : v ≤ b) : clm a b v = v := by unfold clm; rw [if_neg (by omega), if_neg (by omega)]
theorem clm_bd {a b : Int} (hab : a ≤ b) (v : Int) : a ≤ clm a b v ∧ clm a b v ≤ b := by unfold clm; split <;> (try split) <;> omega
theorem clm_clm {a b v : Int} (hab : a ≤ b) : clm a b (clm a b v) = clm a b v := clm_in (clm_bd hab v).1 (clm_bd hab v).2

/-- A colour, clamped to the gamut; to the range of arguments. -/
def gam (c : Nat → Int) (i : Nat) : Int := clm 0 65535 (c i)
def bnd (c : Nat → Int) (i : Nat) : Int := clm (-16777216) 16777216 (c i)

theorem mul_abs {a b A B : Int} (h0 : -A ≤ a) (h1 : a ≤ A) (h2 : 0 ≤ b) (h3 : b ≤ B) : -(A * B) ≤ a * b ∧ a * b ≤ A * B := by
  by_cases h : 0 ≤ a
  · have := mul_bd h h1 h2 h3
    omega
  · have := mul_bd (a := -a) (A := A) (by omega) (by omega) h2 h3
    rw [Int.neg_mul] at this
    omega

/-- In gamut. -/
def InG (c : Nat → Int) : Prop := ∀ i, i < 3 → 0 ≤ c i ∧ c i ≤ 65535
/-- In the range of arguments. -/
def InB (c : Nat → Int) : Prop := ∀ i, i < 3 → -16777216 ≤ c i ∧ c i ≤ 16777216
theorem InB.of (c : Nat → Int) : InB (bnd c) := fun i _ => clm_bd (by omega) (c i)
theorem InG.of (c : Nat → Int) : InG (gam c) := fun i _ => clm_bd (by omega) (c i)
theorem InG.gam {c : Nat → Int} (h : InG c) : ∀ i, i < 3 → gam c i = c i := fun i hi => clm_in (h i hi).1 (h i hi).2
theorem InG.inB {c : Nat → Int} (h : InG c) : InB c := fun i hi => by have := h i hi; omega
theorem InB.bnd {c : Nat → Int} (h : InB c) : ∀ i, i < 3 → bnd c i = c i := fun i hi => clm_in (h i hi).1 (h i hi).2

open Classical in
/-- Whether a colour is in gamut. -/
noncomputable def ingB (c : Nat → Int) : Bool := decide (InG c)
theorem ingB_t {c : Nat → Int} (h : InG c) : ingB c = true := by simp [ingB, h]
theorem ingB_f {c : Nat → Int} (h : ¬ InG c) : ingB c = false := by simp [ingB, h]
theorem of_ingB {c : Nat → Int} (h : ingB c = true) : InG c := by simpa [ingB] using h

/-- The grey of a colour. -/
def gry (c : Nat → Int) : Int := clm 0 65535 ((c 0 + c 1 + c 2 + 1) / 3)
theorem gry_bd (c : Nat → Int) : 0 ≤ gry c ∧ gry c ≤ 65535 := clm_bd (by omega) _

/-- The share that a channel allows: numerator and denominator. -/
def shN (g v : Int) : Int := if v < 0 then g else if 65535 < v then 65535 - g else 1
def shD (g v : Int) : Int := if v < 0 then g - v else if 65535 < v then v - g else 1

/-- The least share of the first k channels. -/
def minS (g : Int) (c : Nat → Int) : Nat → Int × Int
  | 0 => (1, 1)
  | k + 1 => if shN g (c k) * (minS g c k).2 < (minS g c k).1 * shD g (c k) then (shN g (c k), shD g (c k)) else minS g c k

theorem minS_lt {g : Int} {c : Nat → Int} {k : Nat} (h : shN g (c k) * (minS g c k).2 < (minS g c k).1 * shD g (c k)) : minS g c (k + 1) = (shN g (c k), shD g (c k)) := if_pos h
theorem minS_ge {g : Int} {c : Nat → Int} {k : Nat} (h : ¬ shN g (c k) * (minS g c k).2 < (minS g c k).1 * shD g (c k)) : minS g c (k + 1) = minS g c k := if_neg h

theorem sh_bd {g v : Int} (h0 : 0 ≤ g) (h1 : g ≤ 65535) (hv : -16777216 ≤ v) (hv' : v ≤ 16777216) :
    0 ≤ shN g v ∧ shN g v ≤ 65535 ∧ shN g v ≤ shD g v ∧ 1 ≤ shD g v ∧ shD g v ≤ 16842751 := by
  unfold shN shD
  by_cases a : v < 0
  · rw [if_pos a, if_pos a]; omega
  · by_cases b : 65535 < v
    · rw [if_neg a, if_neg a, if_pos b, if_pos b]; omega
    · rw [if_neg a, if_neg a, if_neg b, if_neg b]; omega

theorem minS_bd {g : Int} {c : Nat → Int} (h0 : 0 ≤ g) (h1 : g ≤ 65535) (hc : InB c) : ∀ k, k ≤ 3 →
    0 ≤ (minS g c k).1 ∧ (minS g c k).1 ≤ 65535 ∧ (minS g c k).1 ≤ (minS g c k).2 ∧ 1 ≤ (minS g c k).2 ∧ (minS g c k).2 ≤ 16842751
  | 0, _ => by simp [minS]
  | k + 1, hk => by
    have a := minS_bd h0 h1 hc k (by omega)
    have b := sh_bd h0 h1 (hc k (by omega)).1 (hc k (by omega)).2
    by_cases h : shN g (c k) * (minS g c k).2 < (minS g c k).1 * shD g (c k)
    · rw [minS_lt h]; exact b
    · rw [minS_ge h]; exact a

theorem minS_le {g : Int} {c : Nat → Int} (h0 : 0 ≤ g) (h1 : g ≤ 65535) (hc : InB c) : ∀ k, k ≤ 3 → ∀ j, j < k →
    (minS g c k).1 * shD g (c j) ≤ shN g (c j) * (minS g c k).2
  | 0, _, j, hj => by omega
  | k + 1, hk, j, hj => by
    have a := minS_bd h0 h1 hc k (by omega)
    have b := sh_bd h0 h1 (hc k (by omega)).1 (hc k (by omega)).2
    by_cases h : shN g (c k) * (minS g c k).2 < (minS g c k).1 * shD g (c k)
    · rw [minS_lt h]
      by_cases e : j = k
      · subst e; exact Int.le_refl _
      · have ih := minS_le h0 h1 hc k (by omega) j (by omega)
        have d := sh_bd h0 h1 (hc j (by omega)).1 (hc j (by omega)).2
        generalize (minS g c k).1 = n at *
        generalize (minS g c k).2 = m at *
        generalize shN g (c k) = n' at *
        generalize shD g (c k) = m' at *
        generalize shN g (c j) = p at *
        generalize shD g (c j) = q at *
        show n' * q ≤ p * m'
        refine Int.le_of_mul_le_mul_right (a := m) ?_ (show 0 < m by omega)
        have e1 : n' * m * q ≤ n * m' * q := Int.mul_le_mul_of_nonneg_right (by omega) (by omega)
        have e2 : n * q * m' ≤ p * m * m' := Int.mul_le_mul_of_nonneg_right ih (by omega)
        have e3 : n' * q * m = n' * m * q := Int.mul_right_comm _ _ _
        have e4 : n * m' * q = n * q * m' := Int.mul_right_comm _ _ _
        have e5 : p * m' * m = p * m * m' := Int.mul_right_comm _ _ _
        omega
    · rw [minS_ge h]
      by_cases e : j = k
      · subst e; omega
      · exact minS_le h0 h1 hc k (by omega) j (by omega)

/-- A share n / m of u, towards zero. -/
theorem share_pos {u n m t : Int} (hu : 0 ≤ u) (hn : 0 ≤ n) (hnm : n ≤ m) (hm : 1 ≤ m) : 0 ≤ (u * n).tdiv m ∧ (u * n).tdiv m ≤ u ∧ (u * n ≤ t * m → (u * n).tdiv m ≤ t) := by
  have h := Int.mul_nonneg hu hn
  rw [Int.tdiv_eq_ediv_of_nonneg h]
  refine ⟨Int.ediv_nonneg h (by omega), ?_, fun ht => ?_⟩
  · refine Int.ediv_le_of_le_mul (by omega) ?_
    exact Int.mul_le_mul_of_nonneg_left hnm hu
  · exact Int.ediv_le_of_le_mul (by omega) ht
theorem share_neg {u n m t : Int} (hu : u ≤ 0) (hn : 0 ≤ n) (hnm : n ≤ m) (hm : 1 ≤ m) : u ≤ (u * n).tdiv m ∧ (u * n).tdiv m ≤ 0 ∧ (-u * n ≤ t * m → -t ≤ (u * n).tdiv m) := by
  have h := share_pos (u := -u) (t := t) (by omega) hn hnm hm
  have e : (-u * n).tdiv m = - (u * n).tdiv m := by rw [Int.neg_mul, Int.neg_tdiv]
  rw [e] at h
  refine ⟨by omega, by omega, fun ht => by have := h.2.2 ht; omega⟩

/-- Clip, of a colour in the range of arguments. -/
def clpO (c : Nat → Int) (i : Nat) : Int := gry c + ((c i - gry c) * (minS (gry c) c 3).1).tdiv (minS (gry c) c 3).2

theorem clpO_is {c : Nat → Int} (hc : InB c) {i : Nat} (hi : i < 3) :
    0 ≤ clpO c i ∧ clpO c i ≤ 65535 ∧ min (gry c) (c i) ≤ clpO c i ∧ clpO c i ≤ max (gry c) (c i) := by
  have hg := gry_bd c
  have a := minS_bd hg.1 hg.2 hc 3 (by omega)
  have l := minS_le hg.1 hg.2 hc 3 (by omega) i hi
  have hci := hc i hi
  unfold clpO
  generalize (minS (gry c) c 3).1 = n at *
  generalize (minS (gry c) c 3).2 = m at *
  generalize gry c = g at *
  generalize c i = v at *
  unfold shN shD at l
  by_cases h : g ≤ v
  · obtain ⟨h1, h2, h3⟩ := share_pos (u := v - g) (t := 65535 - g) (by omega) a.1 a.2.2.1 a.2.2.2.1
    by_cases h4 : 65535 < v
    · simp only [show ¬ v < 0 by omega, h4, if_true, if_false] at l
      have := h3 (by rw [Int.mul_comm]; exact l)
      omega
    · omega
  · obtain ⟨h1, h2, h3⟩ := share_neg (u := v - g) (t := g) (by omega) a.1 a.2.2.1 a.2.2.2.1
    by_cases h4 : v < 0
    · simp only [h4, if_true] at l
      have := h3 (by rw [Int.mul_comm, show -(v - g) = g - v by omega]; exact l)
      omega
    · omega

open Classical in
/-- Clip. -/
noncomputable def clpV (c : Nat → Int) (i : Nat) : Int := if InG (bnd c) then bnd c i else clpO (bnd c) i
theorem clpV_in {c : Nat → Int} (h : InG (bnd c)) (i : Nat) : clpV c i = bnd c i := if_pos h
theorem clpV_out {c : Nat → Int} (h : ¬ InG (bnd c)) (i : Nat) : clpV c i = clpO (bnd c) i := if_neg h
theorem clpV_gam (c : Nat → Int) : InG (clpV c) := fun i hi => by
  by_cases h : InG (bnd c)
  · rw [clpV_in h]; exact h i hi
  · rw [clpV_out h]; have := clpO_is (InB.of c) hi; omega
theorem clpV_id {c : Nat → Int} (h : InG c) {i : Nat} (hi : i < 3) : clpV c i = c i := by
  have e := h.inB.bnd
  rw [clpV_in (fun j hj => by rw [e j hj]; exact h j hj), e i hi]
theorem bnd_congr {c : Nat → Int} (h : InB c) : (fun i => if i < 3 then bnd c i else c i) = c := by
  funext i
  by_cases hi : i < 3
  · rw [if_pos hi, h.bnd i hi]
  · rw [if_neg hi]

end Go.Proofs.Ytmilljlkcbljpaa

/- A region that draws its order, by what holds at each stage. -/
namespace Go.Proofs.Ytmilljlkcbljpaa
open Go.RowKit

theorem count_set {listed : Array Bool} {i : Nat} (h : listed.getD i true = false) : (listed.setIfInBounds i true).toList.count false + 1 = listed.toList.count false := by
  have hi : i < listed.size := by
    rcases Nat.lt_or_ge i listed.size with h' | h'
    · exact h'
    · simp [Array.getElem?_eq_none h'] at h
  have hb : listed[i] = false := by simpa [hi] using h
  rw [Array.toList_setIfInBounds, List.count_set (by simpa using hi)]
  have : listed.toList[i]'(by simpa using hi) = false := by simpa using hb
  have hp : 0 < listed.toList.count false := List.count_pos_iff.2 (by rw [← this]; exact List.getElem_mem _)
  rw [this]
  show listed.toList.count false - 1 + 0 + 1 = _
  omega

/-- A region in whatever order: what holds at each stage, said of the operations that have come up. -/
theorem wpAnyIn_inv {F : Fence} {n : Nat} {P : Program} {md : Region.Mode} {ops : Array Oper} {Q : Exit → Act → World → Prop} (Inv : Array Bool → Act → World → Prop)
    (hstep : ∀ listed a w i, Inv listed a w → i ∈ Region.ready md ops listed → wpOpIn F n P ops Q i (fun a' w' => Inv (listed.setIfInBounds i true) a' w') a w)
    (hdone : ∀ listed a w, Inv listed a w → Region.ready md ops listed = [] → Q .normal a w) :
    ∀ (fuel : Nat) (listed : Array Bool) (a : Act) (w : World), listed.toList.count false ≤ fuel → Inv listed a w → wpAnyIn F n P md ops Q fuel listed a w
  | 0, listed, a, w, hc, h => by
    have h0 : Region.ready md ops listed = [] := by
      cases e : Region.ready md ops listed with
      | nil => rfl
      | cons i r =>
        have := count_set (mem_ready.1 (e ▸ List.mem_cons_self : i ∈ Region.ready md ops listed)).1
        omega
    exact ⟨h0, hdone _ _ _ h h0⟩
  | fuel + 1, listed, a, w, hc, h => ⟨hdone _ _ _ h, fun i hi => by
      have h1 := count_set (mem_ready.1 hi).1
      exact wpOpIn_mono (fun a' w' h' => wpAnyIn_inv Inv hstep hdone fuel _ a' w' (by omega) h') (hstep listed a w i h hi)⟩

/-- append to an owned row, one operation inside a fence. -/
theorem wpIn_append_op {F : Fence} {n : Nat} {P : Program} (w : World) {o : Oper} {a : Act} {K : Act → World → Prop} {Q : Exit → Act → World → Prop}
    (s x : Operand) (t : TypeId) (hop : o.op = Op.call { callee := Callee.builtin Builtin.append, args := #[s, x], argTypes := #[t, t] })
    (base : Nat) (e : TypeId) (i : TypeInfo) (z : Value) (size bytes : Nat) (h1 : P.underlying t = some (.slice e)) (h2 : P.info? e = some i) (h3 : i.zero = some z) (h4 : i.size = size) (h5 : i.bytes = bytes) (h6 : z.cells.size = size) (h7 : 0 < size)
    (v : Value) (k : Nat) (xs : List Value) (hs : a.eval s = v) (hown : w.ownsRow base e size v k xs) (ad : Addr) (m c : Nat) (news : List Value) (hx : a.eval x = .slice (some ad) m c) (hn : news.length = m * size)
    (hc : ∀ j u, news[j]? = some u → w.cell? (ad.add j) = some u) (h1c : ∀ u ∈ news, u.oneCell' = true) (b1 : k + m ≤ maxLen) (b2 : (k + m) * bytes ≤ 140737488355328) (b3 : base ≤ w.heap.size)
    (hK : ∀ v' w', w'.ownsRow base e size v' (k + m) (xs ++ news) → w.grownBy w' v.ownBlock → (v' = .slice none 0 0 ↔ v = .slice none 0 0 ∧ m = 0) → K (a.put o.dst v') w') :
    Oper.wpIn F n P o a w K Q := by
  obtain ⟨v', w', hrun, r1, r2, r3⟩ := run_append_own (P := P) w base t o.type e i z size bytes h1 h2 h3 h4 h5 h6 h7 v k xs hown ad m c news hn hc h1c b1 b2 b3
  unfold Oper.wpIn
  refine ⟨?_, ?_⟩
  · simp [Oper.about, hop, resolve, Target.leads, Sem.run_pure]
  · rw [Oper.semAt_plain F _ _ (by rw [hop]; intro c hc'; cases hc')]
    simp [execOp, hop, resolve, invoke, builtin, hs, hx, hrun, Result.andThen]
    exact hK v' w' r1 r2 r3

end Go.Proofs.Ytmilljlkcbljpaa

/- Points at equal distances: the iterator of package curve, and the curve of a function's values at them. -/
namespace Go.Proofs.Ytmilljlkcbljpaa
open Go.RowKit Go.Shelf

attribute [local go_sem] Oper.semAt_some

/-- The i-th argument of n points. -/
def argV (i n : Nat) : Int := (131070 * (i : Int) + n - 1) / (2 * ((n : Int) - 1))
/-- The arguments of n points. -/
def args (n : Nat) : List Int := (List.range n).map fun i => argV i n

theorem argV_bd {i n : Nat} (h : 2 ≤ n) (hi : i < n) : 0 ≤ argV i n ∧ argV i n ≤ 65535 := by
  unfold argV
  have h1 : (i : Int) + 1 ≤ n := by omega
  constructor
  · exact Int.ediv_nonneg (by omega) (by omega)
  · have h2 : (131070 * (i : Int) + n - 1) < 65536 * (2 * ((n : Int) - 1)) := by omega
    have := Int.ediv_lt_of_lt_mul (by omega) h2
    omega

theorem upto_len (n k : Nat) : ((List.range k).map fun i => argV i n).length = k := by simp
theorem upto_snoc (n k : Nat) : ((List.range (k + 1)).map fun i => argV i n) = ((List.range k).map fun i => argV i n) ++ [argV k n] := by simp [List.range_succ]

set_option maxRecDepth 100000 in
set_option maxHeartbeats 1000000 in
/-- The iterator's function: all arguments of n points, in their order, for every loop body that keeps the box of n. -/
theorem arguments1_in (m : Nat) (hm : 1 ≤ m) (l bn n : Nat) (hn : 2 ≤ n) (hn' : n ≤ 257) (J Jx : List Int → World → Prop)
    (hY : ∀ pre x W, J pre W → pre.length < n → YieldAt Fence.wide (m - 1) Try.prog l #[.int .i64 (clp x)] W fun e W' =>
      (e = .returned (.bool true) ∧ J (pre ++ [x]) W' ∧ W'.heap[bn]? = W.heap[bn]?) ∨ (e = .returned (.bool false) ∧ Jx (pre ++ [x]) W'))
    (W : World) (hb : Boxed W bn 3 (.int .i64 n)) (h0 : J [] W) :
    CallsIn Fence.wide m Try.prog 117 #[.func (.yield l) #[] #[], .pointer (some ⟨bn, 0, none⟩)] W fun e W' => (∃ v, e = .returned v) ∧
      ((∃ ys, ys = args n ∧ J ys W') ∨ (∃ pre, True ∧ Jx pre W')) := by
  refine callsIn_of_wp Try.func117 rfl trivial ?_ rfl
  simp only [Try.ntmps117, List.size_toArray, List.length_cons, List.length_nil, Nat.reduceAdd, Nat.reduceSub, Array.replicate_succ, Array.replicate_zero, List.push_toArray, List.append_toArray, List.nil_append, List.cons_append]
  have hc := hb.cell
  gi_wp2
  gi_loopw [5] (fun p wr => ∃ k : Nat, k ≤ n ∧ p = .int .i64 k ∧ Boxed wr bn 3 (.int .i64 n) ∧ J ((List.range k).map fun i => argV i n) wr)
    (fun p wr => n - (intOf p).toNat)
  case atStart =>
    exact ⟨0, by omega, rfl, hb, h0⟩
  case round =>
    obtain ⟨k, hk, rfl, hbr, hJ⟩ := hrel
    have hcr := hbr.cell
    by_cases hlt : k < n
    · have A := argV_bd hn hlt
      obtain ⟨fn, tmps, assign, body, hy, hR⟩ := hY _ (argV k n) wr hJ (by rw [upto_len]; exact hlt)
      rw [clp_in A.1 A.2] at hy
      have E : (131070 * (k : Int) + n - 1) / (2 * ((n : Int) - 1)) = argV k n := rfl
      gi_wp2
      refine hR.mono ?_
      rintro e W3 (⟨rfl, hJ3, hk3⟩ | ⟨rfl, hJx3⟩)
      · have hb3 : Boxed W3 bn 3 (.int .i64 n) := hk3.trans hbr
        gi_wp2
        go_roundw
        case rel => exact ⟨k + 1, by omega, by go_num, hb3, by rw [upto_snoc]; exact hJ3⟩
        case measure => simp [intOf]; omega
      · gi_wp2
        refine bodyPost_ret (results_none rfl _ _ _) rfl ?_
        exact ⟨⟨_, rfl⟩, .inr ⟨_, trivial, hJx3⟩⟩
    · obtain rfl : k = n := by omega
      gi_wp2
      go_end0
      exact ⟨⟨_, rfl⟩, .inl ⟨_, rfl, hJ⟩⟩

set_option maxHeartbeats 1000000 in
theorem arguments_any (n : Int) (w : World) :
    Calls Try.prog 113 #[.int .i64 n] w fun e w' => e = .returned (.func (.func 117) #[] #[.pointer (some ⟨w.heap.size, 0, none⟩)]) ∧ w.alloc (.cells #[.int .i64 n] 3) = w' := by
  have hmf : ∀ (fn : Fn) (first cap : Array Value) (w : World), (Instr.makeFunc fn first cap).run Try.prog w = .ok (.func fn first cap) w := fun _ _ _ _ => rfl
  go_enter Try.func113, Try.ntmps113
  go_wp2
  go_ret
  exact ⟨rfl, rfl⟩

/-- arguments(n), as what a loop ranges over. -/
theorem arguments_stops (m : Nat) (hm : 1 ≤ m) (bn n : Nat) (hn : 2 ≤ n) (hn' : n ≤ 257) (w : World) (hb : Boxed w bn 3 (.int .i64 n)) :
    SeqStopsK Fence.wide m Try.prog 117 #[.pointer (some ⟨bn, 0, none⟩)] (fun x : Int => #[Value.int .i64 (clp x)]) (fun W W' => W'.heap[bn]? = W.heap[bn]?) (fun ys => ys = args n) (fun _ => True) n w :=
  fun l J Jx W hW _ _ hY h0 => arguments1_in m hm l bn n hn hn' J Jx hY W ((hW.block bn hb.lt).trans hb) h0

/-- What a callee of the loop's body says: it hands back a number, and nothing that lay has turned. -/
def Gives (g : Nat) (vs : Array Value) (y : Int) (W : World) : Prop :=
  Calls Try.prog g vs W fun e W' => e = .returned (.int .i64 y) ∧ Below W.heap.size W W'

theorem Try.infoInt : (Try.prog.info? 3).map (fun i => (i.zero, i.size, i.bytes)) = some (some (.int .i64 0), 1, 8) := by kernel_rfl

/-- Where 'c = append(c, f(x))' stands, said of the operations that have come up: the loads, the call, the new slice, the append, the store. -/
def Stage (base k : Nat) (x y : Int) (v f : Value) (xs : List Value) (W : World) (b0 b1 b2 b3 b4 b5 b6 : Bool) (t10 t11 t12 t13 t14 t15 : Value) (W' : World) : Prop :=
  (b0 = true → t10 = v) ∧ (b1 = true → t11 = f) ∧ (b2 = true → t12 = .int .i64 x) ∧ (b3 = true → b1 = true ∧ b2 = true ∧ t13 = .int .i64 y) ∧
  (b4 = false → b5 = false ∧ b6 = false ∧ Below W.heap.size W W') ∧
  (b4 = true → b3 = true ∧ ∃ W1, Below W.heap.size W W1 ∧ (b5 = false → b6 = false ∧ W' = W1.alloc (.cells #[.int .i64 y] 3) ∧ t14 = .slice (some ⟨W1.heap.size, 0, none⟩) 1 1) ∧
    (b5 = true → b0 = true ∧ ∃ W2, W2.ownsRow (base + 3) 3 1 t15 (k + 1) (xs ++ [.int .i64 y]) ∧ (W1.alloc (.cells #[.int .i64 y] 3)).grownBy W2 v.ownBlock ∧
      (b6 = false → W' = W2) ∧ (b6 = true → W' = W2.setCell ⟨base + 1, 0, none⟩ t15)))

/-- Before the new slice is made, nothing that lay has turned; what the two boxes hold is there as long as the append has not come up. -/
theorem Stage.cell {base k : Nat} {x y : Int} {v f : Value} {xs : List Value} {W W' : World} {b0 b1 b2 b3 b4 b5 b6 : Bool} {t10 t11 t12 t13 t14 t15 : Value}
    (h : Stage base k x y v f xs W b0 b1 b2 b3 b4 b5 b6 t10 t11 t12 t13 t14 t15 W') (h5 : b5 = false) {p : Addr} (hp : p.block < W.heap.size) : W'.cell? p = W.cell? p := by
  obtain ⟨_, _, _, _, h4, h6⟩ := h
  cases b4 with
  | false => exact (h4 rfl).2.2.cell hp
  | true =>
    obtain ⟨_, W1, hb, h7, _⟩ := h6 rfl
    obtain ⟨_, rfl, _⟩ := h7 h5
    exact (hb.alloc hb.size _).cell hp

theorem args_mem {n : Nat} {x : Int} (hn : 2 ≤ n) (h : x ∈ args n) : 0 ≤ x ∧ x ≤ 65535 := by
  obtain ⟨i, hi, rfl⟩ := List.mem_map.1 h
  exact argV_bd hn (List.mem_range.1 hi)
theorem args_vals {n : Nat} {G : Int → Int} (hn : 2 ≤ n) : ((args n).map fun x => Value.int .i64 (G (clp x))) = (List.range n).map fun i => .int .i64 (G (argV i n)) := by
  unfold args
  rw [List.map_map]
  refine List.map_congr_left fun i hi => ?_
  have A := argV_bd hn (List.mem_range.1 hi)
  simp only [Function.comp_def]
  rw [clp_in A.1 A.2]

theorem own_below {w w' : World} {base size n : Nat} {e : TypeId} {v : Value} {xs : List Value} (h : w.ownsRow base e size v n xs) (hb : Below w.heap.size w w') : w'.ownsRow base e size v n xs := by
  refine h.kept ⟨hb.os, hb.tape, hb.output, hb.size, fun k hk _ => hb.block k hk⟩ (row := none) ?_
  rcases h.2 with ⟨rfl, _⟩ | ⟨g, cap, cur, rfl, _⟩
  · exact .inl rfl
  · exact .inr (by simp [Value.ownBlock])
theorem boxed_below {w w' : World} {B : Nat} {t : TypeId} {v : Value} (h : Boxed w B t v) (hb : Below w.heap.size w w') : Boxed w' B t v := (hb.block B h.lt).trans h

/-- Where the append has come up, the slice and the call have. -/
theorem Stage.late {base k : Nat} {x y : Int} {v f : Value} {xs : List Value} {W W' : World} {b0 b1 b2 b3 b4 b5 b6 : Bool} {t10 t11 t12 t13 t14 t15 : Value}
    (h : Stage base k x y v f xs W b0 b1 b2 b3 b4 b5 b6 t10 t11 t12 t13 t14 t15 W') (h5 : b5 = true) : b0 = true ∧ b1 = true ∧ b2 = true ∧ b3 = true ∧ b4 = true := by
  obtain ⟨_, _, _, h3, h4, h6⟩ := h
  cases b4 with
  | false => exact absurd ((h4 rfl).1.symm.trans h5) (by simp)
  | true =>
    obtain ⟨q, W1, _, _, h8⟩ := h6 rfl
    exact ⟨(h8 h5).1, (h3 q).1, (h3 q).2.1, q, rfl⟩

set_option maxRecDepth 100000 in
set_option maxHeartbeats 2000000 in
theorem sample_line {G : Int → Int} {n : Nat} {w : World} (hn : 2 ≤ n) (hn' : n ≤ 257) (hf : ∀ x W, 0 ≤ x → x ≤ 65535 → Below w.heap.size w W → Gives 103 #[.int .i64 x] (G x) W) :
    Calls Try.prog 102 #[.int .i64 n, .func (.func 103) #[] #[]] w fun e w' => ∃ v, e = .returned v ∧ w'.ownsRow w.heap.size 3 1 v n ((List.range n).map fun i => .int .i64 (G (argV i n))) ∧ Below w.heap.size w w' := by
  obtain ⟨i0, hi', hz0, hz1, hz2⟩ := info_parts Try.infoInt
  refine (callsIn_wide (n := 5)).1 ?_
  refine callsIn_of_wp_marks Try.func102 rfl trivial ?_ rfl
  simp only [Try.ntmps102, List.size_toArray, List.length_cons, List.length_nil, Nat.reduceAdd, Nat.reduceSub, Array.replicate_succ, Array.replicate_zero, List.push_toArray, List.append_toArray, List.nil_append, List.cons_append]
  gi_wp2_with (refine ⟨trivial, ?_⟩; gi_at_call 113; refine (callsIn_wide.2 (arguments_any _ _)).mono ?_; rintro e w' ⟨rfl, rfl⟩)
  have h1 : 1 ≤ 5 := by omega
  have bF := Boxed.new w 98 (.func (.func 103) #[] #[])
  have bC := Boxed.new (w.alloc (.cells #[.func (.func 103) #[] #[]] 98)) 59 (.slice none 0 0)
  have bN := Boxed.new ((w.alloc (.cells #[.func (.func 103) #[] #[]] 98)).alloc (.cells #[.slice none 0 0] 59)) 3 (.int .i64 n)
  simp only [World.size_alloc] at bC bN
  have hB0 : Below w.heap.size w (((w.alloc (.cells #[.func (.func 103) #[] #[]] 98)).alloc (.cells #[.slice none 0 0] 59)).alloc (.cells #[.int .i64 n] 3)) :=
    (((Below.refl _ w).alloc (Nat.le_refl _) _).alloc (by simp) _).alloc (by simp; omega) _
  obtain ⟨w3, hw3⟩ : ∃ w3, ((w.alloc (.cells #[.func (.func 103) #[] #[]] 98)).alloc (.cells #[.slice none 0 0] 59)).alloc (.cells #[.int .i64 n] 3) = w3 := ⟨_, rfl⟩
  have hz3 : w3.heap.size = w.heap.size + 3 := by rw [← hw3]; simp
  replace bC := bC.alloc (.cells #[.int .i64 n] 3)
  replace bF := (bF.alloc (.cells #[.slice none 0 0] 59)).alloc (.cells #[.int .i64 n] 3)
  rw [hw3] at bC bF bN hB0 ⊢
  refine wpIn_rangeFunc_ownG rfl h1 (gf := 117) (lb := #[.pointer (some ⟨w.heap.size + 1 + 1, 0, none⟩)]) rfl trivial (enters_of Try.func117 (by kernel_rfl) rfl)
    (arguments_stops (5 - 1) (by omega) (w.heap.size + 1 + 1) n hn hn' _ bN) (fun h k => k.trans h) (fun W k o o' hk h _ _ => World.putObj_heap_other (by omega)) (Below.refl _ _) (fun _ => rfl)
    (fun pre W => ((∃ v, Boxed W (w.heap.size + 1) 59 v ∧ W.ownsRow (w.heap.size + 3) 3 1 v pre.length (pre.map fun x => .int .i64 (G (clp x))) ∧ True) ∧
      Boxed W w.heap.size 98 (.func (.func 103) #[] #[])) ∧ Below w.heap.size w W ∧ w.heap.size + 3 ≤ W.heap.size)
    (fun _ _ _ => False)
    ?hI
    (fun _ _ _ _ _ hs _ _ => hs)
    ⟨⟨⟨_, bC, World.ownsRow_nil _ _ _ _, trivial⟩, bF⟩, hB0, by omega⟩
    (fun x => { tmps := #[.int .i64 n, .func (.func 103) #[] #[], undef, .pointer (some ⟨w.heap.size, 0, none⟩), .slice none 0 0, .pointer (some ⟨w.heap.size + 1, 0, none⟩), .int .i64 (clp x), .int .i64 n,
      .func (.func 117) #[] #[.pointer (some ⟨w.heap.size + 1 + 1, 0, none⟩)], .int .i64 (clp x), undef, undef, undef, undef, undef, undef, undef], defers := [] }) ?assign ?body ?done ?stop
  case hI =>
    refine OwnFrom.and (OwnFrom.and ((holdsRow_own (w.heap.size + 3) (w.heap.size + 1) 59 3 1 (fun pre : List Int => pre.length) (fun pre => pre.map fun x => .int .i64 (G (clp x))) (fun _ _ => True)).from _) ((boxed_own _ _ _).from _))
      (OwnFrom.and (ownFrom_below (Nat.le_refl _) (by omega)) (fun _ _ _ _ hs hg _ => Nat.le_trans hs hg.size))
  case assign =>
    intro l x W K hK
    gi_wp2
    exact hK
  case body =>
    rintro l pre x₀ W ⟨⟨⟨v, hv, hrow, _⟩, hbf⟩, hB, hn₀⟩ hlt
    obtain ⟨hx0, hx1⟩ := clp_bd x₀
    obtain ⟨x, hx⟩ : ∃ x, clp x₀ = x := ⟨_, rfl⟩
    rw [hx] at hx0 hx1 ⊢
    have hx' := Lib.hid hx
    clear hx
    have hmx : Try.prog.follows .mixedOrders = true := by kernel_rfl
    gi_wp2
    refine wpIn_region_any hmx ?_
    change wpAnyIn _ _ _ _ _ _ _ _ _ (World.drew _)
    have hc := hv.cell
    have hcf := hbf.cell
    obtain ⟨y, hy⟩ : ∃ y, G x = y := ⟨_, rfl⟩
    have hf' : ∀ W', Below w.heap.size w W' → Gives 103 #[.int .i64 x] y W' := fun W' hb => by rw [← hy]; exact hf _ _ hx0 hx1 hb
    have hf'' := Lib.hid hf'
    clear hf' hf
    refine wpAnyIn_inv (Inv := fun listed a W' => ∃ b0 b1 b2 b3 b4 b5 b6 : Bool, listed = #[b0, b1, b2, b3, b4, b5, b6] ∧ ∃ t10 t11 t12 t13 t14 t15 : Value,
      a = { tmps := #[.int .i64 n, .func (.func 103) #[] #[], undef, .pointer (some ⟨w.heap.size, 0, none⟩), .slice none 0 0, .pointer (some ⟨w.heap.size + 1, 0, none⟩), .int .i64 x, .int .i64 n,
        .func (.func 117) #[] #[.pointer (some ⟨w.heap.size + 1 + 1, 0, none⟩)], .int .i64 x, t10, t11, t12, t13, t14, t15, undef], defers := [] } ∧
      Stage w.heap.size pre.length x y v (.func (.func 103) #[] #[]) (pre.map fun x => .int .i64 (G (clp x))) W b0 b1 b2 b3 b4 b5 b6 t10 t11 t12 t13 t14 t15 W') ?_ ?_ _ _ _ _ ?_ ?_
    · rintro listed a W' i ⟨b0, b1, b2, b3, b4, b5, b6, rfl, t10, t11, t12, t13, t14, t15, rfl, hS⟩ hi
      obtain ⟨hun, o, ho, hdeps⟩ := mem_ready.1 hi
      rcases i with _ | _ | _ | _ | _ | _ | _ | i
      · -- the load of c
        obtain rfl : b0 = false := by simpa using hun
        have h5 : b5 = false := by
          cases b5 with
          | false => rfl
          | true => exact absurd (hS.late rfl).1 (by simp)
        have hc' : W'.cell? ⟨w.heap.size + 1, 0, none⟩ = some v := (hS.cell h5 (p := ⟨w.heap.size + 1, 0, none⟩) (by show w.heap.size + 1 < _; omega)).trans hc
        subst h5
        have HS := Lib.hid hS
        clear hi ho hdeps hS
        refine wpOpIn_step rfl (fun K hK => ?_)
        go_simp
        refine hK _ _ ⟨true, b1, b2, b3, b4, false, b6, by simp, _, _, _, _, _, _, rfl, ?_⟩
        obtain ⟨_, g1, g2, g3, g4, g5⟩ := HS.out
        exact ⟨fun _ => rfl, g1, g2, g3, g4, fun h => let ⟨q1, W1, q2, q3, _⟩ := g5 h; ⟨q1, W1, q2, q3, fun h => by cases h⟩⟩
      · -- the load of f
        obtain rfl : b1 = false := by simpa using hun
        have h5 : b5 = false := by
          cases b5 with
          | false => rfl
          | true => exact absurd (hS.late rfl).2.1 (by simp)
        have hc' : W'.cell? ⟨w.heap.size, 0, none⟩ = some (.func (.func 103) #[] #[]) := (hS.cell h5 (p := ⟨w.heap.size, 0, none⟩) (by show w.heap.size < _; omega)).trans hcf
        subst h5
        have HS := Lib.hid hS
        clear hi ho hdeps hS
        refine wpOpIn_step rfl (fun K hK => ?_)
        go_simp
        refine hK _ _ ⟨b0, true, b2, b3, b4, false, b6, by simp, _, _, _, _, _, _, rfl, ?_⟩
        obtain ⟨g0, _, g2, g3, g4, g5⟩ := HS.out
        exact ⟨g0, fun _ => rfl, g2, fun h => absurd (g3 h).1 (by simp), g4, g5⟩
      · -- the argument
        obtain rfl : b2 = false := by simpa using hun
        have HS := Lib.hid hS
        clear hi ho hdeps hS
        refine wpOpIn_step rfl (fun K hK => ?_)
        go_simp
        refine hK _ _ ⟨b0, b1, true, b3, b4, b5, b6, by simp, _, _, _, _, _, _, rfl, ?_⟩
        obtain ⟨g0, g1, _, g3, g4, g5⟩ := HS.out
        exact ⟨g0, g1, fun _ => rfl, fun h => absurd (g3 h).2.1 (by simp), g4, g5⟩
      · -- the call of f
        obtain rfl : b3 = false := by simpa using hun
        obtain ⟨o', ho', hd⟩ : ∃ o', _ = some o' ∧ _ := ⟨o, ho, hdeps⟩
        obtain rfl := Option.some.inj ho
        have d1 := hdeps ⟨1, .data⟩ (by simp) rfl
        have d2 := hdeps ⟨2, .data⟩ (by simp) rfl
        obtain rfl : b1 = true := by simpa using d1
        obtain rfl : b2 = true := by simpa using d2
        obtain rfl := hS.2.1 rfl
        obtain rfl := hS.2.2.1 rfl
        have h4 : b4 = false := by
          cases b4 with
          | false => rfl
          | true => exact absurd (hS.2.2.2.2.2 rfl).1 (by simp)
        subst h4
        obtain ⟨rfl, rfl, hbW⟩ := hS.2.2.2.2.1 rfl
        have HS := Lib.hid hS
        clear hi hdeps hS d1 d2 hd ho'
        refine wpOpIn_step rfl (fun K hK => ?_)
        go_simp
        refine ⟨trivial, ?_⟩
        refine (CallsIn.inRound l (callsIn_wide.2 (hf''.out W' (hB.trans (hbW.mono hB.size))))).mono ?_
        rintro e W2 ⟨rfl, hb2⟩
        refine hK _ _ ⟨b0, true, true, true, false, false, false, by simp, _, _, _, _, _, _, rfl, ?_⟩
        obtain ⟨g0, g1, g2, _, _, _⟩ := HS.out
        exact ⟨g0, g1, g2, fun _ => ⟨rfl, rfl, rfl⟩, fun _ => ⟨rfl, rfl, hbW.trans (hb2.mono hbW.size)⟩, fun h => by cases h⟩
      · -- the new slice
        obtain rfl : b4 = false := by simpa using hun
        obtain rfl := Option.some.inj ho
        have d3 := hdeps ⟨3, .data⟩ (by simp) rfl
        obtain rfl : b3 = true := by simpa using d3
        obtain ⟨_, _, rfl⟩ := hS.2.2.2.1 rfl
        obtain ⟨rfl, rfl, hbW⟩ := hS.2.2.2.2.1 rfl
        have HS := Lib.hid hS
        clear hi hdeps hS d3
        refine wpOpIn_step rfl (fun K hK => ?_)
        go_simp
        refine hK _ _ ⟨b0, b1, b2, true, true, false, false, by simp, _, _, _, _, _, _, rfl, ?_⟩
        obtain ⟨g0, g1, g2, g3, _, _⟩ := HS.out
        exact ⟨g0, g1, g2, g3, fun h => (by cases h), fun _ => ⟨rfl, W', hbW, fun _ => ⟨rfl, rfl, rfl⟩, fun h => (by cases h)⟩⟩
      · -- the append
        obtain rfl : b5 = false := by simpa using hun
        obtain rfl := Option.some.inj ho
        have d0 := hdeps ⟨0, .data⟩ (by simp) rfl
        have d4 := hdeps ⟨4, .data⟩ (by simp) rfl
        obtain rfl : b0 = true := by simpa using d0
        obtain rfl : b4 = true := by simpa using d4
        obtain rfl := hS.1 rfl
        obtain ⟨rfl, W1, hbW, h7, _⟩ := hS.2.2.2.2.2 rfl
        obtain ⟨rfl, rfl, rfl⟩ := h7 rfl
        have HS := Lib.hid hS
        clear hi hdeps hS d0 d4
        have hrow1 : W1.ownsRow (w.heap.size + 3) 3 1 t10 pre.length (pre.map fun x => .int .i64 (G (clp x))) := own_below hrow hbW
        have hsz := hbW.size
        refine wpOpIn_step rfl (fun K hK => ?_)
        refine (if_pos (show _ = true by rfl)).mpr ?_
        refine wpIn_append_op _ _ _ 59 rfl (w.heap.size + 3) 3 i0 (.int .i64 0) 1 8 Try.underlying59 hi' hz0 hz1 hz2 rfl (by decide) t10 pre.length (pre.map fun x => .int .i64 (G (clp x))) rfl (hrow1.alloc _) ⟨W1.heap.size, 0, none⟩ 1 1 [.int .i64 y] rfl rfl (cell_one_new _ _ _) (by simp [Value.oneCell']) (by unfold maxLen; omega) (by omega) (by simp; omega) ?_
        intro v' w1 hown' hgrow _
        refine hK _ _ ⟨true, b1, b2, true, true, true, false, by simp, _, _, _, _, _, _, rfl, ?_⟩
        obtain ⟨g0, g1, g2, g3, _, _⟩ := HS.out
        exact ⟨g0, g1, g2, g3, fun h => (by cases h), fun _ => ⟨rfl, W1, hbW, fun h => (by cases h), fun _ => ⟨rfl, w1, hown', hgrow, fun _ => rfl, fun h => (by cases h)⟩⟩⟩
      · -- the store
        obtain rfl : b6 = false := by simpa using hun
        obtain rfl := Option.some.inj ho
        have d5 := hdeps ⟨5, .data⟩ (by simp) rfl
        obtain rfl : b5 = true := by simpa using d5
        obtain ⟨rfl, rfl, rfl, rfl, rfl⟩ := hS.late rfl
        obtain ⟨_, W1, hbW, _, h8⟩ := hS.2.2.2.2.2 rfl
        obtain ⟨_, W2, hown, hgrow, h9, _⟩ := h8 rfl
        obtain rfl := h9 rfl
        obtain rfl := hS.1 rfl
        have hsz := hbW.size
        obtain ⟨g', cap', rfl⟩ := ownsRow_succ hown
        obtain ⟨hv1, hv2, _, hk2, hb2⟩ := (boxed_below hv hbW).appended (n₀ := w.heap.size) (by decide) (own_le (own_below hrow hbW) (by omega)) (by omega) (by omega) (own_le hown (by omega)) hgrow
        have hc1 := hv1.cell
        have hf1 := hv1.frozen
        have HS := Lib.hid hS
        clear hi hdeps hS d5 h8 h9
        refine wpOpIn_step rfl (fun K hK => ?_)
        go_simp
        refine hK _ _ ⟨true, true, true, true, true, true, true, by simp, _, _, _, _, _, _, rfl, ?_⟩
        obtain ⟨g0, g1, g2, g3, _, _⟩ := HS.out
        exact ⟨g0, g1, g2, g3, fun h => (by cases h), fun _ => ⟨rfl, W1, hbW, fun h => (by cases h), fun _ => ⟨rfl, W', hown, hgrow, fun h => (by cases h), fun _ => rfl⟩⟩⟩
      · simp at hun
    · -- behind the region
      rintro listed a W' ⟨b0, b1, b2, b3, b4, b5, b6, rfl, t10, t11, t12, t13, t14, t15, rfl, hS⟩ hr
      have h6 : b6 = true := by
        cases b6 with
        | true => rfl
        | false =>
          exfalso
          have hr' := congrArg List.isEmpty hr
          cases b0 <;> cases b1 <;> cases b2 <;> cases b3 <;> cases b4 <;> cases b5 <;> exact Bool.noConfusion (hr'.symm.trans (by kernel_rfl : _ = false))
      subst h6
      have h5 : b5 = true := by
        cases b5 with
        | true => rfl
        | false => cases b4 with
          | false => exact absurd (hS.2.2.2.2.1 rfl).2.1 (by simp)
          | true => obtain ⟨_, _, _, h, _⟩ := hS.2.2.2.2.2 rfl; exact absurd (h rfl).1 (by simp)
      subst h5
      obtain ⟨rfl, rfl, rfl, rfl, rfl⟩ := hS.late rfl
      obtain ⟨_, W1, hbW, _, h8⟩ := hS.2.2.2.2.2 rfl
      obtain ⟨_, W2, hown, hgrow, _, h9⟩ := h8 rfl
      obtain rfl := h9 rfl
      obtain rfl := hS.1 rfl
      have hsz := hbW.size
      obtain ⟨hv1, hv2, _, hk2, hb2⟩ := (boxed_below hv hbW).appended (n₀ := w.heap.size) (by decide) (own_le (own_below hrow hbW) (by omega)) (by omega) (by omega) (own_le hown (by omega)) hgrow
      have hr3 := hown.kept (grownBy_setCell' W2 (w.heap.size + 1) t15) (.inr (hv1.not_row (by decide) hown).symm)
      have hbf3 : Boxed (W2.setCell ⟨w.heap.size + 1, 0, none⟩ t15) w.heap.size 98 (.func (.func 103) #[] #[]) :=
        ((((boxed_below hbf hbW).alloc _).kept hgrow ((boxed_below hbf hbW).not_row (by decide) (own_below hrow hbW))).kept (grownBy_setCell' W2 (w.heap.size + 1) t15) (by simp))
      have hne : ∀ q, t10.ownBlock = some q → w.heap.size + 3 ≤ q := fun q hq => (hrow.lt q hq).1
      have hkp : (W2.setCell ⟨w.heap.size + 1, 0, none⟩ t15).heap[w.heap.size + 1 + 1]? = W.heap[w.heap.size + 1 + 1]? := by
        rw [Below.heap_setCell _ _ _ _ (by show w.heap.size + 1 + 1 ≠ w.heap.size + 1; omega), hgrow.block _ (by simp; omega) (fun e => by have := hne _ e.symm; omega), Below.heap_alloc _ _ _ (by omega)]
        exact hbW.block _ (by omega)
      have hko : KeepsOthers W W1 := ⟨hbW.size, fun k o hk _ => (hbW.block k (Array.getElem?_eq_some_iff.1 hk).1).trans hk⟩
      have hsz2 : w.heap.size + 3 ≤ (W2.setCell ⟨w.heap.size + 1, 0, none⟩ t15).heap.size := by have := hgrow.size; simp at this ⊢; omega
      have hr4 : (W2.setCell ⟨w.heap.size + 1, 0, none⟩ t15).ownsRow (w.heap.size + 3) 3 1 t15 (pre ++ [x₀]).length ((pre ++ [x₀]).map fun x => .int .i64 (G (clp x))) := by
        simpa [hx'.out, hy] using hr3
      have hB3 : Below w.heap.size w (W2.setCell ⟨w.heap.size + 1, 0, none⟩ t15) := (hB.trans (hbW.mono (by omega))).trans hb2
      have H := Lib.hid hr4
      clear hr4 hr3 hS h8 h9 hgrow hown hrow hy hr hne
      gi_wp2
      exact ⟨(hko.trans hk2).from _, hkp, ⟨⟨_, hv2, H.out⟩, hbf3⟩, hB3, hsz2⟩
    · simp
    · exact ⟨false, false, false, false, false, false, false, rfl, _, _, _, _, _, _, rfl, (fun h => by cases h), (fun h => by cases h), (fun h => by cases h), (fun h => by cases h), (fun _ => ⟨rfl, rfl, (Below.refl _ _).drew⟩), (fun h => by cases h)⟩
  case done =>
    rintro D ys W hD rfl ⟨⟨⟨v, hv, hrow, _⟩, hbf⟩, hB, hn₀⟩ hK
    have hc := hv.cell
    have hl : (args n).length = n := upto_len n n
    rw [hl, args_vals hn] at hrow
    have H := Lib.hid hrow
    clear hrow
    gi_wp2
    refine ⟨by simp, .inl ⟨_, _, rfl, run_takeDeferred hK, ?_⟩⟩
    exact ⟨_, results_tmp rfl _ _ _, v, rfl, own_le (ownsRow_putObj H.out _ hK rfl) (by omega), hB.trans (belowK_b (w := w) (Nat.le_refl _) W D _ _ (by omega) hK rfl rfl)⟩
  case stop =>
    rintro D c pre W _ _ h _
    exact h.elim

end Go.Proofs.Ytmilljlkcbljpaa

/- Line. -/
namespace Go.Proofs.Ytmilljlkcbljpaa
open Go.RowKit

set_option maxHeartbeats 400000 in
theorem line1_any (x : Int) (w : World) : Gives 103 #[.int .i64 x] x w := by
  unfold Gives
  go_enter Try.func103, Try.ntmps103
  go_wp2
  go_ret
  exact ⟨rfl, Below.refl _ _⟩

/-- The arguments of n points, as values. -/
def argVals (n : Nat) : List Value := (List.range n).map fun i => .int .i64 (argV i n)

set_option maxHeartbeats 400000 in
theorem line_yes (n : Nat) (w : World) (h1 : 2 ≤ n) (h2 : n ≤ 257) :
    Calls Try.prog 77 #[.int .i64 n] w fun e w' => ∃ v, e = .returned v ∧ w'.ownsRow w.heap.size 3 1 v n (argVals n) ∧ Below w.heap.size w w' := by
  have P1 : pts (n : Int) = true := pts_t (by omega) (by omega)
  go_enter Try.func77, Try.ntmps77
  go_wp2_with (first | (go_at_call 90; refine (points_same _ _).mono ?_; rintro e w1 ⟨rfl, rfl⟩) | (go_at_call 102; refine (sample_line (G := fun x => x) h1 h2 (fun x W _ _ _ => line1_any x W)).mono ?_; rintro e w1 ⟨v, rfl, hown, hb⟩))
  go_ret
  exact ⟨_, rfl, hown, hb⟩

set_option maxHeartbeats 400000 in
theorem line_no (n : Int) (w : World) (h : ¬ (2 ≤ n ∧ n ≤ 257)) :
    Calls Try.prog 77 #[.int .i64 n] w fun e w' => e = .returned (.slice none 0 0) ∧ Below w.heap.size w w' := by
  have P1 : pts n = false := pts_f h
  clear h
  go_enter Try.func77, Try.ntmps77
  go_wp2_with (first | (go_at_call 90; refine (points_same _ _).mono ?_; rintro e w1 ⟨rfl, rfl⟩))
  go_ret
  exact ⟨rfl, Below.refl _ _⟩

end Go.Proofs.Ytmilljlkcbljpaa
