/- Slices of integers as the walks speak of them, and the plain words of a curve: nothing of the program is used here. -/
import Derived.WalkKit
import Derived.WalkSpells
import Derived.WalkLawsBesides
import Derived.Lib.Hide
namespace Go.Proofs.Ytmilljlkcbljpaa
open Go.RowKit

theorem ret_int {k : IntKind} {a b : Int} (h : a = b) : Ending.returned (.int k a) = .returned (.int k b) := by rw [h]
theorem ret_bool {a b : Bool} (h : a = b) : Ending.returned (.bool a) = .returned (.bool b) := by rw [h]

/-- w' is w after some draws. -/
def Drawn (w w' : World) : Prop := ∃ n, w' = w.drewN n
theorem Drawn.of {w : World} (n : Nat) : Drawn w (w.drewN n) := ⟨n, rfl⟩
theorem Drawn.refl (w : World) : Drawn w w := ⟨0, rfl⟩
theorem Drawn.trans {a b c : World} (h : Drawn a b) (k : Drawn b c) : Drawn a c := by
  obtain ⟨n, rfl⟩ := h; obtain ⟨m, rfl⟩ := k; exact ⟨n + m, World.drewN_drewN _ _ _⟩
theorem Drawn.on {a b : World} (h : Drawn a b) (n : Nat) : Drawn a (b.drewN n) := h.trans (.of n)
theorem Drawn.below {a b : World} (h : Drawn a b) (B : Nat) : Below B a b := by
  obtain ⟨n, rfl⟩ := h; exact below_drewN (Below.refl B a) n

/-- The cells of n integers f 0 .. f (n - 1). -/
def Cells (w : World) (b off n : Nat) (f : Nat → Int) : Prop := ∀ k, k < n → w.cell? ⟨b, off + k, none⟩ = some (.int .i64 (f k))

/-- A slice of n integers f 0 .. f (n - 1) that lies below block B. -/
def Sl (w : World) (B : Nat) (v : Value) (n : Nat) (f : Nat → Int) : Prop :=
  (n = 0 ∧ ∃ a cap, v = .slice a 0 cap ∧ (a = none → cap = 0)) ∨ ∃ b off cap, v = .slice (some ⟨b, off, none⟩) n cap ∧ (b < B ∧ n ≤ cap) ∧ Cells w b off n f

theorem Cells.zero {w : World} {b off n : Nat} {f : Nat → Int} (h : Cells w b off n f) (hn : 0 < n) : w.cell? ⟨b, off, none⟩ = some (.int .i64 (f 0)) := h 0 hn
theorem Cells.below {w w' : World} {b off n B : Nat} {f : Nat → Int} (h : Cells w b off n f) (hb : Below B w w') (hB : b < B) : Cells w' b off n f :=
  fun k hk => (hb.cell (p := ⟨b, off + k, none⟩) hB).trans (h k hk)

theorem Sl.below {w w' : World} {B B' n : Nat} {v : Value} {f : Nat → Int} (h : Sl w B v n f) (hb : Below B' w w') (hB : B ≤ B') : Sl w' B v n f := by
  rcases h with h | ⟨b, off, cap, h1, h2, h3⟩
  · exact .inl h
  · exact .inr ⟨b, off, cap, h1, h2, h3.below hb (by omega)⟩

theorem Sl.mono {w : World} {B B' n : Nat} {v : Value} {f : Nat → Int} (h : Sl w B v n f) (hB : B ≤ B') : Sl w B' v n f := by
  rcases h with h | ⟨b, off, cap, h1, h2, h3⟩
  · exact .inl h
  · exact .inr ⟨b, off, cap, h1, ⟨by omega, h2.2⟩, h3⟩

theorem Cells.drawn {w w' : World} {b off n : Nat} {f : Nat → Int} (h : Cells w b off n f) (hd : Drawn w w') : Cells w' b off n f := by
  obtain ⟨j, rfl⟩ := hd; exact h
theorem Sl.drawn {w w' : World} {B n : Nat} {v : Value} {f : Nat → Int} (h : Sl w B v n f) (hd : Drawn w w') : Sl w' B v n f := h.below (hd.below B) (Nat.le_refl _)
theorem Sl.drawnN {w : World} {B n : Nat} {v : Value} {f : Nat → Int} (h : Sl w B v n f) (j : Nat) : Sl (w.drewN j) B v n f :=
  h.below (below_drewN (Below.refl B w) j) (Nat.le_refl _)

theorem Sl.shape {w : World} {B n : Nat} {v : Value} {f : Nat → Int} (h : Sl w B v n f) : ∃ a cap, v = .slice a n cap := by
  rcases h with ⟨rfl, a, cap, h, _⟩ | ⟨b, off, cap, h, _⟩
  · exact ⟨a, cap, h⟩
  · exact ⟨_, cap, h⟩

theorem Sl.at {w : World} {B n : Nat} {v : Value} {f : Nat → Int} (h : Sl w B v n f) (hn : 1 ≤ n) : ∃ b off cap, v = .slice (some ⟨b, off, none⟩) n cap ∧ b < B ∧ Cells w b off n f := by
  rcases h with ⟨rfl, _⟩ | ⟨b, off, cap, h1, h2, h3⟩
  · omega
  · exact ⟨b, off, cap, h1, h2.1, h3⟩
theorem Sl.roomy {w : World} {B n : Nat} {v : Value} {f : Nat → Int} (h : Sl w B v n f) (hn : 1 ≤ n) : ∃ b off cap, v = .slice (some ⟨b, off, none⟩) n cap ∧ n ≤ cap ∧ b < B ∧ Cells w b off n f := by
  rcases h with ⟨rfl, _⟩ | ⟨b, off, cap, h1, h2, h3⟩
  · omega
  · exact ⟨b, off, cap, h1, h2.2, h2.1, h3⟩

theorem Sl.congr {w : World} {B n : Nat} {v : Value} {f g : Nat → Int} (h : Sl w B v n f) (hfg : ∀ k, k < n → f k = g k) : Sl w B v n g := by
  rcases h with h | ⟨b, off, cap, h1, h2, h3⟩
  · exact .inl h
  · exact .inr ⟨b, off, cap, h1, h2, fun k hk => by rw [← hfg k hk]; exact h3 k hk⟩

theorem own_le {w : World} {base base' size n : Nat} {e : TypeId} {v : Value} {xs : List Value} (h : w.ownsRow base e size v n xs) (hb : base' ≤ base) : w.ownsRow base' e size v n xs := by
  obtain ⟨h1, h2⟩ := h
  refine ⟨h1, ?_⟩
  rcases h2 with h2 | ⟨g, cap, cur, hv, hg, r⟩
  · exact .inl h2
  · exact .inr ⟨g, cap, cur, hv, Nat.le_trans hb hg, r⟩

/-- What an owned row holds, as a slice of integers. -/
theorem Sl.of_own {w : World} {base e n B : Nat} {v : Value} {xs : List Value} {f : Nat → Int} (h : w.ownsRow base e 1 v n xs) (hf : ∀ k, k < n → xs[k]? = some (.int .i64 (f k))) (hB : w.heap.size ≤ B) : Sl w B v n f := by
  have hl := h.lt
  rcases h.2 with ⟨rfl, rfl⟩ | ⟨g, cap, cur, rfl, _, _, hcap, _⟩
  · exact .inl ⟨rfl, _, _, rfl, fun _ => rfl⟩
  · refine .inr ⟨g, 0, cap, rfl, ⟨?_, hcap⟩, fun k hk => ?_⟩
    · have := (hl g rfl).2; omega
    · rw [Nat.zero_add, h.cellAt k (by omega)]; exact hf k hk

/-- 2 to 257. -/
def pts (n : Int) : Bool := decide (2 ≤ n) && decide (n ≤ 257)
theorem pts_t {n : Int} (h : 2 ≤ n) (h' : n ≤ 257) : pts n = true := by simp [pts, h, h']
theorem pts_f {n : Int} (h : ¬ (2 ≤ n ∧ n ≤ 257)) : pts n = false := by
  unfold pts; by_cases h1 : 2 ≤ n <;> by_cases h2 : n ≤ 257 <;> simp_all

/-- A valid curve. -/
def Vld (n : Nat) (f : Nat → Int) : Prop := 2 ≤ n ∧ n ≤ 257 ∧ 0 ≤ f 0 ∧ f (n - 1) ≤ 65535 ∧ ∀ k, k + 1 < n → f k ≤ f (k + 1)

theorem Vld.mono {n : Nat} {f : Nat → Int} (h : Vld n f) : ∀ (j i : Nat), i + j < n → f i ≤ f (i + j)
  | 0, _, _ => Int.le_refl _
  | j + 1, i, hk => Int.le_trans (h.mono j i (by omega)) (h.2.2.2.2 (i + j) (by omega))
theorem Vld.le {n : Nat} {f : Nat → Int} (h : Vld n f) {i j : Nat} (hij : i ≤ j) (hj : j < n) : f i ≤ f j := by
  have := h.mono (j - i) i (by omega)
  rwa [show i + (j - i) = j from by omega] at this
theorem Vld.bd {n : Nat} {f : Nat → Int} (h : Vld n f) (k : Nat) (hk : k < n) : 0 ≤ f k ∧ f k ≤ 65535 :=
  ⟨Int.le_trans h.2.2.1 (h.le (Nat.zero_le k) hk), Int.le_trans (h.le (i := k) (j := n - 1) (by omega) (by omega)) h.2.2.2.1⟩

open Classical in
/-- Whether a curve is valid. -/
noncomputable def vldB (n : Nat) (f : Nat → Int) : Bool := decide (Vld n f)
theorem vldB_t {n : Nat} {f : Nat → Int} (h : Vld n f) : vldB n f = true := by simp [vldB, h]
theorem vldB_f {n : Nat} {f : Nat → Int} (h : ¬ Vld n f) : vldB n f = false := by simp [vldB, h]
theorem of_vldB {n : Nat} {f : Nat → Int} (h : vldB n f = true) : Vld n f := by simpa [vldB] using h

/-- The value of a curve with m + 1 points f 0 .. f m at x. -/
def atV (f : Nat → Int) (m : Nat) (x : Int) : Int :=
  if m * x / 65535 = m then f m else
    (f (m * x / 65535).toNat * (65535 - m * x % 65535) + f ((m * x / 65535).toNat + 1) * (m * x % 65535) + 32767) / 65535

theorem atV_end {f : Nat → Int} {m : Nat} {x : Int} (h : (m : Int) * x / 65535 = m) : atV f m x = f m := by unfold atV; rw [if_pos h]
theorem atV_mid {f : Nat → Int} {m i : Nat} {x r : Int} (h : (m : Int) * x / 65535 = i) (hr : (m : Int) * x % 65535 = r) (hi : i ≠ m) :
    atV f m x = (f i * (65535 - r) + f (i + 1) * r + 32767) / 65535 := by
  unfold atV; rw [if_neg (by omega), h, hr]; rfl

theorem mul_bd {a b A B : Int} (h0 : 0 ≤ a) (h1 : a ≤ A) (h2 : 0 ≤ b) (h3 : b ≤ B) : 0 ≤ a * b ∧ a * b ≤ A * B :=
  ⟨Int.mul_nonneg h0 h2, Int.mul_le_mul h1 h3 h2 (Int.le_trans h0 h1)⟩

/-- Where x lies in a curve with m + 1 points. -/
theorem at_place (m : Nat) (x : Int) (hm' : m ≤ 256) (hx : 0 ≤ x) (hx' : x ≤ 65535) :
    (0 ≤ (m : Int) * x ∧ (m : Int) * x ≤ 256 * 65535) ∧ ∃ (i : Nat) (r : Int), (m : Int) * x / 65535 = (i : Int) ∧ (m : Int) * x % 65535 = r ∧ 0 ≤ r ∧ r < 65535 ∧ i ≤ m := by
  obtain ⟨q1, q2⟩ := mul_bd (a := (m : Int)) (b := x) (A := 256) (B := 65535) (by omega) (by omega) hx hx'
  have h : (m : Int) * x ≤ m * 65535 := Int.mul_le_mul_of_nonneg_left hx' (by omega)
  exact ⟨⟨q1, q2⟩, ((m : Int) * x / 65535).toNat, _, by omega, rfl, by omega, by omega, by omega⟩

end Go.Proofs.Ytmilljlkcbljpaa
