/- Slices of colours, grids. -/
import Derived.Test.YtmilljlkcbljpaaCv
import Derived.Test.YtmilljlkcbljpaaQo
import Derived.Test.YtmilljlkcbljpaaF
namespace Go.Proofs.Ytmilljlkcbljpaa
open Go.RowKit Go.Sort

/-- The cells of a row of colours. -/
def ClCells (w : World) (b off n : Nat) (g : Nat → Nat → Int) : Prop := ∀ k, k < n → ∀ j, j < 3 → w.cell? ⟨b, off + k * 3 + j, none⟩ = some (.int .i64 (g k j))
/-- A slice of n colours. -/
def Cls (w : World) (B : Nat) (v : Value) (n : Nat) (g : Nat → Nat → Int) : Prop :=
  (n = 0 ∧ ∃ a cap, v = .slice a 0 cap ∧ (a = none → cap = 0)) ∨ ∃ b off cap, v = .slice (some ⟨b, off, none⟩) n cap ∧ (b < B ∧ n ≤ cap) ∧ ClCells w b off n g
theorem ClCells.below {w w' : World} {b off n B : Nat} {g : Nat → Nat → Int} (h : ClCells w b off n g) (hb : Below B w w') (hB : b < B) : ClCells w' b off n g := fun k hk j hj => (hb.cell (p := ⟨b, off + k * 3 + j, none⟩) hB).trans (h k hk j hj)
theorem Cls.below {w w' : World} {B B' n : Nat} {v : Value} {g : Nat → Nat → Int} (h : Cls w B v n g) (hb : Below B' w w') (hB : B ≤ B') : Cls w' B v n g := by
  rcases h with h | ⟨b, off, cap, h1, h2, h3⟩
  · exact .inl h
  · exact .inr ⟨b, off, cap, h1, h2, h3.below hb (by omega)⟩
theorem Cls.mono {w : World} {B B' n : Nat} {v : Value} {g : Nat → Nat → Int} (h : Cls w B v n g) (hB : B ≤ B') : Cls w B' v n g := by
  rcases h with h | ⟨b, off, cap, h1, h2, h3⟩
  · exact .inl h
  · exact .inr ⟨b, off, cap, h1, ⟨by omega, h2.2⟩, h3⟩
theorem Cls.on {w w' : World} {n : Nat} {v : Value} {g : Nat → Nat → Int} (h : Cls w w.heap.size v n g) (hb : Below w.heap.size w w') : Cls w' w'.heap.size v n g := (h.below hb (Nat.le_refl _)).mono hb.size
theorem Cls.at {w : World} {B n : Nat} {v : Value} {g : Nat → Nat → Int} (h : Cls w B v n g) (hn : 1 ≤ n) : ∃ b off cap, v = .slice (some ⟨b, off, none⟩) n cap ∧ b < B ∧ ClCells w b off n g := by
  rcases h with ⟨rfl, _⟩ | ⟨b, off, cap, h1, h2, h3⟩
  · omega
  · exact ⟨b, off, cap, h1, h2.1, h3⟩
theorem Cls.shape {w : World} {B n : Nat} {v : Value} {g : Nat → Nat → Int} (h : Cls w B v n g) : ∃ a cap, v = .slice a n cap := by
  rcases h with ⟨rfl, a, cap, h, _⟩ | ⟨b, off, cap, h, _⟩
  · exact ⟨a, cap, h⟩
  · exact ⟨_, cap, h⟩

/-- The cells of n colours, one after the other. -/
def vals3 (g : Nat → Nat → Int) (n : Nat) : List Value := (List.range n).flatMap fun k => [.int .i64 (g k 0), .int .i64 (g k 1), .int .i64 (g k 2)]
theorem vals3_zero (g : Nat → Nat → Int) : vals3 g 0 = [] := rfl
theorem vals3_snoc (g : Nat → Nat → Int) (n : Nat) : vals3 g (n + 1) = vals3 g n ++ [.int .i64 (g n 0), .int .i64 (g n 1), .int .i64 (g n 2)] := by simp [vals3, List.range_succ]
theorem vals3_len (g : Nat → Nat → Int) : ∀ n, (vals3 g n).length = n * 3
  | 0 => rfl
  | n + 1 => by rw [vals3_snoc, List.length_append, vals3_len g n]; simp; omega
theorem vals3_get (g : Nat → Nat → Int) : ∀ n k j, k < n → j < 3 → (vals3 g n)[k * 3 + j]? = some (.int .i64 (g k j))
  | 0, k, j, hk, _ => by omega
  | n + 1, k, j, hk, hj => by
    rw [vals3_snoc]
    by_cases h : k < n
    · rw [List.getElem?_append_left (by rw [vals3_len]; omega)]; exact vals3_get g n k j h hj
    · obtain rfl : k = n := by omega
      rw [List.getElem?_append_right (by rw [vals3_len]; omega), vals3_len, show k * 3 + j - k * 3 = j by omega]
      obtain rfl | rfl | rfl : j = 0 ∨ j = 1 ∨ j = 2 := by omega
      all_goals rfl
theorem Cls.of_own {w : World} {base e n B : Nat} {v : Value} {g : Nat → Nat → Int} (h : w.ownsRow base e 3 v n (vals3 g n)) (hB : w.heap.size ≤ B) : Cls w B v n g := by
  have hl := h.lt
  rcases h.2 with ⟨rfl, rfl⟩ | ⟨b, cap, cur, rfl, _, _, hcap, _⟩
  · exact .inl ⟨rfl, _, _, rfl, fun _ => rfl⟩
  · refine .inr ⟨b, 0, cap, rfl, ⟨?_, hcap⟩, fun k hk j hj => ?_⟩
    · have := (hl b rfl).2; omega
    · rw [Nat.zero_add]
      have := h.cells (g := b) rfl (k * 3 + j) _ (vals3_get g n k j hk hj)
      have hadd : (⟨b, 0, none⟩ : Addr).add (k * 3 + j) = ⟨b, k * 3 + j, none⟩ := by unfold Addr.add; split <;> simp_all
      rwa [hadd] at this

theorem own_keep {w : World} {base size n b j : Nat} {e : TypeId} {v x : Value} {xs : List Value} (h : w.ownsRow base e size v n xs) (hb : b < base) : (w.setCell ⟨b, j, none⟩ x).ownsRow base e size v n xs := by
  obtain ⟨h1, h2⟩ := h
  refine ⟨h1, ?_⟩
  rcases h2 with h2 | ⟨g, cap, cur, hv, hg, hh, r⟩
  · exact .inl h2
  · exact .inr ⟨g, cap, cur, hv, hg, (Below.heap_setCell w ⟨b, j, none⟩ x g (show g ≠ b by omega)).trans hh, r⟩

/-- Two cells in a block. -/
def Two (t : TypeId) (w : World) (b : Nat) (x y : Value) : Prop := w.heap[b]? = some (.cells #[x, y] t (0, 0))
theorem Two.c0 {t : TypeId} {w : World} {b : Nat} {x y : Value} (h : Two t w b x y) : w.cell? ⟨b, 0, none⟩ = some x := by simp [World.cell?, show w.heap[b]? = _ from h]
theorem Two.c1 {t : TypeId} {w : World} {b : Nat} {x y : Value} (h : Two t w b x y) : w.cell? ⟨b, 1, none⟩ = some y := by simp [World.cell?, show w.heap[b]? = _ from h]
theorem Two.free {t : TypeId} {w : World} {b : Nat} {x y : Value} (h : Two t w b x y) (j : Nat) : w.frozen? ⟨b, j, none⟩ = false := frozen_of_row w b j _ _ h
theorem Two.lt {t : TypeId} {w : World} {b : Nat} {x y : Value} (h : Two t w b x y) : b < w.heap.size := (Array.getElem?_eq_some_iff.1 h).1
theorem Two.below {t : TypeId} {w w' : World} {b B : Nat} {x y : Value} (h : Two t w b x y) (hb : Below B w w') (hB : b < B) : Two t w' b x y := (hb.block b hB).trans h
theorem Two.on {t : TypeId} {w w' : World} {b : Nat} {x y : Value} (h : Two t w b x y) (hb : Below w.heap.size w w') : Two t w' b x y := h.below hb h.lt
theorem Two.keep {t : TypeId} {w : World} {b b' j : Nat} {x y z : Value} (h : Two t w b x y) (hb : b ≠ b') : Two t (w.setCell ⟨b', j, none⟩ z) b x y := (Below.heap_setCell w ⟨b', j, none⟩ z b hb).trans h
theorem Two.set0 {t : TypeId} {w : World} {b : Nat} {x y : Value} (h : Two t w b x y) (z : Value) : Two t (w.setCell ⟨b, 0, none⟩ z) b z y := by
  unfold Two; rw [heap_setCell_same w b 0 _ _ z h]; simp
theorem Two.set1 {t : TypeId} {w : World} {b : Nat} {x y : Value} (h : Two t w b x y) (z : Value) : Two t (w.setCell ⟨b, 1, none⟩ z) b x z := by
  unfold Two; rw [heap_setCell_same w b 1 _ _ z h]; simp
theorem Two.new (w : World) (x y : Value) (t : TypeId) : Two t (w.alloc (.cells #[x, y] t)) w.heap.size x y := heap_alloc_new w _
theorem Two.alloc {t : TypeId} {w : World} {b : Nat} {x y : Value} (h : Two t w b x y) (o : Obj) : Two t (w.alloc o) b x y := h.on ((Below.refl _ _).alloc (Nat.le_refl _) _)

/-- The coordinates of a grid point. -/
def crd (m k : Nat) : Nat → Int := fun j => if j = 0 then argV (k / (m * m)) m else if j = 1 then argV (k / m % m) m else argV (k % m) m
/-- The colours of a chain's table. -/
noncomputable def tabV (S : Nat → Sp) (n m k : Nat) : Nat → Int := gam (cnv S (crd m k) (n - 1))

set_option maxHeartbeats 400000 in
theorem sample1_any {i m b : Nat} {t : TypeId} {w : World} (hm : 2 ≤ m) (hm' : m ≤ 17) (hi : i < m) (h1 : One t w b (.int .i64 m)) :
    Calls Try.prog 83 #[.int .i64 i, .pointer (some ⟨b, 0, none⟩)] w fun e w' => e = .returned (.int .i64 (argV i m)) ∧ Drawn w w' := by
  have c1 := h1.cell
  have E := Lib.hid (show argV i m = (131070 * (i : Int) + m - 1) / (2 * ((m : Int) - 1)) from rfl)
  have d0 : (2 * ((m : Int) - 1) == 0) = false := by simp; omega
  have p0 : 0 ≤ 131070 * (i : Int) + m - 1 := by omega
  have p1 : 1 ≤ 2 * ((m : Int) - 1) := by omega
  clear h1
  go_enter Try.func83, Try.ntmps83
  go_wp2
  go_ret
  exact ⟨ret_int E.out.symm, .refl _⟩

end Go.Proofs.Ytmilljlkcbljpaa
