/- The four curves and the four pairs of matrices of the reference are valid. -/
import Derived.Test.YtmilljlkcbljpaaRd2
namespace Go.Proofs.Ytmilljlkcbljpaa
open Go.RowKit Go.Sort

theorem cv_vld {r : Nat} (hr : r < 4) : Vld (cvN r) (cvF r) := by
  obtain rfl | rfl | rfl | rfl : r = 0 ∨ r = 1 ∨ r = 2 ∨ r = 3 := by omega
  all_goals
    refine ⟨by decide, by decide, by decide, by decide, fun k hk => ?_⟩
    have h5 : k < 4 := by
      have : ∀ r, r < 4 → cvN r ≤ 5 := by decide
      have := this _ hr
      omega
    obtain rfl | rfl | rfl | rfl : k = 0 ∨ k = 1 ∨ k = 2 ∨ k = 3 := by omega
    all_goals first | decide | (exact absurd hk (by decide))

def spT (r j : Nat) : Int := (if r = 1 then [0, 4096, 0, 0, 0, 4096, 4096, 0, 0] else if r = 2 then [2048, 0, 0, 0, 8192, 0, 0, 0, 4096] else if r = 3 then [4096, 2048, 0, 0, 4096, 0, 0, 1024, 4096] else [4096, 0, 0, 0, 4096, 0, 0, 0, 4096] : List Int).getD j 0
def spF (r j : Nat) : Int := (if r = 1 then [0, 0, 4096, 4096, 0, 0, 0, 4096, 0] else if r = 2 then [8192, 0, 0, 0, 2048, 0, 0, 0, 4096] else if r = 3 then [4096, -2048, 0, 0, 4096, 0, 0, -1024, 4096] else [4096, 0, 0, 0, 4096, 0, 0, 0, 4096] : List Int).getD j 0
theorem spT_ent {r : Nat} (hr : r < 4) : Ent (spT r) := by
  obtain rfl | rfl | rfl | rfl : r = 0 ∨ r = 1 ∨ r = 2 ∨ r = 3 := by omega
  all_goals
    intro j hj
    obtain rfl | rfl | rfl | rfl | rfl | rfl | rfl | rfl | rfl : j = 0 ∨ j = 1 ∨ j = 2 ∨ j = 3 ∨ j = 4 ∨ j = 5 ∨ j = 6 ∨ j = 7 ∨ j = 8 := by omega
    all_goals decide
theorem spF_ent {r : Nat} (hr : r < 4) : Ent (spF r) := by
  obtain rfl | rfl | rfl | rfl : r = 0 ∨ r = 1 ∨ r = 2 ∨ r = 3 := by omega
  all_goals
    intro j hj
    obtain rfl | rfl | rfl | rfl | rfl | rfl | rfl | rfl | rfl : j = 0 ∨ j = 1 ∨ j = 2 ∨ j = 3 ∨ j = 4 ∨ j = 5 ∨ j = 6 ∨ j = 7 ∨ j = 8 := by omega
    all_goals decide
theorem sp_inv {r : Nat} (hr : r < 4) : Inv (spF r) (spT r) := by
  obtain rfl | rfl | rfl | rfl : r = 0 ∨ r = 1 ∨ r = 2 ∨ r = 3 := by omega
  all_goals
    intro i hi
    unfold nearV prdV
    obtain rfl | rfl | rfl | rfl | rfl | rfl | rfl | rfl | rfl : i = 0 ∨ i = 1 ∨ i = 2 ∨ i = 3 ∨ i = 4 ∨ i = 5 ∨ i = 6 ∨ i = 7 ∨ i = 8 := by omega
    all_goals decide
theorem sp_val {r : Nat} {k : Nat → Nat} (hr : r < 4) (hk : ∀ i, k i < 4) : SpV (fun i => cvN (k i)) (fun i => cvF (k i)) (spT r) (spF r) := ⟨fun i _ => cv_vld (hk i), spT_ent hr, spF_ent hr, sp_inv hr⟩

end Go.Proofs.Ytmilljlkcbljpaa
