/- Line. -/
import Derived.Test.YtmilljlkcbljpaaF
namespace Go.Proofs.Ytmilljlkcbljpaa
open Go.RowKit

set_option maxHeartbeats 400000 in
theorem line1_any (x : Int) (w : World) : Gives 103 #[.int .i64 x] x w := by
  unfold Gives
  go_enter Try.func103, Try.ntmps103
  go_wp2
  go_ret
  exact ⟨rfl, Below.refl _ _⟩

/-- The arguments of n points, as values. -/
def argVals (n : Nat) : List Value := (List.range n).map fun i => .int .i64 (argV i n)

set_option maxHeartbeats 400000 in
theorem line_yes (n : Nat) (w : World) (h1 : 2 ≤ n) (h2 : n ≤ 257) :
    Calls Try.prog 77 #[.int .i64 n] w fun e w' => ∃ v, e = .returned v ∧ w'.ownsRow w.heap.size 3 1 v n (argVals n) ∧ Below w.heap.size w w' := by
  have P1 : pts (n : Int) = true := pts_t (by omega) (by omega)
  go_enter Try.func77, Try.ntmps77
  go_wp2_with (first | (go_at_call 90; refine (points_same _ _).mono ?_; rintro e w1 ⟨rfl, rfl⟩) | (go_at_call 102; refine (sample_line (G := fun x => x) h1 h2 (fun x W _ _ _ => line1_any x W)).mono ?_; rintro e w1 ⟨v, rfl, hown, hb⟩))
  go_ret
  exact ⟨_, rfl, hown, hb⟩

set_option maxHeartbeats 400000 in
theorem line_no (n : Int) (w : World) (h : ¬ (2 ≤ n ∧ n ≤ 257)) :
    Calls Try.prog 77 #[.int .i64 n] w fun e w' => e = .returned (.slice none 0 0) ∧ Below w.heap.size w w' := by
  have P1 : pts n = false := pts_f h
  clear h
  go_enter Try.func77, Try.ntmps77
  go_wp2_with (first | (go_at_call 90; refine (points_same _ _).mono ?_; rintro e w1 ⟨rfl, rfl⟩))
  go_ret
  exact ⟨rfl, Below.refl _ _⟩

end Go.Proofs.Ytmilljlkcbljpaa
