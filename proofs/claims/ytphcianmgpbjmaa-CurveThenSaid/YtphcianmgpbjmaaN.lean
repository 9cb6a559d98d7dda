/- The examples of the document's chapter on curves. -/
import Derived.Test.YtphcianmgpbjmaaM
import Derived.Test.YtphcianmgpbjmaaK
import Derived.Test.YtphcianmgpbjmaaL
namespace Go.Proofs.Ytphcianmgpbjmaa
open Go.RowKit

theorem reach_stays {n : Nat} {f : Nat → Int} (h : Vld n f) (y : Int) : Stays (reach n f y) := by
  intro i j hij hj hi
  simp only [reach, decide_eq_true_eq] at hi ⊢
  exact Int.le_trans hi (atV_mono_nat h hij hj)

/-- What Solve finds. -/
noncomputable def slv (n : Nat) (f : Nat → Int) (y : Int) : Nat := fnd (reach n f y)

theorem solve_val {f : Nat → Int} {n B : Nat} {v : Value} {y : Int} {w : World} (hB : B ≤ w.heap.size) (hs : Sl w B v n f) (hv : Vld n f) (hy : y ≤ f (n - 1)) :
    Calls Try.prog 25 #[v, .int .i64 y] w fun e w' => e = .returned (.tuple #[.int .i64 (slv n f y : Nat), .bool true]) ∧ Below w.heap.size w w' :=
  (solve_yes hB hs hv hy).mono fun _ _ ⟨_, he, hr, hb⟩ => ⟨by rw [he, hr.eq (reach_stays hv y)]; rfl, hb⟩

/-- The numbers of a list. -/
def ofL (l : List Int) (k : Nat) : Int := l.getD k 0

theorem Sl.lit {w : World} {l : List Int} {t : TypeId} {cs : Array Value} (hc : cs = (l.map (Value.int .i64)).toArray) :
    Sl (w.alloc (.cells cs t)) (w.heap.size + 1) (.slice (some ⟨w.heap.size, 0, none⟩) l.length l.length) l.length (ofL l) := by
  subst hc
  refine .inr ⟨w.heap.size, 0, l.length, rfl, ⟨by omega, Nat.le_refl _⟩, fun k hk => ?_⟩
  rw [Nat.zero_add, World.cell?_alloc_at _ _ _ _ rfl]
  simp [ofL, hk]

theorem Sl.own {w : World} {B n : Nat} {v : Value} {f : Nat → Int} {t : TypeId} (h : w.ownsRow B t 1 v n ((List.range n).map fun i => .int .i64 (f i))) : Sl w w.heap.size v n f :=
  Sl.of_own h (fun k hk => by simp [hk]) (Nat.le_refl _)

theorem fA : Vld 2 (ofL [10, 20]) := ⟨by omega, by omega, by decide, by decide, fun k hk => (by rcases (show k = 0 by omega) with rfl; decide)⟩
theorem fB : Vld 2 (ofL [0, 65535]) := ⟨by omega, by omega, by decide, by decide, fun k hk => (by rcases (show k = 0 by omega) with rfl; decide)⟩
theorem fC : Vld 3 (ofL [0, 0, 65535]) := ⟨by omega, by omega, by decide, by decide, fun k hk => (by rcases (show k = 0 ∨ k = 1 by omega) with rfl | rfl <;> decide)⟩

theorem slvA : slv 2 (ofL [10, 20]) 15 = 29491 :=
  (Found.eq (p := reach 2 (ofL [10, 20]) 15) (r := 29491) ⟨by omega, .inr (by decide +kernel), .inr (by decide +kernel)⟩ (reach_stays fA 15)).symm
theorem gamA : gamV 2 1 3 0 = 0 ∧ gamV 2 1 3 1 = 16383 ∧ gamV 2 1 3 2 = 65535 := by
  refine ⟨?_, ?_, ?_⟩
  · have := (Found.eq (p := gamP 2 1 3 0) (r := 0) ⟨by omega, .inl rfl, .inr (by decide +kernel)⟩ (gamP_stays _ _ _ _)).symm
    simp [gamV, this]
  · have := (Found.eq (p := gamP 2 1 3 1) (r := 16383) ⟨by omega, .inr (by decide +kernel), .inr (by decide +kernel)⟩ (gamP_stays _ _ _ _)).symm
    simp [gamV, this]
  · have := (Found.eq (p := gamP 2 1 3 2) (r := 65535) ⟨by omega, .inr (by decide +kernel), .inl rfl⟩ (gamP_stays _ _ _ _)).symm
    simp [gamV, this]
theorem fG : Vld 3 (gamV 2 1 3) := by
  obtain ⟨h0, h1, h2⟩ := gamA
  refine ⟨by omega, by omega, by rw [h0]; omega, by rw [show 3 - 1 = 2 from rfl, h2]; omega, fun k hk => ?_⟩
  obtain rfl | rfl : k = 0 ∨ k = 1 := by omega
  · rw [h0, h1]; omega
  · rw [h1, h2]; omega
theorem atB : AtV 2 (ofL [0, 65535]) 1000 = 1000 := by rw [AtV_yes fB]; decide +kernel
theorem atC : AtV 3 (ofL [0, 0, 65535]) 49151 = 32767 := by rw [AtV_yes fC]; decide +kernel
theorem sameG : sameB 3 (gamV 2 1 3) (ofL [0, 16383, 65535]) = true := by
  obtain ⟨h0, h1, h2⟩ := gamA
  refine sameB_t fun k hk => ?_
  obtain rfl | rfl | rfl : k = 0 ∨ k = 1 ∨ k = 2 := by omega
  · rw [h0]; rfl
  · rw [h1]; rfl
  · rw [h2]; rfl
theorem sameL : sameB 3 (fun i => argV i 3) (ofL [0, 32768, 65535]) = true := by
  refine sameB_t fun k hk => ?_
  rcases (show k = 0 ∨ k = 1 ∨ k = 2 by omega) with rfl | rfl | rfl <;> decide +kernel

set_option maxHeartbeats 2000000 in
theorem sanity_any (w : World) : Calls Try.prog 15 #[] w fun e w' => e = .returned (.bool true) ∧ Below w.heap.size w w' := by
  go_enter Try.func15, Try.ntmps15
  go_wp2_with fail
  have s1 : Sl (w.alloc (.cells #[.int .i64 10, .int .i64 20] 3)) (w.heap.size + 1) (.slice (some ⟨w.heap.size, 0, none⟩) 2 2) 2 (ofL [10, 20]) := Sl.lit (l := [10, 20]) rfl
  refine (solve_val (by simp) s1 fA (by decide)).mono ?_
  rintro e w1 ⟨rfl, hb1⟩
  rw [slvA]
  have B1 : Below w.heap.size w w1 := ((Below.refl _ w).alloc (Nat.le_refl _) _).trans (hb1.mono (by simp))
  clear hb1 s1
  go_wp2_with fail
  refine (gamma_yes 2 1 3 w1 (by omega) (by omega) (by omega) (by omega) (by omega) (by omega)).mono ?_
  rintro e w2 ⟨v, rfl, hown, hb2⟩
  have B2 : Below w.heap.size w w2 := B1.trans (hb2.mono B1.size)
  have S2 : Sl w2 w2.heap.size v 3 (gamV 2 1 3) := Sl.own hown
  clear hb2 B1 hown
  go_wp2_with fail
  refine (gamma_no 9 1 3 w2 (by unfold gamOk; omega)).mono ?_
  rintro e w3 ⟨rfl, hb3⟩
  have B3 : Below w.heap.size w w3 := B2.trans (hb3.mono B2.size)
  have S3 := S2.below hb3 (Nat.le_refl _)
  have z3 := hb3.size
  replace S3 := S3.mono z3
  clear hb3 B2 S2 z3
  go_wp2_with fail
  have q : Sl (w3.alloc (.cells #[.int .i64 0, .int .i64 65535] 3)) (w3.heap.size + 1) (.slice (some ⟨w3.heap.size, 0, none⟩) 2 2) 2 (ofL [0, 65535]) := Sl.lit (l := [0, 65535]) rfl
  refine (At_any (x := 1000) (by omega) q).mono ?_
  rintro e w4 ⟨rfl, hd⟩
  rw [atB]
  have hb := ((Below.refl _ w3).alloc (Nat.le_refl _) (.cells #[.int .i64 0, .int .i64 65535] 3)).trans (hd.below _)
  have B4 : Below w.heap.size w w4 := B3.trans (hb.mono B3.size)
  have S4 := (S3.below hb (Nat.le_refl _)).mono hb.size
  clear hb hd q B3 S3
  go_wp2_with fail
  have q : Sl (w4.alloc (.cells #[.int .i64 0, .int .i64 0, .int .i64 65535] 3)) (w4.heap.size + 1) (.slice (some ⟨w4.heap.size, 0, none⟩) 3 3) 3 (ofL [0, 0, 65535]) := Sl.lit (l := [0, 0, 65535]) rfl
  refine (At_any (x := 49151) (by omega) q).mono ?_
  rintro e w5 ⟨rfl, hd⟩
  rw [atC]
  have hb := ((Below.refl _ w4).alloc (Nat.le_refl _) (.cells #[.int .i64 0, .int .i64 0, .int .i64 65535] 3)).trans (hd.below _)
  have B5 : Below w.heap.size w w5 := B4.trans (hb.mono B4.size)
  have S5 := (S4.below hb (Nat.le_refl _)).mono hb.size
  clear hb hd q B4 S4
  go_wp2_with fail
  refine (line_yes 3 w5 (by omega) (by omega)).mono ?_
  rintro e w6 ⟨u, rfl, hown, hb⟩
  have B6 : Below w.heap.size w w6 := B5.trans (hb.mono B5.size)
  have S6 := (S5.below hb (Nat.le_refl _)).mono hb.size
  have U6 : Sl w6 w6.heap.size u 3 (fun i => argV i 3) := Sl.own hown
  clear hb hown B5 S5
  go_wp2_with fail
  have q : Sl (w6.alloc (.cells #[.int .i64 0, .int .i64 32768, .int .i64 65535] 3)) (w6.heap.size + 1) (.slice (some ⟨w6.heap.size, 0, none⟩) 3 3) 3 (ofL [0, 32768, 65535]) := Sl.lit (l := [0, 32768, 65535]) rfl
  have ha := (Below.refl w6.heap.size w6).alloc (Nat.le_refl _) (.cells #[.int .i64 0, .int .i64 32768, .int .i64 65535] 3)
  refine (same_eq (by omega) ((U6.below ha (Nat.le_refl _)).mono (Nat.le_succ _)) q).mono ?_
  rintro e w7 ⟨rfl, hd⟩
  rw [sameL]
  have hb := ha.trans (hd.below _)
  have B7 : Below w.heap.size w w7 := B6.trans (hb.mono B6.size)
  have S7 := (S6.below hb (Nat.le_refl _)).mono hb.size
  clear hb hd q ha B6 S6 U6
  go_wp2_with fail
  have q : Sl (w7.alloc (.cells #[.int .i64 0, .int .i64 16383, .int .i64 65535] 3)) (w7.heap.size + 1) (.slice (some ⟨w7.heap.size, 0, none⟩) 3 3) 3 (ofL [0, 16383, 65535]) := Sl.lit (l := [0, 16383, 65535]) rfl
  have ha := (Below.refl w7.heap.size w7).alloc (Nat.le_refl _) (.cells #[.int .i64 0, .int .i64 16383, .int .i64 65535] 3)
  refine (same_eq (by omega) ((S7.below ha (Nat.le_refl _)).mono (Nat.le_succ _)) q).mono ?_
  rintro e w8 ⟨rfl, hd⟩
  rw [sameG]
  have hb := ha.trans (hd.below _)
  have B8 : Below w.heap.size w w8 := B7.trans (hb.mono B7.size)
  have S8 := (S7.below hb (Nat.le_refl _)).mono hb.size
  clear hb hd q ha B7 S7
  go_wp2_with fail
  refine (valid_any (by omega) S8).mono ?_
  rintro e w9 ⟨rfl, hd⟩
  rw [vldB_t fG]
  have B9 : Below w.heap.size w w9 := B8.trans (hd.below _)
  clear hd B8 S8
  go_wp2_with fail
  refine (valid_any (f := fun _ => 0) (n := 0) (B := 0) (by omega) (.inl ⟨rfl, _, _, rfl, fun _ => rfl⟩)).mono ?_
  rintro e w10 ⟨rfl, hd⟩
  rw [vldB_f (fun h => by have := h.1; omega)]
  have B10 : Below w.heap.size w w10 := B9.trans (hd.below _)
  go_wp2_with fail
  go_ret
  exact ⟨rfl, B10⟩

end Go.Proofs.Ytphcianmgpbjmaa
