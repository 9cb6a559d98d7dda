/- Gamma: what it returns. -/
import Derived.Test.YtphcianmgpbjmaaJ
import Derived.OneCell
namespace Go.Proofs.Ytphcianmgpbjmaa
open Go.RowKit

/-- The test of the search for the i-th value of a gamma curve of n points. -/
def gamP (num den n i y : Nat) : Bool := decide (65535 ^ den * i ^ num < (y + 1) ^ den * (n - 1) ^ num)
theorem gamP_stays (num den n i : Nat) : Stays (gamP num den n i) := by
  intro a b hab _ h
  simp only [gamP, decide_eq_true_eq] at h ⊢
  exact Nat.lt_of_lt_of_le h (Nat.mul_le_mul (Nat.pow_le_pow_left (by omega) den) (Nat.le_refl _))
/-- The i-th value of a gamma curve of n points. -/
noncomputable def gamV (num den n i : Nat) : Int := (fnd (gamP num den n i) : Nat)

theorem Try.infoI : (Try.prog.info? 3).map (fun i => (i.zero, i.size, i.bytes)) = some (some (.int .i64 0), 1, 8) := by kernel_rfl

/-- The first k values. -/
noncomputable def gams (num den n k : Nat) : List Value := (List.range k).map fun i => .int .i64 (gamV num den n i)
theorem gams_len (num den n k : Nat) : (gams num den n k).length = k := by simp [gams]
theorem gams_snoc (num den n k : Nat) : gams num den n (k + 1) = gams num den n k ++ [.int .i64 (gamV num den n k)] := by simp [gams, List.range_succ]

theorem own_below' {w w' : World} {base size n : Nat} {e : TypeId} {v : Value} {xs : List Value} (h : w.ownsRow base e size v n xs) (hb : Below w.heap.size w w') : w'.ownsRow base e size v n xs := by
  refine h.kept ⟨hb.os, hb.tape, hb.output, hb.size, fun k hk _ => hb.block k hk⟩ (row := none) ?_
  rcases h.2 with ⟨rfl, _⟩ | ⟨g, cap, cur, rfl, _⟩
  · exact .inl rfl
  · exact .inr (by simp [Value.ownBlock])

/-- What the append leaves of the loop's relation. -/
theorem gamma_rel {w wr w2 w3 : World} {v v' : Value} {k num den n : Nat} {o : Obj} (hB : Below w.heap.size w wr) (hz : w.heap.size + 3 ≤ wr.heap.size)
    (hrow : wr.ownsRow (w.heap.size + 3) 3 1 v k (gams num den n k)) (hb2 : Below wr.heap.size wr w2)
    (hown : w3.ownsRow (w.heap.size + 3) 3 1 v' (k + 1) (gams num den n k ++ [.int .i64 (gamV num den n k)])) (hgrow : (w2.alloc o).grownBy w3 v.ownBlock)
    {a b c : Value} (h1 : wr.cell? ⟨w.heap.size, 0, none⟩ = some a) (h2 : wr.cell? ⟨w.heap.size + 1, 0, none⟩ = some b) (h3 : wr.cell? ⟨w.heap.size + 2, 0, none⟩ = some c) :
    w3.ownsRow (w.heap.size + 3) 3 1 v' (k + 1) (gams num den n (k + 1)) ∧ w3.cell? ⟨w.heap.size, 0, none⟩ = some a ∧ w3.cell? ⟨w.heap.size + 1, 0, none⟩ = some b ∧ w3.cell? ⟨w.heap.size + 2, 0, none⟩ = some c ∧
    Below w.heap.size w w3 ∧ w.heap.size + 3 ≤ w3.heap.size := by
  have hs := hb2.size
  have hg := hgrow.size
  have hne : ∀ j, j < w.heap.size + 3 → some j ≠ v.ownBlock := fun j hj h => by have := (hrow.lt j h.symm).1; omega
  have hc : ∀ (p : Nat) (u : Value), p < w.heap.size + 3 → wr.cell? ⟨p, 0, none⟩ = some u → w3.cell? ⟨p, 0, none⟩ = some u := fun p u hp hu =>
    hgrow.cell ((World.cell?_alloc_past _ _ _ (by omega)).trans ((hb2.cell (p := ⟨p, 0, none⟩) (by show p < _; omega)).trans hu)) (hne p hp)
  simp at hg
  exact ⟨by rw [gams_snoc]; exact hown, hc _ _ (by omega) h1, hc _ _ (by omega) h2, hc _ _ (by omega) h3,
    ((hB.trans (hb2.mono hB.size)).alloc (by omega) o).grown hgrow (by simp; omega) (fun j hj => by have := (hrow.lt j hj).1; omega), by omega⟩

/-- The new box of the limit. -/
theorem limit_new (w : World) (l : Nat → Nat) : Four (w.alloc (.cells #[.int .u64 (l 0 : Nat), .int .u64 (l 1 : Nat), .int .u64 (l 2 : Nat), .int .u64 (l 3 : Nat)] 64)) w.heap.size l := heap_alloc_new w _

/-- The boxes of Gamma. -/
theorem gamma_new (w : World) (num den n : Nat) :
    (((w.alloc (.cells #[.int .i64 num] 3)).alloc (.cells #[.int .i64 den] 3)).alloc (.cells #[.int .u64 ((n : Int) - 1)] 62)).cell? ⟨w.heap.size, 0, none⟩ = some (.int .i64 num) ∧
    (((w.alloc (.cells #[.int .i64 num] 3)).alloc (.cells #[.int .i64 den] 3)).alloc (.cells #[.int .u64 ((n : Int) - 1)] 62)).cell? ⟨w.heap.size + 1, 0, none⟩ = some (.int .i64 den) ∧
    (((w.alloc (.cells #[.int .i64 num] 3)).alloc (.cells #[.int .i64 den] 3)).alloc (.cells #[.int .u64 ((n : Int) - 1)] 62)).cell? ⟨w.heap.size + 2, 0, none⟩ = some (.int .u64 ((n : Int) - 1)) ∧
    Below w.heap.size w (((w.alloc (.cells #[.int .i64 num] 3)).alloc (.cells #[.int .i64 den] 3)).alloc (.cells #[.int .u64 ((n : Int) - 1)] 62)) ∧
    w.heap.size + 3 ≤ (((w.alloc (.cells #[.int .i64 num] 3)).alloc (.cells #[.int .i64 den] 3)).alloc (.cells #[.int .u64 ((n : Int) - 1)] 62)).heap.size := by
  refine ⟨?_, ?_, ?_, (((Below.refl _ w).alloc (Nat.le_refl _) _).alloc (by simp) _).alloc (by simp; omega) _, by simp⟩
  · rw [World.cell?_alloc_past _ _ _ (by simp; omega), World.cell?_alloc_past _ _ _ (by simp), World.cell?_alloc_at _ _ _ _ rfl]; rfl
  · rw [World.cell?_alloc_past _ _ _ (by simp), World.cell?_alloc_at _ _ _ _ (by simp)]; rfl
  · rw [World.cell?_alloc_at _ _ _ _ (by simp)]; rfl

set_option maxHeartbeats 2000000 in
set_option maxRecDepth 100000 in
theorem gamma_yes (num den n : Nat) (w : World) (hnum1 : 1 ≤ num) (hnum : num ≤ 8) (hden1 : 1 ≤ den) (hden : den ≤ 8) (hn1 : 2 ≤ n) (hn : n ≤ 257) :
    Calls Try.prog 27 #[.int .i64 num, .int .i64 den, .int .i64 n] w fun e w' =>
      ∃ v, e = .returned (.tuple #[v, .int .i64 0]) ∧ w'.ownsRow w.heap.size 3 1 v n (gams num den n n) ∧ Below w.heap.size w w' := by
  have hmf : ∀ (fn : Fn) (first cap : Array Value) (w : World), (Instr.makeFunc fn first cap).run Try.prog w = .ok (.func fn first cap) w := fun _ _ _ _ => rfl
  obtain ⟨i0, hi, hz0, hz1, hz2⟩ := info_parts Try.infoI
  have P1 : pts (n : Int) = true := pts_t (by omega) (by omega)
  go_enter Try.func27, Try.ntmps27
  go_wp2_with (first | (go_at_call 36; refine (points_same _ _).mono ?_; rintro e w1 ⟨rfl, rfl⟩))
  have s0 := Lib.hid (gamma_new w num den n)
  go_loopw [8, 35] (fun v i wr => ∃ k : Nat, k ≤ n ∧ i = .int .i64 k ∧ wr.ownsRow (w.heap.size + 3) 3 1 v k (gams num den n k) ∧
      wr.cell? ⟨w.heap.size, 0, none⟩ = some (.int .i64 num) ∧ wr.cell? ⟨w.heap.size + 1, 0, none⟩ = some (.int .i64 den) ∧ wr.cell? ⟨w.heap.size + 2, 0, none⟩ = some (.int .u64 ((n : Int) - 1)) ∧ Below w.heap.size w wr ∧ w.heap.size + 3 ≤ wr.heap.size) (fun _ i _ => n - (intOf i).toNat)
  case atStart =>
    obtain ⟨q1, q2, q3, q4, q5⟩ := s0.out
    exact ⟨0, by omega, rfl, World.ownsRow_nil _ _ _ _, q1, q2, q3, q4, q5⟩
  case round =>
    obtain ⟨k, hk, rfl, hrow, h1, h2, h3, hB, hz⟩ := hrel
    by_cases hlt : k < n
    · have HR := Lib.hid hrow
      clear hrow
      go_wp2_with fail
      refine (raised_any 65535 den k num (by unfold U64; omega) (by unfold U64; omega) (by omega) (by omega) wr).mono ?_
      rintro e w1 ⟨rfl, hb1⟩
      have h1' := (hb1.cell (p := ⟨w.heap.size, 0, none⟩) (by show w.heap.size < _; omega)).trans h1
      have h2' := (hb1.cell (p := ⟨w.heap.size + 1, 0, none⟩) (by show w.heap.size + 1 < _; omega)).trans h2
      have h3' := (hb1.cell (p := ⟨w.heap.size + 2, 0, none⟩) (by show w.heap.size + 2 < _; omega)).trans h3
      obtain ⟨L, hL⟩ : ∃ L, 65535 ^ den * k ^ num = L := ⟨_, rfl⟩
      have HL := Lib.hid hL
      rw [hL]
      clear hL
      unfold W4
      have hs1 := hb1.size
      go_wp2_with fail
      have F1 := limit_new w1 (dig L)
      have hgp : ∀ y, gamP num den n k y = decide (L < (y + 1) ^ den * (n - 1) ^ num) := fun y => by rw [← HL.out]; rfl
      have hLb : L < 18446744073709551616 ^ 4 := by rw [← HL.out]; exact prod_bd (by omega) (by omega) hden hnum
      refine (search_gamma (p := gamP num den n k) fun y w' hy hbw => ?_).mono ?_
      · have hsz : (w1.alloc (.cells #[.int .u64 (dig L 0 : Nat), .int .u64 (dig L 1 : Nat), .int .u64 (dig L 2 : Nat), .int .u64 (dig L 3 : Nat)] 64)).heap.size = w1.heap.size + 1 := by simp
        have hcell : ∀ (p : Nat) (u : Value), p < w1.heap.size → w1.cell? ⟨p, 0, none⟩ = some u → w'.cell? ⟨p, 0, none⟩ = some u := fun p u hp hu =>
          (hbw.cell (p := ⟨p, 0, none⟩) (by show p < _; omega)).trans ((World.cell?_alloc_past _ _ _ hp).trans hu)
        rw [hgp]
        refine (gamma1_any (m := n - 1) hnum hden (by omega) hy hLb (F1.below hbw (by omega)) (hcell _ _ (by omega) h2') ?_ (hcell _ _ (by omega) h1')).mono ?_
        · have := hcell _ _ (by omega) h3'
          rw [show ((n : Int) - 1) = ((n - 1 : Nat) : Int) from by omega] at this
          exact this
        · rintro e w'' ⟨he, hb⟩
          exact ⟨he, hbw.trans (hb.mono hbw.size)⟩
      · rintro e w2 ⟨r, rfl, hr, hb2⟩
        have hrv : (r : Int) = gamV num den n k := by rw [hr.eq (gamP_stays num den n k)]; rfl
        have hb3 : Below wr.heap.size wr w2 := (hb1.trans (((Below.refl _ w1).alloc (Nat.le_refl _) _).mono hs1)).trans (hb2.mono (by simp; omega))
        have hrow2 := own_below' HR.out hb3
        have hs2 := hb3.size
        rw [hrv]
        clear hgp hLb F1 hrv hr
        go_wp2_with (at_builtin; refine wpList_append_own _ rfl _ _ 23 rfl (w.heap.size + 3) 3 i0 (.int .i64 0) 1 8 Try.underlying23 hi hz0 hz1 hz2 rfl (by decide) _ k (gams num den n k) rfl (hrow2.alloc _) ⟨w2.heap.size, 0, none⟩ 1 1 [.int .i64 (gamV num den n k)] rfl rfl (cell_one_new _ _ _) (by simp [Value.oneCell']) (by unfold maxLen; omega) (by omega) (by simp; omega) ?_; intro v' w3 hown' hgrow _)
        obtain ⟨q1, q2, q3, q4, q5, q6⟩ := gamma_rel hB hz HR.out hb3 hown' hgrow h1 h2 h3
        clear hown' hgrow hrow2
        go_roundw
        case rel => exact ⟨k + 1, by omega, by go_num, q1, q2, q3, q4, q5, q6⟩
        case measure => simp [intOf]; omega
    · obtain rfl : k = n := by omega
      go_wp2
      go_ret2
      exact ⟨_, rfl, own_le hrow (by omega), hB⟩
/-- Whether Gamma takes its arguments. -/
def gamOk (num den n : Int) : Prop := 1 ≤ num ∧ num ≤ 8 ∧ 1 ≤ den ∧ den ≤ 8 ∧ 2 ≤ n ∧ n ≤ 257

set_option maxHeartbeats 1000000 in
theorem gamma_no (num den n : Int) (w : World) (h : ¬ gamOk num den n) :
    Calls Try.prog 27 #[.int .i64 num, .int .i64 den, .int .i64 n] w fun e w' => e = .returned (.tuple #[.slice none 0 0, .int .i64 1]) ∧ Below w.heap.size w w' := by
  have hB : Below w.heap.size w ((w.alloc (.cells #[.int .i64 num] 3)).alloc (.cells #[.int .i64 den] 3)) := ((Below.refl _ w).alloc (Nat.le_refl _) _).alloc (by simp) _
  unfold gamOk at h
  by_cases h1 : num < 1
  · clear h
    go_enter Try.func27, Try.ntmps27
    go_wp2_with fail
    go_ret2
    exact ⟨rfl, hB⟩
  · by_cases h2 : 8 < num
    · clear h
      go_enter Try.func27, Try.ntmps27
      go_wp2_with fail
      go_ret2
      exact ⟨rfl, hB⟩
    · by_cases h3 : den < 1
      · clear h
        go_enter Try.func27, Try.ntmps27
        go_wp2_with fail
        go_ret2
        exact ⟨rfl, hB⟩
      · by_cases h4 : 8 < den
        · clear h
          go_enter Try.func27, Try.ntmps27
          go_wp2_with fail
          go_ret2
          exact ⟨rfl, hB⟩
        · have P1 : pts n = false := pts_f (by omega)
          clear h
          go_enter Try.func27, Try.ntmps27
          go_wp2_with (first | (go_at_call 36; refine (points_same _ _).mono ?_; rintro e w1 ⟨rfl, rfl⟩))
          go_ret2
          exact ⟨rfl, hB⟩

end Go.Proofs.Ytphcianmgpbjmaa
