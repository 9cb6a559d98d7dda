/- Line of the reference, and the plain law of Line. -/
import Derived.Test.YtphcianmgpbjmaaS
namespace Go.Proofs.Ytphcianmgpbjmaa
open Go.RowKit

theorem argV_two (i n : Nat) (h : 2 ≤ n) : ((n : Int) - 1) * argV i n * 2 ≤ 131070 * i + (n - 1) ∧ 131070 * (i : Int) - (n - 1) < ((n : Int) - 1) * argV i n * 2 := by
  unfold argV
  have h1 := Int.mul_ediv_add_emod (131070 * (i : Int) + n - 1) (2 * ((n : Int) - 1))
  have h2 := Int.emod_nonneg (131070 * (i : Int) + n - 1) (show 2 * ((n : Int) - 1) ≠ 0 by omega)
  have h3 := Int.emod_lt_of_pos (131070 * (i : Int) + n - 1) (show 0 < 2 * ((n : Int) - 1) by omega)
  have e : 2 * ((n : Int) - 1) * ((131070 * (i : Int) + n - 1) / (2 * ((n : Int) - 1))) = ((n : Int) - 1) * ((131070 * (i : Int) + n - 1) / (2 * ((n : Int) - 1))) * 2 := by
    rw [Int.mul_assoc, Int.mul_comm]
  rw [e] at h1
  omega

theorem line_vld (n : Nat) (h1 : 2 ≤ n) (h2 : n ≤ 257) : Vld n (fun i => argV i n) := by
  refine ⟨h1, h2, ?_, ?_, fun k hk => ?_⟩
  · exact (argV_bd h1 (by omega)).1
  · exact (argV_bd h1 (by omega)).2
  · show argV k n ≤ argV (k + 1) n
    unfold argV
    exact Int.ediv_le_ediv (by omega) (by omega)

theorem line_raw (n : Nat) (h1 : 2 ≤ n) (x : Nat) : 65535 * (x : Int) - 32767 ≤ rawV (fun i => argV i n) ((n - 1) * x) ∧ rawV (fun i => argV i n) ((n - 1) * x) ≤ 65535 * (x : Int) + 32767 := by
  unfold rawV
  obtain ⟨i, hi⟩ : ∃ i, (n - 1) * x / 65535 = i := ⟨_, rfl⟩
  obtain ⟨r, hr⟩ : ∃ r, (n - 1) * x % 65535 = r := ⟨_, rfl⟩
  have hx : (n - 1) * x = 65535 * i + r := by omega
  have hr1 : r < 65535 := by omega
  rw [hi, hr]
  obtain ⟨a1, a2⟩ := argV_two i n h1
  obtain ⟨b1, b2⟩ := argV_two (i + 1) n h1
  have hxI : ((n : Int) - 1) * x = 65535 * i + r := by
    have : ((n - 1 : Nat) : Int) = (n : Int) - 1 := by omega
    rw [← this, ← Int.natCast_mul]; omega
  simp only []
  generalize argV i n = a at *
  generalize argV (i + 1) n = b at *
  obtain ⟨M, hM⟩ : ∃ M : Int, (n : Int) - 1 = M := ⟨_, rfl⟩
  rw [hM] at a1 a2 b1 b2 hxI
  have hM0 : 0 < M := by omega
  have s0 : (0 : Int) ≤ 65535 - (r : Int) := by omega
  have s1 : (0 : Int) ≤ (r : Int) := by omega
  have p1 := Int.mul_le_mul_of_nonneg_right a1 s0
  have p2 := Int.mul_le_mul_of_nonneg_right b1 s1
  have p3 := Int.mul_le_mul_of_nonneg_right (Int.le_of_lt a2) s0
  have p4 := Int.mul_le_mul_of_nonneg_right (Int.le_of_lt b2) s1
  obtain ⟨V, hV⟩ : ∃ V : Int, a * (65535 - (r : Int)) + b * (r : Int) = V := ⟨_, rfl⟩
  have hMV : M * V * 2 = M * a * 2 * (65535 - (r : Int)) + M * b * 2 * (r : Int) := by
    rw [← hV, Int.mul_add, Int.add_mul]
    congr 1 <;> simp only [Int.mul_assoc, Int.mul_comm, Int.mul_left_comm]
  have q1 : (131070 * (i : Int) + M) * (65535 - (r : Int)) + (131070 * ((i + 1 : Nat) : Int) + M) * (r : Int) = 131070 * (65535 * i + r) + 65535 * M := by
    have e1 : ((i + 1 : Nat) : Int) = (i : Int) + 1 := by omega
    rw [e1]
    simp only [Int.add_mul, Int.mul_add, Int.mul_sub]
    have c1 : (i : Int) * (r : Int) = (r : Int) * (i : Int) := Int.mul_comm _ _
    have c2 : M * (r : Int) = (r : Int) * M := Int.mul_comm _ _
    have c3 : 131070 * (i : Int) * (r : Int) = 131070 * ((i : Int) * (r : Int)) := Int.mul_assoc _ _ _
    omega
  have q2 : (131070 * (i : Int) - M) * (65535 - (r : Int)) + (131070 * ((i + 1 : Nat) : Int) - M) * (r : Int) = 131070 * (65535 * i + r) - 65535 * M := by
    have e1 : ((i + 1 : Nat) : Int) = (i : Int) + 1 := by omega
    rw [e1]
    simp only [Int.add_mul, Int.mul_add, Int.mul_sub, Int.sub_mul]
    have c3 : 131070 * (i : Int) * (r : Int) = 131070 * ((i : Int) * (r : Int)) := Int.mul_assoc _ _ _
    omega
  rw [hV]
  have u1 : M * V * 2 ≤ 131070 * (M * x) + 65535 * M := by rw [hxI, hMV, ← q1]; omega
  have u2 : 131070 * (M * x) - 65535 * M ≤ M * V * 2 := by rw [hxI, hMV, ← q2]; omega
  have d1 : M * (V * 2) = M * V * 2 := (Int.mul_assoc _ _ _).symm
  have d2 : M * (131070 * (x : Int)) = 131070 * (M * x) := Int.mul_left_comm _ _ _
  have d3 : M * 65535 = 65535 * M := Int.mul_comm _ _
  have w1 : M * (V * 2) ≤ M * (131070 * x + 65535) := by rw [Int.mul_add, d1, d2, d3]; exact u1
  have w2 : M * (131070 * x - 65535) ≤ M * (V * 2) := by rw [Int.mul_sub, d1, d2, d3]; exact u2
  have v1 := Int.le_of_mul_le_mul_left w1 hM0
  have v2 := Int.le_of_mul_le_mul_left w2 hM0
  omega

/-- The identity is at most 1 off. -/
theorem line_near (n : Nat) (h1 : 2 ≤ n) {x : Int} (h0 : 0 ≤ x) (hx : x ≤ 65535) : atV (fun i => argV i n) (n - 1) x - x ≤ 1 ∧ x - atV (fun i => argV i n) (n - 1) x ≤ 1 := by
  obtain ⟨y, rfl⟩ := Int.eq_ofNat_of_zero_le h0
  rw [atV_raw (by omega)]
  have := line_raw n h1 y
  omega

set_option maxHeartbeats 400000 in
theorem arg_any (i n : Nat) (w : World) (hn : 2 ≤ n) (hn' : n ≤ 1000) (hi : i ≤ 1000) :
    Calls Try.prog 31 #[.int .i64 i, .int .i64 n] w fun e w' => e = .returned (.int .i64 (argV i n)) ∧ w = w' := by
  have E := Lib.hid (show (131070 * (i : Int) + n - 1) / (2 * (n : Int) - 2) = argV i n by unfold argV; rw [show 2 * ((n : Int) - 1) = 2 * (n : Int) - 2 by omega])
  go_enter Try.func31, Try.ntmps31
  go_wp2
  go_ret
  exact ⟨ret_int E.out, rfl⟩

set_option maxHeartbeats 1000000 in
theorem refLine_yes (n : Nat) (w : World) (h1 : 2 ≤ n) (h2 : n ≤ 257) :
    Calls Try.prog 24 #[.int .i64 n] w fun e w' => ∃ v, e = .returned v ∧ w'.ownsRow w.heap.size 3 1 v n (vals (fun i => argV i n) n) ∧ Below w.heap.size w w' := by
  obtain ⟨i0, hi, hz0, hz1, hz2⟩ := info_parts Try.infoI
  have P1 : pts (n : Int) = true := pts_t (by omega) (by omega)
  have hm := Lib.hid (made_empty w)
  go_enter Try.func24, Try.ntmps24
  go_wp2_with (first | (go_at_call 38; refine (refPoints_same _ _).mono ?_; rintro e w1 ⟨rfl, rfl⟩))
  go_loopw [4, 5] (fun c i wr => ∃ k : Nat, k ≤ n ∧ i = .int .i64 k ∧ wr.ownsRow w.heap.size 3 1 c k (vals (fun i => argV i n) k) ∧ Below w.heap.size w wr) (fun _ i _ => n - (intOf i).toNat)
  case atStart => exact ⟨0, by omega, rfl, hm.out, (Below.refl _ w).alloc (Nat.le_refl _) _⟩
  case round =>
    obtain ⟨k, hk, rfl, hown, hB⟩ := hrel
    by_cases hlt : k < n
    · have HO := Lib.hid hown
      have hsz := hB.size
      clear hown
      go_wp2_with (first | (go_at_call 31; refine (arg_any k n _ (by omega) (by omega) (by omega)).mono ?_; rintro e w1 ⟨rfl, rfl⟩) | (at_builtin; refine wpList_append_own _ rfl _ _ 23 rfl w.heap.size 3 i0 (.int .i64 0) 1 8 Try.underlying23 hi hz0 hz1 hz2 rfl (by decide) _ k (vals (fun i => argV i n) k) rfl (HO.out.alloc _) ⟨wr.heap.size, 0, none⟩ 1 1 [.int .i64 (argV k n)] rfl rfl (cell_one_new _ _ _) (by simp [Value.oneCell']) (by unfold maxLen; omega) (by omega) (by simp; omega) ?_; intro v' w3 hown' hgrow _))
      have hB3 : Below w.heap.size w w3 := (hB.alloc hsz _).grown hgrow (by simp; omega) (fun j hj => (HO.out.lt j hj).1)
      have HO' := Lib.hid hown'
      clear hown' hgrow
      go_roundw
      case rel => exact ⟨k + 1, by omega, by go_num, by rw [vals_snoc (fun i => argV i n) k]; exact HO'.out, hB3⟩
      case measure => simp [intOf]; omega
    · obtain rfl : k = n := by omega
      have HO := Lib.hid hown
      clear hown
      go_wp2
      go_ret
      exact ⟨_, rfl, HO.out, hB⟩

set_option maxHeartbeats 400000 in
theorem refLine_no (n : Int) (w : World) (h : ¬ (2 ≤ n ∧ n ≤ 257)) :
    Calls Try.prog 24 #[.int .i64 n] w fun e w' => e = .returned (.slice none 0 0) ∧ Below w.heap.size w w' := by
  have P1 : pts n = false := pts_f h
  clear h
  go_enter Try.func24, Try.ntmps24
  go_wp2_with (first | (go_at_call 38; refine (refPoints_same _ _).mono ?_; rintro e w1 ⟨rfl, rfl⟩))
  go_ret
  exact ⟨rfl, Below.refl _ _⟩

end Go.Proofs.Ytphcianmgpbjmaa
