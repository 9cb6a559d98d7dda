/- rest; looking up stays between the corners, and is exact at grid points. -/
import Derived.Test.YtmilljlkcbljpaaSn
import Derived.Test.YtmilljlkcbljpaaP
namespace Go.Proofs.Ytmilljlkcbljpaa
open Go.RowKit Go.Sort

set_option maxHeartbeats 400000 in
theorem rest_any {x : Int} {n : Nat} {w : World} (hn : 1 ≤ n) (hn' : n ≤ 1000) :
    Calls Try.prog 15 #[.int .i64 x, .int .i64 n] w fun e w' => (∃ k : Nat, k < n ∧ (k : Int) = (x.tmod n + n) % n ∧ e = .returned (.int .i64 k)) ∧ w = w' := by
  have h1 := Int.tmod_lt_of_pos x (b := (n : Int)) (by omega)
  have h2 := Int.tmod_lt_of_pos (-x) (b := (n : Int)) (by omega)
  rw [Int.neg_tmod] at h2
  have d0 : ((n : Int) == 0) = false := by simp; omega
  have p1 : 0 ≤ x.tmod n + n := by omega
  have p2 : x.tmod n + n ≤ 2000 := by omega
  have h3 := Int.emod_nonneg (x.tmod n + n) (b := (n : Int)) (by omega)
  have h4 := Int.emod_lt_of_pos (x.tmod n + n) (b := (n : Int)) (by omega)
  obtain ⟨k, hk⟩ := Int.eq_ofNat_of_zero_le h3
  rw [hk] at h4
  have HK := Lib.hid hk
  have HL := Lib.hid (show k < n by omega)
  clear hk h3 h4
  go_enter Try.func15, Try.ntmps15
  go_wp2
  go_ret
  exact ⟨⟨k, HL.out, HK.out.symm, ret_int HK.out⟩, rfl⟩

theorem smV_between {N : Nat} {A : Nat → Nat} {o : Nat → Int} {g : Nat → Nat → Int} {L H : Int} {i : Nat} (ho : ∀ i, i < 3 → 0 ≤ o i ∧ o i ≤ 65535) (hg : ∀ k, k ≤ 3 → L ≤ g (ixN N (psn A o k)) i ∧ g (ixN N (psn A o k)) i ≤ H) :
    ∀ k, k ≤ 3 → (65535 - lft o k) * L ≤ smV N A o g k i ∧ smV N A o g k i ≤ (65535 - lft o k) * H
  | 0, _ => by simp [smV, lft]
  | k + 1, hk => by
    have ih := smV_between ho hg k (by omega)
    have hl := lft_le ho k (by omega)
    have hgi := hg k (by omega)
    have hw : lft o (k + 1) = o (axo o k) := rfl
    rw [hw] at hl ⊢
    have p1 := Int.mul_le_mul_of_nonneg_left hgi.1 (show 0 ≤ lft o k - o (axo o k) by omega)
    have p2 := Int.mul_le_mul_of_nonneg_left hgi.2 (show 0 ≤ lft o k - o (axo o k) by omega)
    have e1 : (65535 - o (axo o k)) * L = (65535 - lft o k) * L + (lft o k - o (axo o k)) * L := by rw [← Int.add_mul]; congr 1; omega
    have e2 : (65535 - o (axo o k)) * H = (65535 - lft o k) * H + (lft o k - o (axo o k)) * H := by rw [← Int.add_mul]; congr 1; omega
    show _ ≤ smV N A o g k i + _ ∧ smV N A o g k i + _ ≤ _
    rw [e1, e2]
    omega

theorem lkV_between {N : Nat} {g : Nat → Nat → Int} {c : Nat → Int} {L H : Int} {i : Nat} (hN : 2 ≤ N) (hN' : N ≤ 17) (hg : ∀ k, k ≤ 3 → L ≤ g (ixN N (psn (lkA N c) (lkO N c) k)) i ∧ g (ixN N (psn (lkA N c) (lkO N c) k)) i ≤ H) :
    L ≤ lkV N g c i ∧ lkV N g c i ≤ H := by
  have ho : ∀ i, i < 3 → 0 ≤ lkO N c i ∧ lkO N c i ≤ 65535 := fun i _ => (lk_bd hN hN' c i).2
  have h1 := smV_between ho hg 3 (by omega)
  have h2 := lft_bd ho 3 (by omega)
  have h3 := hg 3 (by omega)
  have p1 := Int.mul_le_mul_of_nonneg_left h3.1 h2.1
  have p2 := Int.mul_le_mul_of_nonneg_left h3.2 h2.1
  have e1 : (65535 - lft (lkO N c) 3) * L + lft (lkO N c) 3 * L = 65535 * L := by rw [← Int.add_mul]; congr 1; omega
  have e2 : (65535 - lft (lkO N c) 3) * H + lft (lkO N c) 3 * H = 65535 * H := by rw [← Int.add_mul]; congr 1; omega
  unfold lkV lkS
  omega

/-- A corner, by its number. -/
theorem corner (A : Nat → Nat) (o : Nat → Int) (k : Nat) (hk : k ≤ 3) : ∃ j, j < 8 ∧ psn A o k 0 = A 0 + j % 2 ∧ psn A o k 1 = A 1 + j / 2 % 2 ∧ psn A o k 2 = A 2 + j / 4 := by
  have h0 := psn_le A o k 0 hk
  have h1 := psn_le A o k 1 hk
  have h2 := psn_le A o k 2 hk
  exact ⟨(psn A o k 0 - A 0) + 2 * (psn A o k 1 - A 1) + 4 * (psn A o k 2 - A 2), by omega, by omega, by omega, by omega⟩
def cix (N : Nat) (A : Nat → Nat) (j : Nat) : Nat := ((A 0 + j % 2) * N + A 1 + j / 2 % 2) * N + A 2 + j / 4
theorem lkV_corners {N : Nat} {g : Nat → Nat → Int} {c : Nat → Int} {L H : Int} {i : Nat} (hN : 2 ≤ N) (hN' : N ≤ 17) (hg : ∀ j, j < 8 → L ≤ g (cix N (lkA N c) j) i ∧ g (cix N (lkA N c) j) i ≤ H) :
    L ≤ lkV N g c i ∧ lkV N g c i ≤ H :=
  lkV_between hN hN' fun k hk => by
    obtain ⟨j, hj, e0, e1, e2⟩ := corner (lkA N c) (lkO N c) k hk
    have : ixN N (psn (lkA N c) (lkO N c) k) = cix N (lkA N c) j := by unfold ixN cix; rw [e0, e1, e2]; simp only [Nat.add_assoc]
    rw [this]
    exact hg j hj
theorem cix_lt {N : Nat} {A : Nat → Nat} {j : Nat} (hN : 2 ≤ N) (hA : ∀ i, i < 3 → A i ≤ N - 2) (hj : j < 8) : cix N A j < N * N * N := by
  have := ixN_lt (N := N) (p := fun i => if i = 0 then A 0 + j % 2 else if i = 1 then A 1 + j / 2 % 2 else A 2 + j / 4) (fun i hi => by
    have a0 := hA 0 (by omega)
    have a1 := hA 1 (by omega)
    have a2 := hA 2 (by omega)
    by_cases h0 : i = 0
    · simp only [h0, if_true]; omega
    · by_cases h1 : i = 1
      · simp only [h1]; simp; omega
      · simp only [h0, h1, if_false]; omega) (by omega)
  unfold ixN at this
  simpa [cix, Nat.add_assoc] using this

theorem lkV_exact {N s : Nat} {g : Nat → Nat → Int} {c : Nat → Int} {A : Nat → Nat} (hN : 2 ≤ N) (hs : s * (N - 1) = 65535) (hA : ∀ i, i < 3 → A i ≤ N - 2) (hc : ∀ i, i < 3 → c i = (s * A i : Nat)) {i : Nat} : lkV N g c i = g (ixN N A) i := by
  obtain ⟨M, rfl⟩ : ∃ M, N = M + 1 := ⟨N - 1, by omega⟩
  have e : ((M + 1 : Nat) : Int) - 1 = (M : Int) := by omega
  rw [Nat.add_sub_cancel] at hs
  have hle : ∀ i, i < 3 → s * A i ≤ 65535 := fun i hi => by
    have : s * A i ≤ s * M := Nat.mul_le_mul_left s (by have := hA i hi; omega)
    omega
  have hgm : ∀ i, i < 3 → gam c i = (s * A i : Nat) := fun i hi => by
    unfold gam
    rw [hc i hi]
    exact clm_in (by omega) (by have := hle i hi; omega)
  have hm : ∀ i, i < 3 → s * A i * M = 65535 * A i := fun i hi => by rw [Nat.mul_right_comm, hs]
  have ha : ∀ i, i < 3 → lkA (M + 1) c i = A i := fun i hi => by
    unfold lkA
    rw [hgm i hi, Int.toNat_natCast, Nat.add_sub_cancel, hm i hi, Nat.mul_div_cancel_left _ (by omega)]
    exact Nat.min_eq_left (hA i hi)
  have ho : ∀ i, i < 3 → lkO (M + 1) c i = 0 := fun i hi => by
    unfold lkO
    rw [hgm i hi, ha i hi, e, ← Int.natCast_mul, hm i hi]
    omega
  have hx : ∀ k, k < 3 → lkO (M + 1) c (axo (lkO (M + 1) c) k) = 0 := fun k hk => ho _ (axo_lt _ hk)
  have hix : ixN (M + 1) (psn (lkA (M + 1) c) (lkO (M + 1) c) 0) = ixN (M + 1) A := by
    unfold ixN
    show (lkA (M + 1) c 0 * _ + lkA (M + 1) c 1) * _ + lkA (M + 1) c 2 = _
    rw [ha 0 (by omega), ha 1 (by omega), ha 2 (by omega)]
  have l0 : lft (lkO (M + 1) c) 0 = 65535 := rfl
  have l1 : lft (lkO (M + 1) c) 1 = 0 := hx 0 (by omega)
  have l2 : lft (lkO (M + 1) c) 2 = 0 := hx 1 (by omega)
  have l3 : lft (lkO (M + 1) c) 3 = 0 := hx 2 (by omega)
  unfold lkV lkS
  rw [l3]
  simp only [smV]
  rw [hx 0 (by omega), hx 1 (by omega), hx 2 (by omega), l0, l1, l2, hix]
  omega

end Go.Proofs.Ytmilljlkcbljpaa
