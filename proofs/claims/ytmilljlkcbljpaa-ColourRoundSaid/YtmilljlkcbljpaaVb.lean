/- inverse, Valid. -/
import Derived.Test.YtmilljlkcbljpaaVa
namespace Go.Proofs.Ytmilljlkcbljpaa
open Go.RowKit Go.Sort

/-- An entry of the product. -/
def prdV (m t : Nat → Int) (r c : Nat) : Int := m (3 * r) * t c + m (3 * r + 1) * t (3 + c) + m (3 * r + 2) * t (6 + c)
/-- Near the identity. -/
def nearV (m t : Nat → Int) (r c : Nat) : Prop := -32768 ≤ prdV m t r c - (if r = c then 16777216 else 0) ∧ prdV m t r c - (if r = c then 16777216 else 0) ≤ 32768
def Inv (m t : Nat → Int) : Prop := ∀ i, i < 9 → nearV m t (i / 3) (i % 3)
open Classical in
noncomputable def invB (m t : Nat → Int) : Bool := decide (Inv m t)
theorem invB_t {m t : Nat → Int} (h : Inv m t) : invB m t = true := by simp [invB, h]
theorem invB_f {m t : Nat → Int} (h : ¬ Inv m t) : invB m t = false := by simp [invB, h]
theorem of_invB {m t : Nat → Int} (h : invB m t = true) : Inv m t := by simpa [invB] using h
theorem prd_bd {m t : Nat → Int} (hm : Ent m) (ht : Ent t) {r c : Nat} (hr : r < 3) (hc : c < 3) :
    ((-(65536 * 65536) ≤ m (3 * r) * t c ∧ m (3 * r) * t c ≤ 65536 * 65536) ∧ (-(65536 * 65536) ≤ m (3 * r + 1) * t (3 + c) ∧ m (3 * r + 1) * t (3 + c) ≤ 65536 * 65536)) ∧ (-(65536 * 65536) ≤ m (3 * r + 2) * t (6 + c) ∧ m (3 * r + 2) * t (6 + c) ≤ 65536 * 65536) :=
  ⟨⟨mul_both (hm _ (by omega)).1 (hm _ (by omega)).2 (ht _ (by omega)).1 (ht _ (by omega)).2, mul_both (hm _ (by omega)).1 (hm _ (by omega)).2 (ht _ (by omega)).1 (ht _ (by omega)).2⟩,
   mul_both (hm _ (by omega)).1 (hm _ (by omega)).2 (ht _ (by omega)).1 (ht _ (by omega)).2⟩

set_option maxRecDepth 100000 in
set_option maxHeartbeats 4000000 in
theorem inverse_any {m t : Nat → Int} {w : World} (hm : Ent m) (ht : Ent t) :
    Calls Try.prog 64 #[mat m, mat t] w fun e w' => e = .returned (.bool (invB m t)) ∧ Below w.heap.size w w' := by
  have t1 := (Mat.new w m 61).alloc (.cells #[.int .i64 (t 0), .int .i64 (t 1), .int .i64 (t 2), .int .i64 (t 3), .int .i64 (t 4), .int .i64 (t 5), .int .i64 (t 6), .int .i64 (t 7), .int .i64 (t 8)] 61)
  have t2 := Mat.new (w.alloc (.cells #[.int .i64 (m 0), .int .i64 (m 1), .int .i64 (m 2), .int .i64 (m 3), .int .i64 (m 4), .int .i64 (m 5), .int .i64 (m 6), .int .i64 (m 7), .int .i64 (m 8)] 61)) t 61
  rw [World.size_alloc] at t2
  have hb := ((Below.refl w.heap.size w).alloc (Nat.le_refl _) (.cells #[.int .i64 (m 0), .int .i64 (m 1), .int .i64 (m 2), .int .i64 (m 3), .int .i64 (m 4), .int .i64 (m 5), .int .i64 (m 6), .int .i64 (m 7), .int .i64 (m 8)] 61)).alloc (by simp) (.cells #[.int .i64 (t 0), .int .i64 (t 1), .int .i64 (t 2), .int .i64 (t 3), .int .i64 (t 4), .int .i64 (t 5), .int .i64 (t 6), .int .i64 (t 7), .int .i64 (t 8)] 61)
  obtain ⟨w0, h0⟩ : ∃ w0, (w.alloc (.cells #[.int .i64 (m 0), .int .i64 (m 1), .int .i64 (m 2), .int .i64 (m 3), .int .i64 (m 4), .int .i64 (m 5), .int .i64 (m 6), .int .i64 (m 7), .int .i64 (m 8)] 61)).alloc (.cells #[.int .i64 (t 0), .int .i64 (t 1), .int .i64 (t 2), .int .i64 (t 3), .int .i64 (t 4), .int .i64 (t 5), .int .i64 (t 6), .int .i64 (t 7), .int .i64 (t 8)] 61) = w0 := ⟨_, rfl⟩
  rw [h0] at t1 t2 hb
  have T1 := Lib.hid t1
  have T2 := Lib.hid t2
  have HM := Lib.hid hm
  have HT := Lib.hid ht
  clear t1 t2 hm ht
  unfold mat
  go_enter Try.func64, Try.ntmps64
  go_wp2
  clear h0
  go_loopw [9] (fun i wr => ∃ k : Nat, k ≤ 9 ∧ i = .int .i64 k ∧ Hid (∀ j, j < k → nearV m t (j / 3) (j % 3)) ∧ Drawn w0 wr) (fun i _ => 9 - (intOf i).toNat)
  case atStart => exact ⟨0, by omega, rfl, Lib.hid (fun j hj => by omega), .refl _⟩
  case round =>
    obtain ⟨k, hk, rfl, hs, hq⟩ := hrel
    by_cases hlt : k < 9
    · obtain ⟨r, hr⟩ : ∃ r, r = k / 3 := ⟨_, rfl⟩
      obtain ⟨c, hc⟩ : ∃ c, c = k % 3 := ⟨_, rfl⟩
      have hr3 : r < 3 := by omega
      have hc3 : c < 3 := by omega
      have u1 := T1.out.on (hq.below w0.heap.size)
      have u2 := T2.out.on (hq.below w0.heap.size)
      have e0 := u1.cell (3 * r) (by omega)
      have e1 := u1.cell (3 * r + 1) (by omega)
      have e2 := u1.cell (3 * r + 2) (by omega)
      have d0 := u2.cell c (by omega)
      have d1 := u2.cell (3 + c) (by omega)
      have d2 := u2.cell (6 + c) (by omega)
      obtain ⟨⟨⟨p1, p2⟩, p3, p4⟩, p5, p6⟩ := prd_bd HM.out HT.out hr3 hc3
      have HP := Lib.hid (show prdV m t r c = m (3 * r) * t c + m (3 * r + 1) * t (3 + c) + m (3 * r + 2) * t (6 + c) from rfl)
      have HN := Lib.hid (show nearV m t (k / 3) (k % 3) ↔ nearV m t r c by rw [hr, hc])
      have HF := Lib.hid (fun h : ¬ nearV m t r c => invB_f (m := m) (t := t) fun hh => h (HN.out.1 (hh k hlt)))
      clear u1 u2
      generalize m (3 * r) = x0 at *
      generalize m (3 * r + 1) = x1 at *
      generalize m (3 * r + 2) = x2 at *
      generalize t c = y0 at *
      generalize t (3 + c) = y1 at *
      generalize t (6 + c) = y2 at *
      have i1 : 0 ≤ (k : Int) ∧ (k : Int) < 9 := by omega
      have i2 : 0 ≤ (r : Int) ∧ (r : Int) < 3 := by omega
      have i3 : 0 ≤ (c : Int) ∧ (c : Int) < 3 := by omega
      have j1 : (k : Int) / 3 = (r : Int) := by omega
      have j2 : (k : Int) % 3 = (c : Int) := by omega
      have n0 : (3 * (r : Int)).toNat = 3 * r := by omega
      have n1 : (3 * (r : Int) + 1).toNat = 3 * r + 1 := by omega
      have n2 : (3 * (r : Int) + 2).toNat = 3 * r + 2 := by omega
      have n3 : (3 + (c : Int)).toNat = 3 + c := by omega
      have n4 : (6 + (c : Int)).toNat = 6 + c := by omega
      by_cases hrc : r = c
      · have q : ((r : Int) == (c : Int)) = true := by simp [hrc]
        have q' : ((r : Int) == (k : Int) % 3) = true := by rw [j2]; exact q
        have HNE := Lib.hid (show nearV m t r c ↔ -32768 ≤ x0 * y0 + x1 * y1 + x2 * y2 - 16777216 ∧ x0 * y0 + x1 * y1 + x2 * y2 - 16777216 ≤ 32768 by unfold nearV; rw [HP.out, if_pos hrc])
        clear hr hc hrc
        go_wp2
        go_quiet (fail)
        clear j1 j2 n0 n1 n2 n3 n4 d0 d1 d2 e0 e1 e2
        by_cases g1 : x0 * y0 + x1 * y1 + x2 * y2 - 16777216 < -32768
        · have g1' : decide (x0 * y0 + x1 * y1 + x2 * y2 - 16777216 < -32768) = true := decide_eq_true g1
          go_wp2
          go_ret
          exact ⟨ret_bool (HF.out (fun h => by have := HNE.out.1 h; omega)).symm, hb.trans ((hq.on _).below _)⟩
        · have g1' : decide (x0 * y0 + x1 * y1 + x2 * y2 - 16777216 < -32768) = false := decide_eq_false g1
          by_cases g2 : 32768 < x0 * y0 + x1 * y1 + x2 * y2 - 16777216
          · have g2' : decide (32768 < x0 * y0 + x1 * y1 + x2 * y2 - 16777216) = true := decide_eq_true g2
            go_wp2
            go_ret
            exact ⟨ret_bool (HF.out (fun h => by have := HNE.out.1 h; omega)).symm, hb.trans ((hq.on _).below _)⟩
          · have g2' : decide (32768 < x0 * y0 + x1 * y1 + x2 * y2 - 16777216) = false := decide_eq_false g2
            have HY := Lib.hid (HN.out.2 (HNE.out.2 ⟨by omega, by omega⟩))
            go_wp2
            go_roundw
            case rel => exact ⟨k + 1, by omega, by go_num, Lib.hid (fun j hj => by
              by_cases e : j = k
              · subst e; exact HY.out
              · exact hs.out j (by omega)), hq.on _⟩
            case measure => simp [intOf]; omega
      · have q : ((r : Int) == (c : Int)) = false := by simp; omega
        have q' : ((r : Int) == (k : Int) % 3) = false := by rw [j2]; exact q
        have HNE := Lib.hid (show nearV m t r c ↔ -32768 ≤ x0 * y0 + x1 * y1 + x2 * y2 ∧ x0 * y0 + x1 * y1 + x2 * y2 ≤ 32768 by unfold nearV; rw [HP.out, if_neg hrc, Int.sub_zero])
        clear hr hc hrc
        go_wp2
        go_quiet (fail)
        clear j1 j2 n0 n1 n2 n3 n4 d0 d1 d2 e0 e1 e2
        by_cases g1 : x0 * y0 + x1 * y1 + x2 * y2 < -32768
        · have g1' : decide (x0 * y0 + x1 * y1 + x2 * y2 < -32768) = true := decide_eq_true g1
          go_wp2
          go_ret
          exact ⟨ret_bool (HF.out (fun h => by have := HNE.out.1 h; omega)).symm, hb.trans ((hq.on _).below _)⟩
        · have g1' : decide (x0 * y0 + x1 * y1 + x2 * y2 < -32768) = false := decide_eq_false g1
          by_cases g2 : 32768 < x0 * y0 + x1 * y1 + x2 * y2
          · have g2' : decide (32768 < x0 * y0 + x1 * y1 + x2 * y2) = true := decide_eq_true g2
            go_wp2
            go_ret
            exact ⟨ret_bool (HF.out (fun h => by have := HNE.out.1 h; omega)).symm, hb.trans ((hq.on _).below _)⟩
          · have g2' : decide (32768 < x0 * y0 + x1 * y1 + x2 * y2) = false := decide_eq_false g2
            have HY := Lib.hid (HN.out.2 (HNE.out.2 ⟨by omega, by omega⟩))
            go_wp2
            go_roundw
            case rel => exact ⟨k + 1, by omega, by go_num, Lib.hid (fun j hj => by
              by_cases e : j = k
              · subst e; exact HY.out
              · exact hs.out j (by omega)), hq.on _⟩
            case measure => simp [intOf]; omega
    · obtain rfl : k = 9 := by omega
      have HY := Lib.hid (invB_t hs.out)
      go_wp2
      go_ret
      exact ⟨ret_bool HY.out.symm, hb.trans (hq.below _)⟩

end Go.Proofs.Ytmilljlkcbljpaa
