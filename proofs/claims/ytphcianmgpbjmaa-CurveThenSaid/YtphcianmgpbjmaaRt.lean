/- Then and Inverse of the reference. -/
import Derived.Test.YtphcianmgpbjmaaThen
import Derived.Test.YtphcianmgpbjmaaRg2
namespace Go.Proofs.Ytphcianmgpbjmaa
open Go.RowKit

/-- The result's block of a reference function: where it lies, that it lies, that it stays. -/
theorem got_new (w : World) : ∃ w0, w.alloc (.cells #[.slice none 0 0, .int .i64 0] 43) = w0 ∧ Below w.heap.size w w0 ∧ w0.heap.size = w.heap.size + 1 ∧
    w0.cell? ⟨w.heap.size, 0, none⟩ = some (.slice none 0 0) ∧ w0.cell? ⟨w.heap.size, 1, none⟩ = some (.int .i64 0) ∧ w0.frozen? ⟨w.heap.size, 0, none⟩ = false ∧ w0.frozen? ⟨w.heap.size, 1, none⟩ = false :=
  ⟨_, rfl, (Below.refl _ w).alloc (Nat.le_refl _) _, by simp, by rw [World.cell?_alloc_at _ _ _ _ rfl]; rfl, by rw [World.cell?_alloc_at _ _ _ _ rfl]; rfl, by simp [go_sem], by simp [go_sem]⟩

theorem got_put {w w0 : World} {b : Nat} {q : Nat} (v : Value) (e : Int) (h : Below b w w0) : Below b w (((w0.drewN q).setCell ⟨b, 0, none⟩ v).setCell ⟨b, 1, none⟩ (.int .i64 e)) :=
  ((below_drewN h q).setCell (p := ⟨b, 0, none⟩) (Nat.le_refl _) _).setCell (p := ⟨b, 1, none⟩) (Nat.le_refl _) _

set_option maxHeartbeats 2000000 in
theorem refThen_any {f g : Nat → Int} {n m : Nat} {v u : Value} {N : Int} {w : World} (hn : n ≤ 9223372036854775807) (hm : m ≤ 9223372036854775807) (hs : Sl w w.heap.size v n f) (ht : Sl w w.heap.size u m g) :
    Calls Try.prog 30 #[v, u, .int .i64 N] w fun e w' => ∃ v', e = .returned (.agg #[v', .int .i64 (okE (vldB n f && vldB m g) (pts N))]) ∧
      w'.ownsRow w.heap.size 3 1 v' (okN (vldB n f && vldB m g) (pts N) N) (vals (thenF f g n m N.toNat) (okN (vldB n f && vldB m g) (pts N) N)) ∧ Below w.heap.size w w' := by
  obtain ⟨i0, hi, hz0, hz1, hz2⟩ := info_parts Try.infoI
  obtain ⟨w0, h0, hb, hz, r0, r1, f0, f1⟩ := got_new w
  have hs0 := hs.on hb
  have ht0 := ht.on hb
  obtain ⟨a, cap, rfl⟩ := hs.shape
  obtain ⟨a', cap', rfl⟩ := ht.shape
  have hz' := Lib.hid hz
  clear hz
  cases V : vldB n f && vldB m g with
  | false =>
    go_enter Try.func30, Try.ntmps30
    go_wp2_with fail
    refine (refValid_any hn hs0).mono ?_
    rintro e w1 ⟨rfl, q⟩
    obtain ⟨j, rfl⟩ := q
    go_wp2_with fail
    refine (refValid_any hm (ht0.drawnN j)).mono ?_
    rintro e w1 ⟨rfl, q⟩
    obtain ⟨j', rfl⟩ := q
    cases V1 : vldB n f with
    | false =>
      go_wp2
      refine bodyPost_ret (v := .agg #[.slice none 0 0, .int .i64 21]) (by simp [results, Try.results30, go_sem, *]) rfl ?_
      exact ⟨_, rfl, World.ownsRow_nil _ _ _ _, got_put _ _ hb⟩
    | true =>
      have V2 : vldB m g = false := by rw [V1] at V; simpa using V
      rw [V2]
      go_wp2
      refine bodyPost_ret (v := .agg #[.slice none 0 0, .int .i64 21]) (by simp [results, Try.results30, go_sem, *]) rfl ?_
      exact ⟨_, rfl, World.ownsRow_nil _ _ _ _, got_put _ _ hb⟩
  | true =>
    have V1 : vldB n f = true := by simp at V; exact V.1
    have V2 : vldB m g = true := by simp at V; exact V.2
    have hv := of_vldB V1
    have hu := of_vldB V2
    cases P : pts N with
    | false =>
      go_enter Try.func30, Try.ntmps30
      go_wp2_with fail
      refine (refValid_any hn hs0).mono ?_
      rintro e w1 ⟨rfl, q⟩
      obtain ⟨j, rfl⟩ := q
      rw [V1]
      go_wp2_with fail
      refine (refValid_any hm (ht0.drawnN j)).mono ?_
      rintro e w1 ⟨rfl, q⟩
      obtain ⟨j', rfl⟩ := q
      rw [V2]
      go_wp2_with (first | (go_at_call 38; refine (refPoints_same _ _).mono ?_; rintro e w1 ⟨rfl, rfl⟩))
      refine bodyPost_ret (v := .agg #[.slice none 0 0, .int .i64 1]) (by simp [results, Try.results30, go_sem, *]) rfl ?_
      exact ⟨_, rfl, World.ownsRow_nil _ _ _ _, got_put _ _ hb⟩
    | true =>
      obtain ⟨p1, p2⟩ : 2 ≤ N ∧ N ≤ 257 := by simpa [pts] using P
      obtain ⟨K, rfl⟩ := Int.eq_ofNat_of_zero_le (show 0 ≤ N by omega)
      have hmade := fun q => Lib.hid (made_empty (w0.drewN q))
      have HB := Lib.hid hb
      clear hb
      go_enter Try.func30, Try.ntmps30
      go_wp2_with fail
      refine (refValid_any hn hs0).mono ?_
      rintro e w1 ⟨rfl, q⟩
      obtain ⟨j, rfl⟩ := q
      rw [V1]
      go_wp2_with fail
      refine (refValid_any hm (ht0.drawnN j)).mono ?_
      rintro e w1 ⟨rfl, q⟩
      obtain ⟨j', rfl⟩ := q
      rw [V2]
      have hz := hz'.out
      go_wp2_with (first | (go_at_call 38; refine (refPoints_same _ _).mono ?_; rintro e w1 ⟨rfl, rfl⟩))
      go_loopw [10, 11] (fun o i wr => ∃ k : Nat, k ≤ K ∧ i = .int .i64 k ∧ wr.ownsRow (w.heap.size + 1) 3 1 o k (vals (thenF f g n m K) k) ∧ Below (w.heap.size + 1) w0 wr) (fun _ i _ => K - (intOf i).toNat)
      case atStart =>
        refine ⟨0, by omega, rfl, ?_, (below_drewN (Below.refl _ w0) _).alloc (by simp; omega) _⟩
        have := (hmade (j + j')).out
        rw [show (w0.drewN (j + j')).heap.size = w.heap.size + 1 from hz] at this
        exact this
      case round =>
        obtain ⟨k, hk, rfl, hown, hB⟩ := hrel
        have hsz := hB.size
        by_cases hlt : k < K
        · have HO := Lib.hid hown
          clear hown
          have hsr : Sl wr w0.heap.size _ n f := hs0.below hB (by omega)
          have htr : Sl wr w0.heap.size _ m g := ht0.below hB (by omega)
          have A := argV_bd (i := k) (n := K) (by omega) hlt
          go_wp2_with fail
          refine (arg_any k K wr (by omega) (by omega) (by omega)).mono ?_
          rintro e w1 ⟨rfl, rfl⟩
          obtain ⟨X, hX⟩ : ∃ X, argV k K = X := ⟨_, rfl⟩
          obtain ⟨Y, hY⟩ : ∃ Y, atV f (n - 1) X = Y := ⟨_, rfl⟩
          obtain ⟨Z, hZ⟩ : ∃ Z, atV g (m - 1) Y = Z := ⟨_, rfl⟩
          rw [hX] at A
          have HZ := Lib.hid (show Z = thenF f g n m K k by unfold thenF; rw [hX, hY, hZ])
          have C := atV_range hv A.1 A.2
          rw [hY] at C
          have HY := Lib.hid hY
          have HZ' := Lib.hid hZ
          rw [hX]
          clear hX hY hZ
          go_wp2_with fail
          refine (value_any hv hsr A.1 A.2).mono ?_
          rintro e w1 ⟨rfl, q⟩
          obtain ⟨j1, rfl⟩ := q
          rw [HY.out]
          go_wp2_with fail
          refine (value_any hu (htr.drawnN j1) C.1 C.2).mono ?_
          rintro e w1 ⟨rfl, q⟩
          obtain ⟨j2, rfl⟩ := q
          rw [HZ'.out]
          go_wp2_with (at_builtin; refine wpList_append_own _ rfl _ _ 23 rfl (w.heap.size + 1) 3 i0 (.int .i64 0) 1 8 Try.underlying23 hi hz0 hz1 hz2 rfl (by decide) _ k (vals (thenF f g n m K) k) rfl (World.ownsRow.alloc (w := wr.drewN (j1 + j2)) HO.out _) ⟨wr.heap.size, 0, none⟩ 1 1 [.int .i64 Z] rfl rfl (cell_one_new _ _ _) (by simp [Value.oneCell']) (by unfold maxLen; omega) (by omega) (by simp; omega) ?_; intro v' w3 hown' hgrow _)
          have hB3 : Below (w.heap.size + 1) w0 w3 := ((below_drewN hB (j1 + j2)).alloc (by simp; omega) _).grown hgrow (by simp; omega) (fun j hj => (HO.out.lt j hj).1)
          rw [HZ.out, ← vals_snoc (thenF f g n m K) k] at hown'
          have HO' := Lib.hid hown'
          clear hown' hgrow
          go_roundw
          case rel => exact ⟨k + 1, by omega, by go_num, HO'.out, hB3⟩
          case measure => simp [intOf]; omega
        · obtain rfl : k = K := by omega
          have q0 := (hB.cell (p := ⟨w.heap.size, 0, none⟩) (by show w.heap.size < _; omega)).trans r0
          have q1 := (hB.cell (p := ⟨w.heap.size, 1, none⟩) (by show w.heap.size < _; omega)).trans r1
          have g0 := (hB.frozen (p := ⟨w.heap.size, 0, none⟩) (by show w.heap.size < _; omega)).trans f0
          have g1 := (hB.frozen (p := ⟨w.heap.size, 1, none⟩) (by show w.heap.size < _; omega)).trans f1
          obtain ⟨M, rfl⟩ : ∃ M, k = M + 1 := ⟨k - 1, by omega⟩
          obtain ⟨gb, cap2, rfl⟩ := ownsRow_succ hown
          have HO := Lib.hid hown
          clear hown
          have hz5 : w.heap.size < wr.heap.size := by omega
          go_wp2
          refine bodyPost_ret (v := .agg #[.slice (some ⟨gb, 0, none⟩) (M + 1) cap2, .int .i64 0]) (by simp [results, Try.results30, go_sem, *]) rfl ?_
          refine ⟨_, rfl, ?_, ?_⟩
          · refine own_le (base := w.heap.size + 1) ?_ (by omega)
            exact ownsRow_setCell_below (ownsRow_setCell_below HO.out (by show w.heap.size < _; omega) _) (by show w.heap.size < _; omega) _
          · exact ((HB.out.trans (hB.mono (by omega))).setCell (p := ⟨w.heap.size, 0, none⟩) (Nat.le_refl _) _).setCell (p := ⟨w.heap.size, 1, none⟩) (Nat.le_refl _) _

set_option maxHeartbeats 2000000 in
theorem refInverse_any {f : Nat → Int} {n : Nat} {v : Value} {N : Int} {w : World} (hn : n ≤ 9223372036854775807) (hs : Sl w w.heap.size v n f) :
    Calls Try.prog 33 #[v, .int .i64 N] w fun e w' => ∃ v', e = .returned (.agg #[v', .int .i64 (okE (vldB n f) (pts N))]) ∧
      w'.ownsRow w.heap.size 3 1 v' (okN (vldB n f) (pts N) N) (vals (invF f n N.toNat) (okN (vldB n f) (pts N) N)) ∧ Below w.heap.size w w' := by
  obtain ⟨i0, hi, hz0, hz1, hz2⟩ := info_parts Try.infoI
  obtain ⟨w0, h0, hb, hz, r0, r1, f0, f1⟩ := got_new w
  have hs0 := hs.on hb
  obtain ⟨a, cap, rfl⟩ := hs.shape
  have hz' := Lib.hid hz
  clear hz
  cases V1 : vldB n f with
  | false =>
    go_enter Try.func33, Try.ntmps33
    go_wp2_with fail
    refine (refValid_any hn hs0).mono ?_
    rintro e w1 ⟨rfl, q⟩
    obtain ⟨j, rfl⟩ := q
    rw [V1]
    go_wp2
    refine bodyPost_ret (v := .agg #[.slice none 0 0, .int .i64 21]) (by simp [results, Try.results33, go_sem, *]) rfl ?_
    exact ⟨_, rfl, World.ownsRow_nil _ _ _ _, got_put _ _ hb⟩
  | true =>
    have hv := of_vldB V1
    cases P : pts N with
    | false =>
      go_enter Try.func33, Try.ntmps33
      go_wp2_with fail
      refine (refValid_any hn hs0).mono ?_
      rintro e w1 ⟨rfl, q⟩
      obtain ⟨j, rfl⟩ := q
      rw [V1]
      go_wp2_with (first | (go_at_call 38; refine (refPoints_same _ _).mono ?_; rintro e w1 ⟨rfl, rfl⟩))
      refine bodyPost_ret (v := .agg #[.slice none 0 0, .int .i64 1]) (by simp [results, Try.results33, go_sem, *]) rfl ?_
      exact ⟨_, rfl, World.ownsRow_nil _ _ _ _, got_put _ _ hb⟩
    | true =>
      obtain ⟨p1, p2⟩ : 2 ≤ N ∧ N ≤ 257 := by simpa [pts] using P
      obtain ⟨K, rfl⟩ := Int.eq_ofNat_of_zero_le (show 0 ≤ N by omega)
      have hmade := fun q => Lib.hid (made_empty (w0.drewN q))
      have HB := Lib.hid hb
      clear hb
      go_enter Try.func33, Try.ntmps33
      go_wp2_with fail
      refine (refValid_any hn hs0).mono ?_
      rintro e w1 ⟨rfl, q⟩
      obtain ⟨j, rfl⟩ := q
      rw [V1]
      have hz := hz'.out
      go_wp2_with (first | (go_at_call 38; refine (refPoints_same _ _).mono ?_; rintro e w1 ⟨rfl, rfl⟩))
      go_loopw [7, 8] (fun o i wr => ∃ k : Nat, k ≤ K ∧ i = .int .i64 k ∧ wr.ownsRow (w.heap.size + 1) 3 1 o k (vals (invF f n K) k) ∧ Below (w.heap.size + 1) w0 wr) (fun _ i _ => K - (intOf i).toNat)
      case atStart =>
        refine ⟨0, by omega, rfl, ?_, (below_drewN (Below.refl _ w0) _).alloc (by simp; omega) _⟩
        have := (hmade j).out
        rw [show (w0.drewN j).heap.size = w.heap.size + 1 from hz] at this
        exact this
      case round =>
        obtain ⟨k, hk, rfl, hown, hB⟩ := hrel
        have hsz := hB.size
        by_cases hlt : k < K
        · have HO := Lib.hid hown
          clear hown
          have hsr : Sl wr w0.heap.size _ n f := hs0.below hB (by omega)
          go_wp2_with fail
          refine (arg_any k K wr (by omega) (by omega) (by omega)).mono ?_
          rintro e w1 ⟨rfl, rfl⟩
          obtain ⟨X, hX⟩ : ∃ X, argV k K = X := ⟨_, rfl⟩
          have HI := Lib.hid (show invF f n K k = bif slvOk n f X then ((slv n f X : Nat) : Int) else (65535 : Int) by unfold invF; rw [hX])
          rw [hX]
          clear hX
          go_wp2_with fail
          refine (refSolve_any hn (show w0.heap.size ≤ wr.heap.size from hsz) hsr).mono ?_
          rintro e w2 ⟨rfl, hb2⟩
          have HO2 := Lib.hid (own_below' HO.out hb2)
          have hB2 := hB.trans (hb2.mono (by omega))
          have hsz2 := hb2.size
          clear hb2 HO
          cases hk2 : slvOk n f X with
          | true =>
            rw [hk2] at HI
            have E : ((slvX n f X : Nat) : Int) = invF f n K k := by rw [HI.out]; unfold slvX; rw [hk2]; rfl
            obtain ⟨x, hx⟩ : ∃ x : Int, ((slvX n f X : Nat) : Int) = x := ⟨_, rfl⟩
            rw [hx] at E
            rw [hx]
            have HE := Lib.hid E
            clear E hk2 hx
            go_wp2_with (at_builtin; refine wpList_append_own _ rfl _ _ 23 rfl (w.heap.size + 1) 3 i0 (.int .i64 0) 1 8 Try.underlying23 hi hz0 hz1 hz2 rfl (by decide) _ k (vals (invF f n K) k) rfl ((HO2.out.alloc _).alloc _) ⟨w2.heap.size + 1, 0, none⟩ 1 1 [.int .i64 x] rfl rfl (by have := cell_one_new (w2.alloc (.cells #[.int .i64 x, .bool true] 37)) (.int .i64 x) 3; rw [World.size_alloc] at this; exact this) (by simp [Value.oneCell']) (by unfold maxLen; omega) (by omega) (by simp; omega) ?_; intro v' w3 hown' hgrow _)
            have hB3 : Below (w.heap.size + 1) w0 w3 := ((hB2.alloc (by omega) _).alloc (by simp; omega) _).grown hgrow (by simp; omega) (fun j hj => (HO2.out.lt j hj).1)
            rw [HE.out, ← vals_snoc (invF f n K) k] at hown'
            have HO' := Lib.hid hown'
            clear hown' hgrow
            go_roundw
            case rel => exact ⟨k + 1, by omega, by go_num, HO'.out, hB3⟩
            case measure => simp [intOf]; omega
          | false =>
            rw [hk2] at HI
            have E : (65535 : Int) = invF f n K k := by rw [HI.out]; rfl
            have HE := Lib.hid E
            clear E hk2
            go_wp2_with (at_builtin; refine wpList_append_own _ rfl _ _ 23 rfl (w.heap.size + 1) 3 i0 (.int .i64 0) 1 8 Try.underlying23 hi hz0 hz1 hz2 rfl (by decide) _ k (vals (invF f n K) k) rfl ((HO2.out.alloc _).alloc _) ⟨w2.heap.size + 1, 0, none⟩ 1 1 [.int .i64 65535] rfl rfl (by have := cell_one_new (w2.alloc (.cells #[.int .i64 65535, .bool false] 37)) (.int .i64 65535) 3; rw [World.size_alloc] at this; exact this) (by simp [Value.oneCell']) (by unfold maxLen; omega) (by omega) (by simp; omega) ?_; intro v' w3 hown' hgrow _)
            have hB3 : Below (w.heap.size + 1) w0 w3 := ((hB2.alloc (by omega) _).alloc (by simp; omega) _).grown hgrow (by simp; omega) (fun j hj => (HO2.out.lt j hj).1)
            rw [HE.out, ← vals_snoc (invF f n K) k] at hown'
            have HO' := Lib.hid hown'
            clear hown' hgrow
            go_roundw
            case rel => exact ⟨k + 1, by omega, by go_num, HO'.out, hB3⟩
            case measure => simp [intOf]; omega
        · obtain rfl : k = K := by omega
          have q0 := (hB.cell (p := ⟨w.heap.size, 0, none⟩) (by show w.heap.size < _; omega)).trans r0
          have q1 := (hB.cell (p := ⟨w.heap.size, 1, none⟩) (by show w.heap.size < _; omega)).trans r1
          have g0 := (hB.frozen (p := ⟨w.heap.size, 0, none⟩) (by show w.heap.size < _; omega)).trans f0
          have g1 := (hB.frozen (p := ⟨w.heap.size, 1, none⟩) (by show w.heap.size < _; omega)).trans f1
          obtain ⟨M, rfl⟩ : ∃ M, k = M + 1 := ⟨k - 1, by omega⟩
          obtain ⟨gb, cap2, rfl⟩ := ownsRow_succ hown
          have HO := Lib.hid hown
          clear hown
          have hz5 : w.heap.size < wr.heap.size := by omega
          go_wp2
          refine bodyPost_ret (v := .agg #[.slice (some ⟨gb, 0, none⟩) (M + 1) cap2, .int .i64 0]) (by simp [results, Try.results33, go_sem, *]) rfl ?_
          refine ⟨_, rfl, ?_, ?_⟩
          · refine own_le (base := w.heap.size + 1) ?_ (by omega)
            exact ownsRow_setCell_below (ownsRow_setCell_below HO.out (by show w.heap.size < _; omega) _) (by show w.heap.size < _; omega) _
          · exact ((HB.out.trans (hB.mono (by omega))).setCell (p := ⟨w.heap.size, 0, none⟩) (Nat.le_refl _) _).setCell (p := ⟨w.heap.size, 1, none⟩) (Nat.le_refl _) _

end Go.Proofs.Ytphcianmgpbjmaa
