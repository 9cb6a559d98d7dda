/- Then and Inverse, and their references. -/
import Derived.Test.YtphcianmgpbjmaaSm
import Derived.Test.YtphcianmgpbjmaaLine
namespace Go.Proofs.Ytphcianmgpbjmaa
open Go.RowKit

/-- The error of a function that asks for valid curves and a number of points. -/
def okE (v p : Bool) : Int := bif v then (bif p then 0 else 1) else 21
/-- The number of points that it returns. -/
def okN (v p : Bool) (n : Int) : Nat := bif v && p then n.toNat else 0
theorem okN_le {v : Bool} {n : Int} : okN v (pts n) n ≤ 257 := by
  unfold okN
  cases v with
  | false => simp
  | true => cases h : pts n with
    | false => simp
    | true => simp [pts] at h; simp; omega

/-- The values of Then. -/
def thenF (f g : Nat → Int) (n m N i : Nat) : Int := atV g (m - 1) (atV f (n - 1) (argV i N))
/-- The values of Inverse. -/
noncomputable def invF (f : Nat → Int) (n N i : Nat) : Int := bif slvOk n f (argV i N) then (slv n f (argV i N) : Nat) else 65535

theorem argV_range (i : Nat) {N : Nat} (h : 2 ≤ N) (hi : i < N) : 0 ≤ argV i N ∧ argV i N ≤ 65535 := argV_bd h hi

set_option maxHeartbeats 1000000 in
theorem then1_any {f g : Nat → Int} {n m B B' b1 b2 : Nat} {v u : Value} {x : Int} {w : World} (hf : Vld n f) (hg : Vld m g) (hs : Sl w B v n f) (ht : Sl w B' u m g) (h0 : 0 ≤ x) (h1 : x ≤ 65535)
    (c1 : w.cell? ⟨b1, 0, none⟩ = some u) (c2 : w.cell? ⟨b2, 0, none⟩ = some v) :
    Calls Try.prog 50 #[.int .i64 x, .pointer (some ⟨b1, 0, none⟩), .pointer (some ⟨b2, 0, none⟩)] w fun e w' => e = .returned (.int .i64 (atV g (m - 1) (atV f (n - 1) x))) ∧ Drawn w w' := by
  obtain ⟨b, off, cap, rfl, _⟩ := hs.at (by have := hf.1; omega)
  obtain ⟨b', off', cap', rfl, _⟩ := ht.at (by have := hg.1; omega)
  have hr := atV_range hf h0 h1
  obtain ⟨Y, hY⟩ : ∃ Y, atV f (n - 1) x = Y := ⟨_, rfl⟩
  rw [hY] at hr
  obtain ⟨r0, r1⟩ := hr
  have HY := Lib.hid hY
  rw [hY]
  clear hY
  have A1 : ∀ q, Calls Try.prog 39 #[.slice (some ⟨b, off, none⟩) n cap, .int .i64 x] (w.drewN q) fun e w' => e = .returned (.int .i64 Y) ∧ Drawn (w.drewN q) w' := fun q => by rw [← HY.out]; exact at_any hf (hs.drawnN q) h0 h1
  have A2 : ∀ q, Calls Try.prog 39 #[.slice (some ⟨b', off', none⟩) m cap', .int .i64 Y] (w.drewN q) fun e w' => e = .returned (.int .i64 (atV g (m - 1) Y)) ∧ Drawn (w.drewN q) w' := fun q => at_any hg (ht.drawnN q) r0 r1
  have A : ∀ (q : Nat) (c : Value) (y r : Int), (c = .slice (some ⟨b, off, none⟩) n cap ∧ y = x ∧ r = Y) ∨ (c = .slice (some ⟨b', off', none⟩) m cap' ∧ y = Y ∧ r = atV g (m - 1) Y) →
      Calls Try.prog 39 #[c, .int .i64 y] (w.drewN q) fun e w' => e = .returned (.int .i64 r) ∧ Drawn (w.drewN q) w' := by
    rintro q c y r (⟨rfl, rfl, rfl⟩ | ⟨rfl, rfl, rfl⟩)
    · exact A1 q
    · exact A2 q
  have H := Lib.hid A
  clear A A1 A2
  go_enter Try.func50, Try.ntmps50
  go_wp2
  go_quiet ((go_at_call 39; exact Calls.quiet_of (H.out _ _ _ _ (by first | exact .inl ⟨rfl, rfl, rfl⟩ | exact .inr ⟨rfl, rfl, rfl⟩))))
  go_wp2
  go_ret
  exact ⟨rfl, .of _⟩

set_option maxHeartbeats 1000000 in
theorem inverse1_any {f : Nat → Int} {n b1 : Nat} {v : Value} {y : Int} {w : World} (hf : Vld n f) (hs : Sl w w.heap.size v n f) (c1 : w.cell? ⟨b1, 0, none⟩ = some v) :
    Calls Try.prog 51 #[.int .i64 y, .pointer (some ⟨b1, 0, none⟩)] w fun e w' => e = .returned (.int .i64 (bif slvOk n f y then (slv n f y : Nat) else 65535)) ∧ Below w.heap.size w w' := by
  have hn : n ≤ 9223372036854775807 := by have := hf.2.1; omega
  cases hk : slvOk n f y with
  | true =>
    have HC := Lib.hid (solve_any (y := y) hn (Nat.le_refl _) hs)
    have hX : slvX n f y = slv n f y := by unfold slvX; rw [hk]; rfl
    rw [hk, hX] at HC
    clear hX
    have HK := Lib.hid hk
    clear hk
    go_enter Try.func51, Try.ntmps51
    go_wp2_with fail
    refine HC.out.mono ?_
    rintro e w1 ⟨rfl, hb⟩
    go_wp2
    go_ret
    exact ⟨rfl, hb⟩
  | false =>
    have HC := Lib.hid (solve_any (y := y) hn (Nat.le_refl _) hs)
    rw [hk] at HC
    have HK := Lib.hid hk
    clear hk
    go_enter Try.func51, Try.ntmps51
    go_wp2_with fail
    refine HC.out.mono ?_
    rintro e w1 ⟨rfl, hb⟩
    go_wp2
    go_ret
    exact ⟨rfl, hb⟩

/-- One box, two boxes. -/
theorem box1 {w : World} {v : Value} (t : TypeId) : ∃ w0, w.alloc (.cells #[v] t) = w0 ∧ Below w.heap.size w w0 ∧ w0.heap.size = w.heap.size + 1 ∧ w0.cell? ⟨w.heap.size, 0, none⟩ = some v :=
  ⟨_, rfl, (Below.refl _ w).alloc (Nat.le_refl _) _, by simp, by rw [World.cell?_alloc_at _ _ _ _ rfl]; rfl⟩
theorem box2 {w : World} {v u : Value} (t t' : TypeId) : ∃ w0, (w.alloc (.cells #[v] t)).alloc (.cells #[u] t') = w0 ∧ Below w.heap.size w w0 ∧ w0.heap.size = w.heap.size + 2 ∧
    w0.cell? ⟨w.heap.size, 0, none⟩ = some v ∧ w0.cell? ⟨w.heap.size + 1, 0, none⟩ = some u := by
  refine ⟨_, rfl, ((Below.refl _ w).alloc (Nat.le_refl _) _).alloc (by simp) _, by simp, ?_, ?_⟩
  · rw [World.cell?_alloc_past _ _ _ (by simp), World.cell?_alloc_at _ _ _ _ rfl]; rfl
  · rw [World.cell?_alloc_at _ _ _ _ (by simp)]; rfl

set_option maxHeartbeats 1000000 in
theorem inverse_any {f : Nat → Int} {n : Nat} {v : Value} {N : Int} {w : World} (hn : n ≤ 9223372036854775807) (hs : Sl w w.heap.size v n f) :
    Calls Try.prog 32 #[v, .int .i64 N] w fun e w' => ∃ v', e = .returned (.tuple #[v', .int .i64 (okE (vldB n f) (pts N))]) ∧
      w'.ownsRow w.heap.size 3 1 v' (okN (vldB n f) (pts N) N) (vals (invF f n N.toNat) (okN (vldB n f) (pts N) N)) ∧ Below w.heap.size w w' := by
  have hmf : ∀ (fn : Fn) (first cap : Array Value) (w : World), (Instr.makeFunc fn first cap).run Try.prog w = .ok (.func fn first cap) w := fun _ _ _ _ => rfl
  obtain ⟨w0, h0, hb, hz, b1⟩ := box1 (w := w) (v := v) 23
  have hs0 := hs.on hb
  have hz' := Lib.hid hz
  clear hz
  cases V : vldB n f with
  | false =>
    obtain ⟨a, cap, rfl⟩ := hs.shape
    go_enter Try.func32, Try.ntmps32
    go_wp2_with fail
    refine (valid_any hn hs0).mono ?_
    rintro e w1 ⟨rfl, q⟩
    obtain ⟨j, rfl⟩ := q
    rw [V]
    go_wp2
    go_ret2
    exact ⟨_, rfl, World.ownsRow_nil _ _ _ _, below_drewN hb _⟩
  | true =>
    have hv := of_vldB V
    cases P : pts N with
    | false =>
      obtain ⟨a, cap, rfl⟩ := hs.shape
      go_enter Try.func32, Try.ntmps32
      go_wp2_with fail
      refine (valid_any hn hs0).mono ?_
      rintro e w1 ⟨rfl, q⟩
      obtain ⟨j, rfl⟩ := q
      rw [V]
      go_wp2_with (first | (go_at_call 36; refine (points_same _ _).mono ?_; rintro e w1 ⟨rfl, rfl⟩))
      go_ret2
      exact ⟨_, rfl, World.ownsRow_nil _ _ _ _, below_drewN hb _⟩
    | true =>
      obtain ⟨p1, p2⟩ : 2 ≤ N ∧ N ≤ 257 := by simpa [pts] using P
      obtain ⟨k, rfl⟩ := Int.eq_ofNat_of_zero_le (show 0 ≤ N by omega)
      obtain ⟨a, cap, rfl⟩ := hs.shape
      go_enter Try.func32, Try.ntmps32
      go_wp2_with fail
      refine (valid_any hn hs0).mono ?_
      rintro e w1 ⟨rfl, q⟩
      obtain ⟨j, rfl⟩ := q
      rw [V]
      go_wp2_with (first | (go_at_call 36; refine (points_same _ _).mono ?_; rintro e w1 ⟨rfl, rfl⟩))
      refine (sample_inverse (G := fun y => bif slvOk n f y then (slv n f y : Nat) else 65535) (by omega) (by omega) (fun x W _ _ hbW => ?_)).mono ?_
      · refine inverse1_any hv (((hs0.drawnN j).below hbW (Nat.le_refl _)).mono hbW.size) ?_
        exact (hbW.cell (p := ⟨w.heap.size, 0, none⟩) (by have := hz'.out; simp; omega)).trans b1
      · rintro e w2 ⟨v', rfl, ho, hb2⟩
        go_wp2
        go_ret2
        refine ⟨_, rfl, own_le ho (by have := hb.size; simp; omega), (below_drewN hb j).trans (hb2.mono (by have := hb.size; simp; omega))⟩

set_option maxHeartbeats 1000000 in
theorem then_any {f g : Nat → Int} {n m : Nat} {v u : Value} {N : Int} {w : World} (hn : n ≤ 9223372036854775807) (hm : m ≤ 9223372036854775807) (hs : Sl w w.heap.size v n f) (ht : Sl w w.heap.size u m g) :
    Calls Try.prog 29 #[v, u, .int .i64 N] w fun e w' => ∃ v', e = .returned (.tuple #[v', .int .i64 (okE (vldB n f && vldB m g) (pts N))]) ∧
      w'.ownsRow w.heap.size 3 1 v' (okN (vldB n f && vldB m g) (pts N) N) (vals (thenF f g n m N.toNat) (okN (vldB n f && vldB m g) (pts N) N)) ∧ Below w.heap.size w w' := by
  have hmf : ∀ (fn : Fn) (first cap : Array Value) (w : World), (Instr.makeFunc fn first cap).run Try.prog w = .ok (.func fn first cap) w := fun _ _ _ _ => rfl
  obtain ⟨w0, h0, hb, hz, b1, b2⟩ := box2 (w := w) (v := v) (u := u) 23 23
  have hs0 := hs.on hb
  have ht0 := ht.on hb
  have hz' := Lib.hid hz
  clear hz
  obtain ⟨a, cap, rfl⟩ := hs.shape
  obtain ⟨a', cap', rfl⟩ := ht.shape
  cases V : vldB n f with
  | false =>
    go_enter Try.func29, Try.ntmps29
    go_wp2_with fail
    refine (valid_any hn hs0).mono ?_
    rintro e w1 ⟨rfl, q⟩
    obtain ⟨j, rfl⟩ := q
    rw [V]
    go_wp2
    go_ret2
    exact ⟨_, rfl, World.ownsRow_nil _ _ _ _, below_drewN hb _⟩
  | true =>
    have hv := of_vldB V
    cases U : vldB m g with
    | false =>
      go_enter Try.func29, Try.ntmps29
      go_wp2_with fail
      refine (valid_any hn hs0).mono ?_
      rintro e w1 ⟨rfl, q⟩
      obtain ⟨j, rfl⟩ := q
      rw [V]
      go_wp2_with fail
      refine (valid_any hm (ht0.drawnN j)).mono ?_
      rintro e w1 ⟨rfl, q⟩
      obtain ⟨j', rfl⟩ := q
      rw [U]
      go_wp2
      go_ret2
      exact ⟨_, rfl, World.ownsRow_nil _ _ _ _, below_drewN hb _⟩
    | true =>
      have hu := of_vldB U
      cases P : pts N with
      | false =>
        go_enter Try.func29, Try.ntmps29
        go_wp2_with fail
        refine (valid_any hn hs0).mono ?_
        rintro e w1 ⟨rfl, q⟩
        obtain ⟨j, rfl⟩ := q
        rw [V]
        go_wp2_with fail
        refine (valid_any hm (ht0.drawnN j)).mono ?_
        rintro e w1 ⟨rfl, q⟩
        obtain ⟨j', rfl⟩ := q
        rw [U]
        go_wp2_with (first | (go_at_call 36; refine (points_same _ _).mono ?_; rintro e w1 ⟨rfl, rfl⟩))
        go_ret2
        exact ⟨_, rfl, World.ownsRow_nil _ _ _ _, below_drewN hb _⟩
      | true =>
        obtain ⟨p1, p2⟩ : 2 ≤ N ∧ N ≤ 257 := by simpa [pts] using P
        obtain ⟨k, rfl⟩ := Int.eq_ofNat_of_zero_le (show 0 ≤ N by omega)
        go_enter Try.func29, Try.ntmps29
        go_wp2_with fail
        refine (valid_any hn hs0).mono ?_
        rintro e w1 ⟨rfl, q⟩
        obtain ⟨j, rfl⟩ := q
        rw [V]
        go_wp2_with fail
        refine (valid_any hm (ht0.drawnN j)).mono ?_
        rintro e w1 ⟨rfl, q⟩
        obtain ⟨j', rfl⟩ := q
        rw [U]
        go_wp2_with (first | (go_at_call 36; refine (points_same _ _).mono ?_; rintro e w1 ⟨rfl, rfl⟩))
        refine (sample_then (G := fun x => atV g (m - 1) (atV f (n - 1) x)) (by omega) (by omega) (fun x W x0 x1 hbW => ?_)).mono ?_
        · refine (then1_any hv hu (((hs0.drawnN _).below hbW (Nat.le_refl _)).mono hbW.size) (((ht0.drawnN _).below hbW (Nat.le_refl _)).mono hbW.size) x0 x1 ?_ ?_).mono ?_
          · exact (hbW.cell (p := ⟨w.heap.size + 1, 0, none⟩) (by have := hz'.out; simp; omega)).trans b2
          · exact (hbW.cell (p := ⟨w.heap.size, 0, none⟩) (by have := hz'.out; simp; omega)).trans b1
          · rintro e w2 ⟨rfl, q⟩
            exact ⟨rfl, q.below _⟩
        · rintro e w2 ⟨v', rfl, ho, hb2⟩
          go_wp2
          go_ret2
          refine ⟨_, rfl, own_le ho (by have := hb.size; simp; omega), (below_drewN hb _).trans (hb2.mono (by have := hb.size; simp; omega))⟩

end Go.Proofs.Ytphcianmgpbjmaa
