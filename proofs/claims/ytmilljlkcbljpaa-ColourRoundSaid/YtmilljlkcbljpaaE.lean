/- sort.Search over a closure of package curve; Solve and its reference. -/
import Derived.Test.YtmilljlkcbljpaaD
namespace Go.Proofs.Ytmilljlkcbljpaa
open Go.RowKit

/-- What a binary search below 65535 finds. -/
def Found (p : Nat → Bool) (r : Nat) : Prop := r ≤ 65535 ∧ (r = 0 ∨ p (r - 1) = false) ∧ (r = 65535 ∨ p r = true)

/-- A test that stays true. -/
def Stays (p : Nat → Bool) : Prop := ∀ i j, i ≤ j → j ≤ 65535 → p i = true → p j = true

/-- Over a test that stays true, all is said. -/
theorem Found.all {p : Nat → Bool} {r : Nat} (h : Found p r) (hm : Stays p) : r ≤ 65535 ∧ (∀ k, k < r → p k = false) ∧ (∀ k, r ≤ k → k < 65535 → p k = true) := by
  refine ⟨h.1, fun k hk => ?_, fun k hk hk' => ?_⟩
  · rcases h.2.1 with h0 | h0
    · omega
    · cases e : p k with
      | false => rfl
      | true => rw [hm k (r - 1) (by omega) (by have := h.1; omega) e] at h0; exact absurd h0 (by simp)
  · rcases h.2.2 with h0 | h0
    · omega
    · exact hm r k hk (by omega) h0
theorem Found.unique {p : Nat → Bool} {r s : Nat} (h : Found p r) (h' : Found p s) (hm : Stays p) : r = s := by
  have a := h.all hm
  have b := h'.all hm
  rcases Nat.lt_trichotomy r s with e | e | e
  · have h1 := b.2.1 r e
    have h2 := a.2.2 r (Nat.le_refl _) (by have := b.1; omega)
    rw [h1] at h2; exact absurd h2 (by simp)
  · exact e
  · have h1 := a.2.1 s e
    have h2 := b.2.2 s (Nat.le_refl _) (by have := a.1; omega)
    rw [h1] at h2; exact absurd h2 (by simp)

/-- What a binary search finds. -/
noncomputable def fnd (p : Nat → Bool) : Nat := Classical.epsilon (Found p)
theorem Found.eq {p : Nat → Bool} {r : Nat} (h : Found p r) (hm : Stays p) : r = fnd p := h.unique (Classical.epsilon_spec (p := Found p) ⟨r, h⟩) hm

set_option maxHeartbeats 1000000 in
theorem search_solve {p : Nat → Bool} {c1 c2 : Value} {w : World}
    (hf : ∀ (k : Nat) (w' : World), k < 65535 → Below w.heap.size w w' → Calls Try.prog 112 #[.int .i64 k, c1, c2] w' fun e w'' => e = .returned (.bool (p k)) ∧ Below w.heap.size w w'') :
    Calls Try.prog 111 #[.int .i64 65535, .func (.func 112) #[] #[c1, c2]] w fun e w' => ∃ r : Nat, e = .returned (.int .i64 r) ∧ Found p r ∧ Below w.heap.size w w' := by
  have HF := Lib.hid hf
  clear hf
  go_enter Try.func111, Try.ntmps111
  go_wp2
  go_loopw [5, 6] (fun i j wr => ∃ a b : Nat, a ≤ b ∧ b ≤ 65535 ∧ i = .int .i64 a ∧ j = .int .i64 b ∧ Hid (a = 0 ∨ p (a - 1) = false) ∧ Hid (b = 65535 ∨ p b = true) ∧ Below w.heap.size w wr) (fun i j _ => (intOf j - intOf i).toNat)
  case atStart => exact ⟨0, 65535, by omega, by omega, rfl, rfl, Lib.hid (.inl rfl), Lib.hid (.inl rfl), Below.refl _ _⟩
  case round =>
    obtain ⟨a, b, hab, hb, rfl, rfl, ha', hb', hq⟩ := hrel
    by_cases hlt : a < b
    · obtain ⟨h, hh, h1, h2⟩ : ∃ h : Nat, Hid (((a : Int) + b) / 2 = (h : Int)) ∧ a ≤ h ∧ h < b := ⟨(a + b) / 2, Lib.hid (by omega), by omega, by omega⟩
      cases hp : p h with
      | true =>
        go_wp2_with fail
        rw [hh.out]
        refine (HF.out h wr (by omega) hq).mono ?_
        rintro e w1 ⟨rfl, hq1⟩
        go_wp2
        go_roundw
        case rel => exact ⟨a, h, h1, by omega, rfl, rfl, ha', Lib.hid (.inr hp), hq1⟩
        case measure => simp [intOf]; omega
      | false =>
        go_wp2_with fail
        rw [hh.out]
        refine (HF.out h wr (by omega) hq).mono ?_
        rintro e w1 ⟨rfl, hq1⟩
        go_wp2
        go_roundw
        case rel => exact ⟨h + 1, b, by omega, by omega, by go_num, rfl, Lib.hid (.inr (by simpa using hp)), hb', hq1⟩
        case measure => simp [intOf]; omega
    · obtain rfl : a = b := by omega
      go_wp2
      go_ret
      exact ⟨a, rfl, ⟨hb, ha'.out, hb'.out⟩, hq⟩

/-- Whether a curve has reached y at x. -/
def reach (n : Nat) (f : Nat → Int) (y : Int) (x : Nat) : Bool := decide (y ≤ atV f (n - 1) x)

set_option maxHeartbeats 400000 in
theorem solve1_any {f : Nat → Int} {n B b1 b2 : Nat} {v : Value} {x : Nat} {y : Int} {w : World} (hv : Vld n f) (hs : Sl w B v n f) (hx : x < 65535)
    (c1 : w.cell? ⟨b1, 0, none⟩ = some v) (c2 : w.cell? ⟨b2, 0, none⟩ = some (.int .i64 y)) :
    Calls Try.prog 112 #[.int .i64 x, .pointer (some ⟨b1, 0, none⟩), .pointer (some ⟨b2, 0, none⟩)] w fun e w' => e = .returned (.bool (reach n f y x)) ∧ Drawn w w' := by
  obtain ⟨b, off, cap, rfl, _⟩ := hs.at (by have := hv.1; omega)
  cases hp : reach n f y x with
  | true =>
    have h1 : y ≤ atV f (n - 1) x := by simpa [reach] using hp
    have h2 : decide (y ≤ atV f (n - 1) x) = true := by simpa using h1
    clear hp
    go_enter Try.func112, Try.ntmps112
    go_wp2
    go_quiet ((go_at_call 74; exact Calls.quiet_of (at_any hv (hs.drawnN _) (by omega) (by omega))))
    go_wp2
    go_ret
    exact ⟨rfl, .of _⟩
  | false =>
    have h1 : ¬ y ≤ atV f (n - 1) x := by simpa [reach] using hp
    have h2 : decide (y ≤ atV f (n - 1) x) = false := by simpa using h1
    clear hp
    go_enter Try.func112, Try.ntmps112
    go_wp2
    go_quiet ((go_at_call 74; exact Calls.quiet_of (at_any hv (hs.drawnN _) (by omega) (by omega))))
    go_wp2
    go_ret
    exact ⟨rfl, .of _⟩

/-- The two boxes of Solve. -/
theorem boxes {w : World} {v : Value} {y : Int} (t t' : TypeId) : ∃ w0, (w.alloc (.cells #[v] t)).alloc (.cells #[.int .i64 y] t') = w0 ∧ Below w.heap.size w w0 ∧ w0.heap.size = w.heap.size + 2 ∧
    w0.cell? ⟨w.heap.size, 0, none⟩ = some v ∧ w0.cell? ⟨w.heap.size + 1, 0, none⟩ = some (.int .i64 y) := by
  refine ⟨_, rfl, ((Below.refl _ w).alloc (Nat.le_refl _) _).alloc (by simp) _, by simp, ?_, ?_⟩
  · rw [World.cell?_alloc_past _ _ _ (by simp), World.cell?_alloc_at _ _ _ _ rfl]; rfl
  · rw [World.cell?_alloc_at _ _ _ _ (by simp)]; rfl

set_option maxHeartbeats 400000 in
theorem solve_no {f : Nat → Int} {n B : Nat} {v : Value} {y : Int} {w : World} (hn : n ≤ 9223372036854775807) (hB : B ≤ w.heap.size) (hs : Sl w B v n f) (hv : ¬ (Vld n f ∧ y ≤ f (n - 1))) :
    Calls Try.prog 100 #[v, .int .i64 y] w fun e w' => e = .returned (.tuple #[.int .i64 0, .bool false]) ∧ Below w.heap.size w w' := by
  obtain ⟨w0, h0, hb, hz, b1, b2⟩ := boxes (w := w) (v := v) (y := y) 59 3
  have hs0 := hs.below hb hB
  have hz' := Lib.hid hz
  clear hz
  by_cases hv1 : Vld n f
  · have V1 := vldB_t hv1
    have hy : f (n - 1) < y := by have := mt (And.intro hv1) hv; omega
    obtain ⟨b, off, cap, rfl, hbB, hc⟩ := hs.at (by have := hv1.1; omega)
    obtain ⟨m, rfl⟩ : ∃ m, n = m + 1 := ⟨n - 1, by have := hv1.1; omega⟩
    rw [Nat.add_sub_cancel] at hy
    have c1 := hc.below hb (by omega) m (by omega)
    have d1 : decide (f m < y) = true := by simpa using hy
    go_enter Try.func100, Try.ntmps100
    go_wp2_with fail
    go_quiet ((go_at_call 62; exact Calls.quiet_of (valid_any hn (hs0.drawnN _))))
    go_wp2
    go_ret2
    exact ⟨rfl, below_drewN hb _⟩
  · have V1 := vldB_f hv1
    obtain ⟨a, cap, rfl⟩ := hs.shape
    go_enter Try.func100, Try.ntmps100
    go_wp2_with fail
    go_quiet ((go_at_call 62; exact Calls.quiet_of (valid_any hn (hs0.drawnN _))))
    go_wp2
    go_ret2
    exact ⟨rfl, below_drewN hb _⟩

set_option maxHeartbeats 400000 in
theorem solve_yes {f : Nat → Int} {n B : Nat} {v : Value} {y : Int} {w : World} (hB : B ≤ w.heap.size) (hs : Sl w B v n f) (hv : Vld n f) (hy : y ≤ f (n - 1)) :
    Calls Try.prog 100 #[v, .int .i64 y] w fun e w' => ∃ r : Nat, e = .returned (.tuple #[.int .i64 r, .bool true]) ∧ Found (reach n f y) r ∧ Below w.heap.size w w' := by
  have hn : n ≤ 9223372036854775807 := by have := hv.2.1; omega
  have hmf : ∀ (fn : Fn) (first cap : Array Value) (w : World), (Instr.makeFunc fn first cap).run Try.prog w = .ok (.func fn first cap) w := fun _ _ _ _ => rfl
  obtain ⟨w0, h0, hb, hz, b1, b2⟩ := boxes (w := w) (v := v) (y := y) 59 3
  have hs0 := hs.below hb hB
  have hz' := Lib.hid hz
  clear hz
  have V1 := vldB_t hv
  obtain ⟨b, off, cap, rfl, hbB, hc⟩ := hs.at (by have := hv.1; omega)
  obtain ⟨m, rfl⟩ : ∃ m, n = m + 1 := ⟨n - 1, by have := hv.1; omega⟩
  rw [Nat.add_sub_cancel] at hy
  have c1 := hc.below hb (by omega) m (by omega)
  have d1 : decide (f m < y) = false := by simp; omega
  go_enter Try.func100, Try.ntmps100
  go_wp2_with fail
  go_quiet ((go_at_call 62; exact Calls.quiet_of (valid_any hn (hs0.drawnN _))))
  go_wp2_with fail
  refine (search_solve (p := reach (m + 1) f y) fun k w' hk hbw => ?_).mono ?_
  · have e1 : w'.cell? ⟨w.heap.size, 0, none⟩ = _ := (hbw.cell (p := ⟨w.heap.size, 0, none⟩) (by have := hz'.out; simp; omega)).trans b1
    have e2 : w'.cell? ⟨w.heap.size + 1, 0, none⟩ = _ := (hbw.cell (p := ⟨w.heap.size + 1, 0, none⟩) (by have := hz'.out; simp; omega)).trans b2
    refine (solve1_any hv ((hs0.drawnN nq).below hbw (by have := hb.size; simp; omega)) hk e1 e2).mono ?_
    rintro e w'' ⟨he, hd⟩
    exact ⟨he, hbw.trans (hd.below _)⟩
  · rintro e w' ⟨r, rfl, hr, hbw⟩
    go_wp2
    go_ret2
    exact ⟨r, rfl, hr, (below_drewN hb nq).trans (hbw.mono (by have := hb.size; simp; omega))⟩

end Go.Proofs.Ytmilljlkcbljpaa
