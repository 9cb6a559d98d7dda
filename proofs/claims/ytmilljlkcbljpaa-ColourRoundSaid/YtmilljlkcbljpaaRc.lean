/- Curve of the reference: one of four. -/
import Derived.Test.YtmilljlkcbljpaaSn
import Derived.Test.YtmilljlkcbljpaaP
namespace Go.Proofs.Ytmilljlkcbljpaa
open Go.RowKit Go.Sort

def cvL (r : Nat) : List Int := if r = 1 then [0, 4096, 16384, 36864, 65535] else if r = 2 then [0, 40000, 65535] else if r = 3 then [100, 100, 30000, 30000, 65000] else [0, 65535]
def cvN (r : Nat) : Nat := (cvL r).length
def cvF (r i : Nat) : Int := (cvL r).getD i 0

theorem sl_of_list {w : World} {l : List Int} {t : TypeId} : Sl (w.alloc (.cells (l.map (Value.int .i64)).toArray t)) (w.heap.size + 1) (.slice (some ⟨w.heap.size, 0, none⟩) l.length l.length) l.length (fun i => l.getD i 0) := by
  refine .inr ⟨w.heap.size, 0, l.length, rfl, ⟨by omega, Nat.le_refl _⟩, fun k hk => ?_⟩
  rw [World.cell?_alloc_at _ _ _ _ rfl]
  simp [hk]

/-- A slice in a block above another. -/
def SlA (lo : Nat) (w : World) (v : Value) (n : Nat) (f : Nat → Int) : Prop := ∃ b cap : Nat, lo < b ∧ b < w.heap.size ∧ v = .slice (some ⟨b, 0, none⟩) n cap ∧ n ≤ cap ∧ Cells w b 0 n f
theorem SlA.sl {lo n : Nat} {w : World} {v : Value} {f : Nat → Int} (h : SlA lo w v n f) : Sl w w.heap.size v n f := by
  obtain ⟨b, cap, _, h1, h2, h3, h4⟩ := h
  exact .inr ⟨b, 0, cap, h2, ⟨h1, h3⟩, h4⟩
theorem SlA.exc {lo n b : Nat} {w w' : World} {v : Value} {f : Nat → Int} (h : SlA lo w v n f) (hx : Exc b w w') (hb : b ≤ lo) : SlA lo w' v n f := by
  obtain ⟨c, cap, h0, h1, h2, h3, h4⟩ := h
  refine ⟨c, cap, h0, Nat.lt_of_lt_of_le h1 hx.2.1, h2, h3, fun k hk => ?_⟩
  rw [← h4 k hk]
  unfold World.cell?
  rw [hx.2.2 c h1 (by omega)]
theorem SlA.on {lo n : Nat} {w w' : World} {v : Value} {f : Nat → Int} (h : SlA lo w v n f) (hb : Below w.heap.size w w') : SlA lo w' v n f := by
  obtain ⟨c, cap, h0, h1, h2, h3, h4⟩ := h
  exact ⟨c, cap, h0, Nat.lt_of_lt_of_le h1 hb.size, h2, h3, h4.below hb h1⟩
theorem sla_of_list {w : World} {l : List Int} {t : TypeId} {lo : Nat} (hlo : lo < w.heap.size) : SlA lo (w.alloc (.cells (l.map (Value.int .i64)).toArray t)) (.slice (some ⟨w.heap.size, 0, none⟩) l.length l.length) l.length (fun i => l.getD i 0) := by
  refine ⟨w.heap.size, l.length, hlo, by simp, rfl, Nat.le_refl _, fun k hk => ?_⟩
  rw [World.cell?_alloc_at _ _ _ _ rfl]
  simp [hk]
theorem cvN_le (r : Nat) : cvN r ≤ 9223372036854775807 := by
  unfold cvN cvL
  split <;> (try split) <;> (try split) <;> simp

set_option maxRecDepth 100000 in
set_option maxHeartbeats 1000000 in
theorem refCurve_any {q : Int} {w : World} :
    Calls Try.prog 61 #[.int .i64 q] w fun e w' => ∃ v, e = .returned v ∧ (∀ lo, lo < w.heap.size → SlA lo w' v (cvN (q % 4).toNat) (cvF (q % 4).toNat)) ∧ Below w.heap.size w w' := by
  have am : ∀ x : Int, bits .and .i64 x 3 = x % 4 := fun x => and_mask 2 x (by omega)
  have hq := Int.emod_nonneg q (b := 4) (by omega)
  have hq' := Int.emod_lt_of_pos q (b := 4) (by omega)
  obtain ⟨r, hr⟩ := Int.eq_ofNat_of_zero_le hq
  rw [hr] at hq'
  have e : (q % 4).toNat = r := by omega
  rw [e]
  have hr4 : r < 4 := by omega
  clear hq hq' e
  have fin : ∀ (l : List Int) (t : TypeId), cvL r = l → ∀ lo, lo < w.heap.size → SlA lo (w.alloc (.cells (l.map (Value.int .i64)).toArray t)) (.slice (some ⟨w.heap.size, 0, none⟩) l.length l.length) (cvN r) (cvF r) := fun l t h lo hlo => by
    have := sla_of_list (w := w) (l := l) (t := t) hlo
    unfold cvN cvF
    rw [h]
    exact this
  have FIN := Lib.hid fin
  have hbl : ∀ o : Obj, Below w.heap.size w (w.alloc o) := fun o => (Below.refl _ _).alloc (Nat.le_refl _) o
  clear fin
  obtain rfl | rfl | rfl | rfl : r = 0 ∨ r = 1 ∨ r = 2 ∨ r = 3 := by omega
  · have h0 : q % 4 = 0 := hr
    clear hr
    go_enter Try.func61, Try.ntmps61
    go_wp2
    go_ret
    exact ⟨_, rfl, FIN.out [0, 65535] _ rfl, hbl _⟩
  · have h0 : q % 4 = 1 := hr
    clear hr
    go_enter Try.func61, Try.ntmps61
    go_wp2
    go_ret
    exact ⟨_, rfl, FIN.out [0, 4096, 16384, 36864, 65535] _ rfl, hbl _⟩
  · have h0 : q % 4 = 2 := hr
    clear hr
    go_enter Try.func61, Try.ntmps61
    go_wp2
    go_ret
    exact ⟨_, rfl, FIN.out [0, 40000, 65535] _ rfl, hbl _⟩
  · have h0 : q % 4 = 3 := hr
    clear hr
    go_enter Try.func61, Try.ntmps61
    go_wp2
    go_ret
    exact ⟨_, rfl, FIN.out [100, 100, 30000, 30000, 65000] _ rfl, hbl _⟩

end Go.Proofs.Ytmilljlkcbljpaa
