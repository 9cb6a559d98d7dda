/- Valid spaces. -/
import Derived.Test.YtmilljlkcbljpaaTo
namespace Go.Proofs.Ytmilljlkcbljpaa
open Go.RowKit Go.Sort

/-- Whether one of the first n is so. -/
def anyB (n : Nat) (p : Nat → Bool) : Bool := (List.range n).any p
theorem anyB_t {n : Nat} {p : Nat → Bool} {k : Nat} (hk : k < n) (h : p k = true) : anyB n p = true := by
  simp only [anyB, List.any_eq_true, List.mem_range]; exact ⟨k, hk, h⟩
theorem anyB_f {n : Nat} {p : Nat → Bool} (h : ∀ k, k < n → p k = false) : anyB n p = false := by
  simp only [anyB, List.any_eq_false, List.mem_range]; exact fun k hk => by rw [h k hk]; simp
theorem of_anyB_f {n : Nat} {p : Nat → Bool} (h : anyB n p = false) (k : Nat) (hk : k < n) : p k = false := by
  cases e : p k with
  | false => rfl
  | true => rw [anyB_t hk e] at h; cases h

/-- An index that is not negative just if p. -/
def Idx (p : Bool) (w : World) (e : Ending) (w' : World) : Prop := ∃ k : Int, e = .returned (.int .i64 k) ∧ decide (0 ≤ k) = p ∧ Below w.heap.size w w'

/-- Beyond the greatest entry. -/
def bigB (x : Int) : Bool := decide (x < -65536) || decide (65536 < x)
theorem bigB_f {x : Int} (h : -65536 ≤ x ∧ x ≤ 65536) : bigB x = false := by simp [bigB]; omega

set_option maxHeartbeats 400000 in
theorem within1_any (x : Int) (w : World) : Calls Try.prog 93 #[.int .i64 x] w fun e w' => e = .returned (.bool (bigB x)) ∧ Drawn w w' := by
  by_cases h1 : x < -65536
  · have h1' : decide (x < -65536) = true := decide_eq_true h1
    have E := Lib.hid (show bigB x = true by simp [bigB, h1])
    go_enter Try.func93, Try.ntmps93
    go_wp2
    go_ret
    exact ⟨ret_bool E.out.symm, .refl _⟩
  · have h1' : decide (x < -65536) = false := decide_eq_false h1
    by_cases h2 : 65536 < x
    · have h2' : decide (65536 < x) = true := decide_eq_true h2
      have E := Lib.hid (show bigB x = true by simp [bigB, h2])
      go_enter Try.func93, Try.ntmps93
      go_wp2
      go_ret
      exact ⟨ret_bool E.out.symm, .refl _⟩
    · have h2' : decide (65536 < x) = false := decide_eq_false h2
      have E := Lib.hid (show bigB x = false by simp [bigB]; omega)
      go_enter Try.func93, Try.ntmps93
      go_wp2
      go_ret
      exact ⟨ret_bool E.out.symm, .refl _⟩

set_option maxHeartbeats 1000000 in
theorem index_within {n b off cap : Nat} {m : Nat → Int} {w : World} (hn : n ≤ 4096) (hb : b < w.heap.size) (hc : Cells w b off n m) :
    Calls Try.prog 108 #[.slice (some ⟨b, off, none⟩) n cap, .func (.func 93) #[] #[]] w (Idx (anyB n fun i => bigB (m i)) w) := by
  go_enter Try.func108, Try.ntmps108
  go_wp2
  go_loopw [8] (fun i wr => ∃ k : Nat, k ≤ n ∧ i = .int .i64 k ∧ Hid (∀ j, j < k → bigB (m j) = false) ∧ Below w.heap.size w wr) (fun i _ => n - (intOf i).toNat)
  case atStart => exact ⟨0, by omega, rfl, Lib.hid (fun j hj => by omega), Below.refl _ _⟩
  case round =>
    obtain ⟨k, hk, rfl, hs, hq⟩ := hrel
    by_cases hlt : k < n
    · have c1 := hc.below hq hb k hlt
      have i1 : 0 ≤ (k : Int) ∧ (k : Int) < n := by omega
      go_wp2_with fail
      refine (within1_any _ _).mono ?_
      rintro e w' ⟨rfl, hd⟩
      have hq' := hq.trans ((hd.below wr.heap.size).mono hq.size)
      clear hd c1
      cases hB : bigB (m k) with
      | true =>
        have E := Lib.hid (anyB_t (p := fun i => bigB (m i)) hlt hB)
        clear hB
        go_wp2
        go_ret
        exact ⟨k, rfl, by rw [E.out]; exact decide_eq_true (by omega), hq'⟩
      | false =>
        have E := Lib.hid hB
        clear hB
        go_wp2
        go_roundw
        case rel => exact ⟨k + 1, by omega, by go_num, Lib.hid (fun j hj => by
          by_cases e : j = k
          · subst e; exact E.out
          · exact hs.out j (by omega)), hq'⟩
        case measure => simp [intOf]; omega
    · obtain rfl : k = n := by omega
      have E := Lib.hid (anyB_f hs.out)
      go_wp2
      go_ret
      exact ⟨-1, rfl, by rw [E.out]; rfl, hq⟩

set_option maxHeartbeats 400000 in
theorem contains_within {n b off cap : Nat} {m : Nat → Int} {w : World} (hn : n ≤ 4096) (hb : b < w.heap.size) (hc : Cells w b off n m) :
    Calls Try.prog 92 #[.slice (some ⟨b, off, none⟩) n cap, .func (.func 93) #[] #[]] w fun e w' => e = .returned (.bool (anyB n fun i => bigB (m i))) ∧ Below w.heap.size w w' := by
  go_enter Try.func92, Try.ntmps92
  go_wp2_with fail
  refine (index_within hn hb hc).mono ?_
  rintro e w' ⟨k, rfl, hk, hq⟩
  have E := Lib.hid hk
  clear hk hc
  go_wp2
  go_ret
  exact ⟨ret_bool E.out, hq⟩

open Classical in
/-- Whether the entries are small. -/
noncomputable def entB (m : Nat → Int) : Bool := decide (Ent m)
theorem entB_t {m : Nat → Int} (h : Ent m) : entB m = true := by simp [entB, h]
theorem entB_f {m : Nat → Int} (h : ¬ Ent m) : entB m = false := by simp [entB, h]
theorem of_entB {m : Nat → Int} (h : entB m = true) : Ent m := by simpa [entB] using h
theorem entB_any (m : Nat → Int) : (!anyB 9 fun i => bigB (m i)) = entB m := by
  by_cases h : Ent m
  · rw [entB_t h, anyB_f fun k hk => bigB_f (h k hk)]; rfl
  · rw [entB_f h]
    cases e : anyB 9 fun i => bigB (m i) with
    | true => rfl
    | false =>
      refine absurd (fun j hj => ?_) h
      have := of_anyB_f e j hj
      simp [bigB] at this
      omega

set_option maxHeartbeats 400000 in
theorem within_any {m : Nat → Int} {w : World} :
    Calls Try.prog 63 #[mat m] w fun e w' => e = .returned (.bool (entB m)) ∧ Below w.heap.size w w' := by
  have t1 := Mat.new w m 61
  have E := Lib.hid (entB_any m)
  have HC : Cells (w.alloc (.cells #[.int .i64 (m 0), .int .i64 (m 1), .int .i64 (m 2), .int .i64 (m 3), .int .i64 (m 4), .int .i64 (m 5), .int .i64 (m 6), .int .i64 (m 7), .int .i64 (m 8)] 61)) w.heap.size 0 9 m := fun k hk => by rw [Nat.zero_add]; exact t1.cell k hk
  clear t1
  unfold mat
  go_enter Try.func63, Try.ntmps63
  go_wp2_with fail
  refine (contains_within (by omega) (by simp) HC).mono ?_
  rintro e w' ⟨rfl, hq⟩
  go_wp2
  go_ret
  exact ⟨ret_bool E.out, ((Below.refl _ w).alloc (Nat.le_refl _) _).trans (hq.mono (by simp))⟩

end Go.Proofs.Ytmilljlkcbljpaa
