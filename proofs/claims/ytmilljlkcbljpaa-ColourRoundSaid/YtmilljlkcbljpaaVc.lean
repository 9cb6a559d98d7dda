/- Valid. -/
import Derived.Test.YtmilljlkcbljpaaVb
namespace Go.Proofs.Ytmilljlkcbljpaa
open Go.RowKit Go.Sort

theorem index_c0 (x0 x1 x2 : Value) (w : World) : (Instr.index 60 (.agg #[x0, x1, x2]) (.int .i64 0)).run Try.prog w = .ok x0 w := by kernel_rfl
theorem index_c1 (x0 x1 x2 : Value) (w : World) : (Instr.index 60 (.agg #[x0, x1, x2]) (.int .i64 1)).run Try.prog w = .ok x1 w := by kernel_rfl
theorem index_c2 (x0 x1 x2 : Value) (w : World) : (Instr.index 60 (.agg #[x0, x1, x2]) (.int .i64 2)).run Try.prog w = .ok x2 w := by kernel_rfl
theorem index_cv (v : Nat → Value) (k : Nat) (hk : k < 3) (w : World) : (Instr.index 60 (.agg #[v 0, v 1, v 2]) (.int .i64 k)).run Try.prog w = .ok (v k) w := by
  obtain rfl | rfl | rfl : k = 0 ∨ k = 1 ∨ k = 2 := by omega
  · exact index_c0 _ _ _ w
  · exact index_c1 _ _ _ w
  · exact index_c2 _ _ _ w

/-- A valid space. -/
def SpV (n : Nat → Nat) (f : Nat → Nat → Int) (t m : Nat → Int) : Prop := (∀ i, i < 3 → Vld (n i) (f i)) ∧ Ent t ∧ Ent m ∧ Inv m t
open Classical in
noncomputable def spB (n : Nat → Nat) (f : Nat → Nat → Int) (t m : Nat → Int) : Bool := decide (SpV n f t m)
theorem spB_t {n : Nat → Nat} {f : Nat → Nat → Int} {t m : Nat → Int} (h : SpV n f t m) : spB n f t m = true := by simp [spB, h]
theorem spB_f {n : Nat → Nat} {f : Nat → Nat → Int} {t m : Nat → Int} (h : ¬ SpV n f t m) : spB n f t m = false := by simp [spB, h]
theorem of_spB {n : Nat → Nat} {f : Nat → Nat → Int} {t m : Nat → Int} (h : spB n f t m = true) : SpV n f t m := by simpa [spB] using h

set_option maxRecDepth 100000 in
set_option maxHeartbeats 4000000 in
theorem space_any {v : Nat → Value} {n : Nat → Nat} {f : Nat → Nat → Int} {t m : Nat → Int} {B : Nat} {w : World} (hB : B ≤ w.heap.size) (hc : Crv w B v n f) :
    Calls Try.prog 28 #[spc v t m] w fun e w' => e = .returned (.bool (spB n f t m)) ∧ Below w.heap.size w w' := by
  have t1 := Spb.new w v t m 63
  have hb := (Below.refl w.heap.size w).alloc (Nat.le_refl _) (.cells (spA v t m) 63)
  obtain ⟨w0, h0⟩ : ∃ w0, w.alloc (.cells (spA v t m) 63) = w0 := ⟨_, rfl⟩
  rw [h0] at t1 hb
  have T1 := Lib.hid t1
  have HC := Lib.hid hc
  have c0 := t1.curve 0 (by omega)
  have c1 := t1.curve 1 (by omega)
  have c2 := t1.curve 2 (by omega)
  have kw := Lib.hid (fun (m : Nat → Int) W => within_any (m := m) (w := W))
  have ki := Lib.hid (fun (m t : Nat → Int) (hm : Ent m) (ht : Ent t) W => inverse_any (w := W) hm ht)
  clear t1 hc
  unfold spA at h0
  unfold spc spA
  unfold mat at kw ki
  go_enter Try.func28, Try.ntmps28
  go_wp2
  clear h0 c0 c1 c2
  go_loopw [7] (fun i wr => ∃ k : Nat, k ≤ 3 ∧ i = .int .i64 k ∧ Hid (∀ j, j < k → Vld (n j) (f j)) ∧ Below w.heap.size w wr ∧ Spb 63 wr w.heap.size v t m) (fun i _ => 3 - (intOf i).toNat)
  case atStart => exact ⟨0, by omega, rfl, Lib.hid (fun j hj => by omega), hb, T1.out⟩
  case round =>
    obtain ⟨k, hk, rfl, hs, hq, t1⟩ := hrel
    have T2 := Lib.hid t1
    clear t1
    by_cases hlt : k < 3
    · have hix := index_cv v k hlt
      have HV := Lib.hid (HC.out k hlt)
      go_wp2_with fail
      refine (valid_any HV.out.1 (HV.out.2.below hq hB)).mono ?_
      rintro e w1 ⟨rfl, hd⟩
      have hb1 := hd.below wr.heap.size
      have hq1 := hq.trans (hb1.mono hq.size)
      have T3 := Lib.hid (T2.out.on hb1)
      clear hd hb1
      cases hV : vldB (n k) (f k) with
      | true =>
        have E := Lib.hid (of_vldB hV)
        clear hV
        go_wp2
        go_roundw
        case rel => exact ⟨k + 1, by omega, by go_num, Lib.hid (fun j hj => by
          by_cases e : j = k
          · subst e; exact E.out
          · exact hs.out j (by omega)), hq1, T3.out⟩
        case measure => simp [intOf]; omega
      | false =>
        have E := Lib.hid (spB_f (n := n) (f := f) (t := t) (m := m) fun h => by rw [vldB_t (h.1 k hlt)] at hV; cases hV)
        clear hV
        go_wp2
        go_ret
        exact ⟨ret_bool E.out.symm, hq1⟩
    · obtain rfl : k = 3 := by omega
      have s0 := T2.out.to 0 (by omega)
      have s1 := T2.out.to 1 (by omega)
      have s2 := T2.out.to 2 (by omega)
      have s3 := T2.out.to 3 (by omega)
      have s4 := T2.out.to 4 (by omega)
      have s5 := T2.out.to 5 (by omega)
      have s6 := T2.out.to 6 (by omega)
      have s7 := T2.out.to 7 (by omega)
      have s8 := T2.out.to 8 (by omega)
      go_wp2_with fail
      refine (kw.out t _).mono ?_
      rintro e w1 ⟨rfl, hb1⟩
      have hq1 := hq.trans (hb1.mono hq.size)
      have T3 := Lib.hid (T2.out.on hb1)
      clear s0 s1 s2 s3 s4 s5 s6 s7 s8
      clear hb1
      cases hE : entB t with
      | false =>
        have E := Lib.hid (spB_f (n := n) (f := f) (t := t) (m := m) fun h => by rw [entB_t h.2.1] at hE; cases hE)
        clear hE
        go_wp2
        go_ret
        exact ⟨ret_bool E.out.symm, hq1⟩
      | true =>
        have ET := Lib.hid (of_entB hE)
        clear hE
        have u0 := T3.out.fr 0 (by omega)
        have u1 := T3.out.fr 1 (by omega)
        have u2 := T3.out.fr 2 (by omega)
        have u3 := T3.out.fr 3 (by omega)
        have u4 := T3.out.fr 4 (by omega)
        have u5 := T3.out.fr 5 (by omega)
        have u6 := T3.out.fr 6 (by omega)
        have u7 := T3.out.fr 7 (by omega)
        have u8 := T3.out.fr 8 (by omega)
        go_wp2_with fail
        refine (kw.out m _).mono ?_
        rintro e w2 ⟨rfl, hb2⟩
        have hq2 := hq1.trans (hb2.mono hq1.size)
        have T4 := Lib.hid (T3.out.on hb2)
        clear u0 u1 u2 u3 u4 u5 u6 u7 u8
        clear hb2
        cases hE : entB m with
        | false =>
          have E := Lib.hid (spB_f (n := n) (f := f) (t := t) (m := m) fun h => by rw [entB_t h.2.2.1] at hE; cases hE)
          clear hE
          go_wp2
          go_ret
          exact ⟨ret_bool E.out.symm, hq2⟩
        | true =>
          have EM := Lib.hid (of_entB hE)
          clear hE
          have s0 := T4.out.to 0 (by omega)
          have s1 := T4.out.to 1 (by omega)
          have s2 := T4.out.to 2 (by omega)
          have s3 := T4.out.to 3 (by omega)
          have s4 := T4.out.to 4 (by omega)
          have s5 := T4.out.to 5 (by omega)
          have s6 := T4.out.to 6 (by omega)
          have s7 := T4.out.to 7 (by omega)
          have s8 := T4.out.to 8 (by omega)
          have u0 := T4.out.fr 0 (by omega)
          have u1 := T4.out.fr 1 (by omega)
          have u2 := T4.out.fr 2 (by omega)
          have u3 := T4.out.fr 3 (by omega)
          have u4 := T4.out.fr 4 (by omega)
          have u5 := T4.out.fr 5 (by omega)
          have u6 := T4.out.fr 6 (by omega)
          have u7 := T4.out.fr 7 (by omega)
          have u8 := T4.out.fr 8 (by omega)
          go_wp2_with fail
          refine (ki.out m t EM.out ET.out _).mono ?_
          rintro e w3 ⟨rfl, hb3⟩
          have hq3 := hq2.trans (hb3.mono hq2.size)
          clear s0 s1 s2 s3 s4 s5 s6 s7 s8 u0 u1 u2 u3 u4 u5 u6 u7 u8
          clear hb3
          have E := Lib.hid (show invB m t = spB n f t m from by
            by_cases h : Inv m t
            · rw [invB_t h, spB_t ⟨hs.out, ET.out, EM.out, h⟩]
            · rw [invB_f h, spB_f fun hh => h hh.2.2.2])
          go_wp2
          go_ret
          exact ⟨ret_bool E.out, hq3⟩

end Go.Proofs.Ytmilljlkcbljpaa
