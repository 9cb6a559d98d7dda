/- Texts of this proof, one behind another: Ss. -/
import Derived.Test.YtmilljlkcbljpaaZ7
import Derived.Deep.CutRange
/- The statement ColourSimplifies, walked. -/
namespace Go.Proofs.Ytmilljlkcbljpaa
open Go.RowKit Go.Sort

theorem alloc_col (w : World) : ∃ v ob, (Instr.alloc 28 true (.tuple #[])).run Try.prog w = .ok v (w.alloc ob) := ⟨.pointer (some ⟨w.heap.size, 0, none⟩), .cells #[.int .i64 0, .int .i64 0, .int .i64 0] 28, by kernel_rfl⟩
theorem Sl.cut {w : World} {B n m cap : Nat} {a : Option Addr} {f : Nat → Int} (h : Sl w B (.slice a n cap) n f) (hm : m ≤ n) : Sl w B (.slice a m cap) m f := by
  rcases h with ⟨rfl, a', cap', h, h'⟩ | ⟨b, off, cap', h1, h2, h3⟩
  · cases h
    obtain rfl : m = 0 := by omega
    exact .inl ⟨rfl, _, _, rfl, h'⟩
  · cases h1
    by_cases e : m = 0
    · subst e
      exact .inl ⟨rfl, _, _, rfl, fun h => by cases h⟩
    · exact .inr ⟨b, off, cap, rfl, ⟨h2.1, by omega⟩, fun k hk => h3 k (by omega)⟩
theorem min_nat (n k : Nat) (ts : Array TypeId) (t : TypeId) (w : World) : (Builtin.min_ ts t #[.int .i64 (n : Int), .int .i64 (k : Int)]).run Try.prog w = .ok (.int .i64 ((min n k : Nat) : Int)) w := by
  rw [run_min_int2]; congr 2; split <;> omega

theorem chn_on {w w' : World} {n : Nat} {v : Value} {S : Nat → Sp} (h : Chn w w.heap.size v n S) (hb : Below w.heap.size w w') : Chn w' w'.heap.size v n S := by
  have h := h.below hb (Nat.le_refl _)
  refine ⟨fun k hk => Crv.mono (h.1 k hk) hb.size, ?_⟩
  rcases h.2 with h | ⟨b, off, cap, h1, h2, h3⟩
  · exact .inl h
  · exact .inr ⟨b, off, cap, h1, ⟨Nat.lt_of_lt_of_le h2.1 hb.size, h2.2⟩, h3⟩

set_option maxRecDepth 100000 in
set_option maxHeartbeats 8000000 in
theorem colourSimplifies_walk {n0 n1 : Nat} {v0 v1 : Value} {f0 f1 : Nat → Int} {w : World} (hn0 : n0 ≤ 9223372036854775807) (hn1 : n1 ≤ 9223372036854775807) (hs0 : Sl w w.heap.size v0 n0 f0) (hs1 : Sl w w.heap.size v1 n1 f1) :
    Calls Try.prog 4 #[v0, v1] w fun e w' => e = .returned (.bool true) ∧ Below w.heap.size w w' := by
  obtain ⟨a0, c0, rfl⟩ := hs0.shape
  obtain ⟨a1, c1, rfl⟩ := hs1.shape
  obtain ⟨m0, hm0⟩ : ∃ m, min n0 2 = m := ⟨_, rfl⟩
  obtain ⟨m1, hm1⟩ : ∃ m, min n1 36 = m := ⟨_, rfl⟩
  have q0 : ∀ (ts : Array TypeId) (t : TypeId) (w : World), (Builtin.min_ ts t #[.int .i64 (n0 : Int), .int .i64 2]).run Try.prog w = .ok (.int .i64 ((min n0 2 : Nat) : Int)) w := fun ts t w => min_nat n0 2 ts t w
  have q1 : ∀ (ts : Array TypeId) (t : TypeId) (w : World), (Builtin.min_ ts t #[.int .i64 (n1 : Int), .int .i64 36]).run Try.prog w = .ok (.int .i64 ((min n1 36 : Nat) : Int)) w := fun ts t w => min_nat n1 36 ts t w
  rw [hm0] at q0
  rw [hm1] at q1
  have e0 : m0 ≤ n0 ∧ m0 ≤ 2 := by omega
  have e1 : m1 ≤ n1 ∧ m1 ≤ 36 := by omega
  have HS0 := Lib.hid (hs0.cut (m := m0) (by omega))
  have HS1 := Lib.hid (hs1.cut (m := m1) (by omega))
  have k0 : n0 ≤ c0 := by
    rcases hs0 with ⟨rfl, a', cap', h, h'⟩ | ⟨b, off, cap', h1, h2, h3⟩
    · omega
    · cases h1; exact h2.2
  have k1 : n1 ≤ c1 := by
    rcases hs1 with ⟨rfl, a', cap', h, h'⟩ | ⟨b, off, cap', h1, h2, h3⟩
    · omega
    · cases h1; exact h2.2
  have HM0 := Lib.hid hm0
  clear hs0 hs1 hm0 hm1
  go_enter Try.func4, Try.ntmps4
  go_wp2_with fail
  refine (sanity_any w).mono ?_
  rintro e w1 ⟨rfl, hb1⟩
  have i0 : (m0 : Int) ≤ c0 := by omega
  have i1 : (m1 : Int) ≤ c1 := by omega
  go_wp2_with fail
  refine (refChain_any (B := w.heap.size) (by omega) hb1.size (HS0.out.below hb1 (Nat.le_refl _))).mono ?_
  rintro e w2 ⟨xc, vs, rfl, hch, hb2⟩
  rw [show min m0 5 = m0 by omega] at hch
  have hq2 := hb1.trans (hb2.mono hb1.size)
  have HCH := Lib.hid hch
  go_wp2_with fail
  refine (refColours_any (B := w.heap.size) (by omega) hq2.size (HS1.out.below hq2 (Nat.le_refl _))).mono ?_
  rintro e w3 ⟨xl, rfl, hcl, hb3⟩
  have hq3 := hq2.trans (hb3.mono hq2.size)
  obtain ⟨l, hl⟩ : ∃ l, colN m1 = l := ⟨_, rfl⟩
  have hl12 : l ≤ 12 := by rw [← hl]; unfold colN; omega
  rw [hl] at hcl
  obtain ⟨S, hS⟩ : ∃ S : Nat → Sp, (fun j => Sq (vs j) (f0 j)) = S := ⟨_, rfl⟩
  have hSv : ∀ k, (S k).val = true := fun k => by rw [← hS]; exact Sq.val _ _
  have hchn := (hch.on hb3).chn
  rw [hS] at hchn
  have hlc := Cls.of_own hcl (Nat.le_refl _)
  obtain ⟨L, hL⟩ : ∃ L, colG f1 = L := ⟨_, rfl⟩
  rw [hL] at hlc
  have HCN := Lib.hid hchn
  have HLC := Lib.hid hlc
  have HSV := Lib.hid hSv
  have shc := hchn.shape
  have shl := hlc.shape
  clear hch hcl hL hS hl hchn hlc hSv HCH q0 q1
  obtain ⟨ac, cc, rfl⟩ := shc
  obtain ⟨al, cl, rfl⟩ := shl
  by_cases hz : m0 = 0
  · subst hz
    have ks := Lib.hid (Simplify_chk (w := w3) (by omega) (Nat.le_refl _) HCN.out (by rw [chkV_0 rfl]; omega) HLC.out)
    rw [chkV_0 rfl] at ks
    go_wp2_with fail
    refine ks.out.mono ?_
    rintro e w4 ⟨rfl, hb4⟩
    obtain ⟨w5, h5⟩ : ∃ w5, w4.alloc (.cells #[.int .i64 0, .slice none 0 0] 31) = w5 := ⟨_, rfl⟩
    have hb5 : Below w4.heap.size w4 w5 := by rw [← h5]; exact (Below.refl _ _).alloc (Nat.le_refl _) _
    have t5 : Two 31 w5 w4.heap.size (.int .i64 0) (.slice none 0 0) := by rw [← h5]; exact Two.new _ _ _ _
    have hq4 := hq3.trans (hb4.mono hq3.size)
    have hq5 := hq4.trans (hb5.mono hq4.size)
    have x0 := t5.c0
    have x1 := t5.c1
    have y0 := t5.free 0
    have y1 := t5.free 1
    obtain ⟨w6, h6⟩ : ∃ w6, (w5.setCell ⟨w4.heap.size, 0, none⟩ (.int .i64 0)).setCell ⟨w4.heap.size, 1, none⟩ (.slice none 0 0) = w6 := ⟨_, rfl⟩
    have hb36 : Below w3.heap.size w3 w6 := by rw [← h6]; exact set2_below (hb4.trans (hb5.mono hb4.size)) hb4.size _ _
    have hq6 := hq3.trans (hb36.mono hq3.size)
    clear t5 hb4 hb5 hq5
    go_wp2
    go_ret
    exact ⟨rfl, hq6⟩
  · have hch0 : chkV m0 S = 0 := chkV_is hz (by omega) (fun k _ => HSV.out k)
    have hm1 : (m0 == 0) = false := by simpa using hz
    have hmz : ((m0 : Int) == 0) = false := by simp; omega
    have ks := Lib.hid (Simplify_yes (w := w3) (by omega) (by omega) (Nat.le_refl _) HCN.out hch0 HLC.out)
    go_wp2_with fail
    refine ks.out.mono ?_
    rintro e w4 ⟨hsim, hb4⟩
    clear ks
    rcases hsim with ⟨m, x, hm2, hm17, hok, hmin, rfl, hown⟩ | ⟨hall, rfl⟩
    · obtain ⟨gb, cap, rfl⟩ := own_pos hown (by have := (cube_bd hm2 hm17).1; omega)
      obtain ⟨w5, h5⟩ : ∃ w5, w4.alloc (.cells #[.int .i64 m, .slice (some ⟨gb, 0, none⟩) (m * m * m) cap] 31) = w5 := ⟨_, rfl⟩
      have hb5 : Below w4.heap.size w4 w5 := by rw [← h5]; exact (Below.refl _ _).alloc (Nat.le_refl _) _
      have t5 : Two 31 w5 w4.heap.size (.int .i64 m) (.slice (some ⟨gb, 0, none⟩) (m * m * m) cap) := by rw [← h5]; exact Two.new _ _ _ _
      have hb35 : Below w3.heap.size w3 w5 := hb4.trans (hb5.mono hb4.size)
      have hq5 := hq3.trans (hb35.mono hq3.size)
      have HG5 := Lib.hid ((Cls.of_own hown (Nat.le_refl _)).on hb5)
      have T5 := Lib.hid t5
      have g0 := t5.c0
      have g1 := t5.c1
      have HC5 := Lib.hid (chn_on HCN.out hb35)
      have HL5 := Lib.hid (HLC.out.on hb35)
      have hGV : GrV m (m * m * m) (tabV S m0 m) := tab_grv hm2 hm17
      have HGV := Lib.hid hGV
      have kw := Lib.hid (Worst_yes (w := w5) (by omega) (by omega) (Nat.le_refl _) HC5.out hch0 hGV HG5.out HL5.out)
      have hER : Hid (∀ k i, k < l → i < 3 → gam (cnv S (L k) (m0 - 1)) i - lkV m (tabV S m0 m) (L k) i ≤ 257 ∧ -257 ≤ gam (cnv S (L k) (m0 - 1)) i - lkV m (tabV S m0 m) (L k) i) := Lib.hid (fun k i hk hi => by
        have h1 := wsV_ge (A := wA S m0 L) (B := wB m (tabV S m0 m) L) l k i hk hi
        have h2 : wsV (wA S m0 L) (wB m (tabV S m0 m) L) l ≤ 257 := hok
        simp only [wA, wB] at h1 h2
        omega)
      obtain ⟨V, hV⟩ : ∃ V, tbW S m0 L l m = V := ⟨_, rfl⟩
      have eW := Lib.hid (show wstV S m0 m (tabV S m0 m) L l = V from hV)
      rw [eW.out] at kw
      rw [hV] at hok
      have HMIN := Lib.hid hmin
      have dV : decide (257 < V) = false := decide_eq_false (by omega)
      clear hV hGV t5 hown hmin hb4 hb5 hb35 hok
      go_wp2_with fail
      refine kw.out.mono ?_
      rintro e w6 ⟨rfl, hb6⟩
      have T6 := Lib.hid (T5.out.on hb6)
      have HG6 := Lib.hid (HG5.out.on hb6)
      have HC6 := Lib.hid (chn_on HC5.out hb6)
      have HL6 := Lib.hid (HL5.out.on hb6)
      have hq6 := hq5.trans (hb6.mono hq5.size)
      clear h5 g0 g1 kw hb6 T5 HG5 HC5 HL5
      go_wp2
      go_loopw [17] (fun i wr => ∃ k : Nat, k ≤ l ∧ i = .int .i64 k ∧ Below w6.heap.size w6 wr) (fun i _ => l - (intOf i).toNat)
      case atStart => exact ⟨0, by omega, rfl, Below.refl _ _⟩
      case round =>
        obtain ⟨k, hk, rfl, hbr⟩ := hrel
        by_cases hlt : k < l
        · have hlr := HL6.out.on hbr
          obtain ⟨lb, lo, lc, e1', e2', e3'⟩ := hlr.at (by omega)
          cases e1'
          have c0' := e3' k hlt 0 (by omega)
          have c1' := e3' k hlt 1 (by omega)
          have c2' := e3' k hlt 2 (by omega)
          rw [Nat.add_zero] at c0'
          have i2 : 0 ≤ (k : Int) ∧ (k : Int) < l := by omega
          have kc := Lib.hid (Convert_any (c := L k) (w := wr) (by omega) (Nat.le_refl _) (chn_on HC6.out hbr))
          rw [hch0] at kc
          obtain ⟨A, hA⟩ : ∃ A, cvtV m0 S (L k) = A := ⟨_, rfl⟩
          have hAe : ∀ i, A i = cnv S (L k) (m0 - 1) i := fun i => by rw [← hA]; exact if_pos hch0
          have HAE := Lib.hid hAe
          rw [hA] at kc
          unfold col at kc
          clear hA hAe hlr e3'
          go_wp2_with fail
          refine kc.out.mono ?_
          rintro e w7 ⟨rfl, hb7⟩
          obtain ⟨w8, h8⟩ : ∃ w8, w7.alloc (.cells #[.int .i64 (A 0), .int .i64 (A 1), .int .i64 (A 2)] 28) = w8 := ⟨_, rfl⟩
          have hb8 : Below w7.heap.size w7 w8 := by rw [← h8]; exact (Below.refl _ _).alloc (Nat.le_refl _) _
          have ta : Tri 28 w8 w7.heap.size A := by rw [← h8]; exact Tri.new w7 A _
          have TA := Lib.hid ta
          have hbr8 : Below wr.heap.size wr w8 := hb7.trans (hb8.mono hb7.size)
          have hb68 : Below w6.heap.size w6 w8 := hbr.trans (hbr8.mono hbr.size)
          have hl8 := HL6.out.on hb68
          obtain ⟨lb', lo', lc', e1', e2'', e3'⟩ := hl8.at (by omega)
          cases e1'
          have r0 := cell_regrown (e3' k hlt 0 (by omega))
          have r1 := cell_regrown (e3' k hlt 1 (by omega))
          have r2 := cell_regrown (e3' k hlt 2 (by omega))
          simp only [Nat.add_zero] at r0
          have t8 := T6.out.on hb68
          have s0 := cell_regrown t8.c0
          have s1 := cell_regrown t8.c1
          have HB68 := Lib.hid hb68
          have klk : Hid (∀ W, Below w8.heap.size w8 W → Calls Try.prog 22 #[.agg #[.int .i64 m, .slice (some ⟨gb, 0, none⟩) (m * m * m) cap], .agg #[.int .i64 (L k 0), .int .i64 (L k 1), .int .i64 (L k 2)]] W fun e w' => e = .returned (.tuple #[.agg #[.int .i64 (lkV m (tabV S m0 m) (L k) 0), .int .i64 (lkV m (tabV S m0 m) (L k) 1), .int .i64 (lkV m (tabV S m0 m) (L k) 2)], .int .i64 0]) ∧ Below W.heap.size W w') := Lib.hid (fun W hW => Look_yes (N := m) (c := L k) (w := W) (Nat.le_refl _) ((HG6.out.on HB68.out).on hW) HGV.out)
          obtain ⟨b, hbv⟩ : ∃ b, lkV m (tabV S m0 m) (L k) = b := ⟨_, rfl⟩
          have HEE : Hid (∀ i, i < 3 → gam A i - b i ≤ 257 ∧ -257 ≤ gam A i - b i) := Lib.hid (fun i hi => by
            have := hER.out k i hlt hi
            rw [hbv] at this
            unfold gam at this ⊢
            rw [HAE.out i]
            exact this)
          have HGb : Hid (InG b) := Lib.hid (by rw [← hbv]; exact lkV_gam HGV.out _)
          rw [hbv] at klk
          clear c0' c1' c2' ta hl8 e3' t8 hb7 hb8 hbr8 hb68 hbv kc
          go_upto_region 23 with fail
          clear h8
          go_cut [20, 21] from 94 to 136 (fun p q wx => ∃ bb : Nat, p = .pointer (some ⟨bb, 0, none⟩) ∧ q = .int .i64 0 ∧ Tri 28 wx bb b ∧ Below w8.heap.size w8 wx)
          case first =>
            refine region_first [1, 2, 3, 0, 4] 9 5 7 (by kernel_rfl) (by kernel_rfl) (by kernel_rfl) (fun _ _ d _ _ h => by cases d <;> exact h) (fun a w' hC K h => alloc_mid rfl rfl alloc_col a w' hC K h) ?_
            simp only [selL, List.filterMap_cons, List.filterMap_nil, List.getElem?_cons_zero, List.getElem?_cons_succ]
            refine pureW_step (.slice (some ⟨lb, lo, none⟩) l cl) rfl (fun w' _ => ?_) (fun K' hK' => ?_)
            · go_simp
            go_simp
            refine hK' _ ?_
            clear hK' K'
            refine pureW_step (.int .i64 (k : Int)) rfl (fun w' _ => ?_) (fun K' hK' => ?_)
            · go_simp
            go_simp
            refine hK' _ ?_
            clear hK' K'
            refine pureW_step (.pointer (some ⟨lb, lo + k * 3, none⟩)) rfl (fun w' _ => ?_) (fun K' hK' => ?_)
            · go_simp
            go_simp
            refine hK' _ ?_
            clear hK' K'
            refine pureW_step (.agg #[.int .i64 m, .slice (some ⟨gb, 0, none⟩) (m * m * m) cap]) rfl (fun w' hw' => ?_) (fun K' hK' => ?_)
            · obtain ⟨p, rfl⟩ := hw'
              go_simp
            go_simp
            refine hK' _ ?_
            clear hK' K'
            refine pureW_step (.agg #[.int .i64 (L k 0), .int .i64 (L k 1), .int .i64 (L k 2)]) rfl (fun w' hw' => ?_) (fun K' hK' => ?_)
            · obtain ⟨p, rfl⟩ := hw'
              go_simp
            go_simp
            refine hK' _ ?_
            clear hK' K'
            refine pureW_nil ?_
            intro ws hws
            have hbs := hws.below
            clear hws r0 r1 r2 s0 s1
            refine any_two (i := 5) (i' := 9) (by kernel_rfl) rfl rfl rfl rfl ?_ ?_
            · go_wp2_with fail
              refine (klk.out ws hbs).mono ?_
              rintro e w9 ⟨rfl, hb9⟩
              have hb89 := hbs.trans (hb9.mono hbs.size)
              go_wp2
              show wpAny _ _ _ _ _ _ _ _
              refine any_pure [6, 7, 8] 3 (by kernel_rfl) (by kernel_rfl) (fun _ _ d _ _ h => by cases d <;> exact h) ?_
              simp only [selL, List.filterMap_cons, List.filterMap_nil, List.getElem?_cons_zero, List.getElem?_cons_succ]
              refine pureW_step (.tuple #[.agg #[.int .i64 (b 0), .int .i64 (b 1), .int .i64 (b 2)], .int .i64 0]) rfl (fun w' _ => ?_) (fun K' hK' => ?_)
              · go_simp
              go_simp
              refine hK' _ ?_
              clear hK' K'
              refine pureW_step (.agg #[.int .i64 (b 0), .int .i64 (b 1), .int .i64 (b 2)]) rfl (fun w' _ => ?_) (fun K' hK' => ?_)
              · go_simp
              go_simp
              refine hK' _ ?_
              clear hK' K'
              refine pureW_step (.int .i64 0) rfl (fun w' _ => ?_) (fun K' hK' => ?_)
              · go_simp
              go_simp
              refine hK' _ ?_
              clear hK' K'
              refine pureW_nil ?_
              obtain ⟨W2, hW2⟩ : ∃ W2, w9.alloc (.cells #[.int .i64 0, .int .i64 0, .int .i64 0] 28) = W2 := ⟨_, rfl⟩
              have hb2' : Below w9.heap.size w9 W2 := by rw [← hW2]; exact (Below.refl _ _).alloc (Nat.le_refl _) _
              have tz : Tri 28 W2 w9.heap.size (fun _ => 0) := by rw [← hW2]; exact Tri.new w9 (fun _ => 0) _
              have hb8W := hb89.trans (hb2'.mono hb89.size)
              have x0 := tz.c0
              have x1 := tz.c1
              have x2 := tz.c2
              have y0 := tz.free 0
              have y1 := tz.free 1
              have y2 := tz.free 2
              have TZ9 := Lib.hid (tz.set3 b)
              clear tz
              refine any_one (i := 9) (by kernel_rfl) rfl rfl ?_
              go_wp2
              show wpAny _ _ _ _ _ _ _ _
              refine any_tail [10, 11] (by kernel_rfl) (by kernel_rfl) ?_
              simp only [selL, List.filterMap_cons, List.filterMap_nil, List.getElem?_cons_zero, List.getElem?_cons_succ]
              clear hW2
              go_wp2
              go_meet
              exact ⟨_, rfl, rfl, TZ9.out, set3_below hb8W hb89.size _ _ _⟩
            · obtain ⟨W2, hW2⟩ : ∃ W2, ws.alloc (.cells #[.int .i64 0, .int .i64 0, .int .i64 0] 28) = W2 := ⟨_, rfl⟩
              have hb2' : Below ws.heap.size ws W2 := by rw [← hW2]; exact (Below.refl _ _).alloc (Nat.le_refl _) _
              have tz : Tri 28 W2 ws.heap.size (fun _ => 0) := by rw [← hW2]; exact Tri.new ws (fun _ => 0) _
              have hb8W := hbs.trans (hb2'.mono hbs.size)
              have TZ := Lib.hid tz
              clear tz
              go_wp2
              clear hW2
              show wpAny _ _ _ _ _ _ _ _
              refine any_one (i := 5) (by kernel_rfl) rfl rfl ?_
              go_wp2_with fail
              refine (klk.out W2 hb8W).mono ?_
              rintro e w9 ⟨rfl, hb9⟩
              have hb89 := hb8W.trans (hb9.mono hb8W.size)
              have tz := TZ.out.on hb9
              go_wp2
              show wpAny _ _ _ _ _ _ _ _
              refine any_pure [6, 7, 8] 2 (by kernel_rfl) (by kernel_rfl) (fun _ _ d _ _ h => by cases d <;> exact h) ?_
              simp only [selL, List.filterMap_cons, List.filterMap_nil, List.getElem?_cons_zero, List.getElem?_cons_succ]
              refine pureW_step (.tuple #[.agg #[.int .i64 (b 0), .int .i64 (b 1), .int .i64 (b 2)], .int .i64 0]) rfl (fun w' _ => ?_) (fun K' hK' => ?_)
              · go_simp
              go_simp
              refine hK' _ ?_
              clear hK' K'
              refine pureW_step (.agg #[.int .i64 (b 0), .int .i64 (b 1), .int .i64 (b 2)]) rfl (fun w' _ => ?_) (fun K' hK' => ?_)
              · go_simp
              go_simp
              refine hK' _ ?_
              clear hK' K'
              refine pureW_step (.int .i64 0) rfl (fun w' _ => ?_) (fun K' hK' => ?_)
              · go_simp
              go_simp
              refine hK' _ ?_
              clear hK' K'
              refine pureW_nil ?_
              refine any_tail [10, 11] (by kernel_rfl) (by kernel_rfl) ?_
              simp only [selL, List.filterMap_cons, List.filterMap_nil, List.getElem?_cons_zero, List.getElem?_cons_succ]
              have x0 := tz.c0
              have x1 := tz.c1
              have x2 := tz.c2
              have y0 := tz.free 0
              have y1 := tz.free 1
              have y2 := tz.free 2
              have TZ9 := Lib.hid (tz.set3 b)
              clear tz
              go_wp2
              go_meet
              exact ⟨_, rfl, rfl, TZ9.out, set3_below hb89 hbs.size _ _ _⟩
          case rest =>
            obtain ⟨bb, rfl, rfl, tb, hbc⟩ := hcut
            have TB := Lib.hid tb
            have TAc := Lib.hid (TA.out.on hbc)
            have HB6c := Lib.hid (HB68.out.trans (hbc.mono HB68.out.size))
            clear tb hbc r0 r1 r2 s0 s1
            go_wp2
            go_loopw [22] (fun i wr => ∃ j : Nat, j ≤ 3 ∧ i = .int .i64 j ∧ Drawn wc wr) (fun i _ => 3 - (intOf i).toNat)
            case atStart => exact ⟨0, by omega, rfl, .refl _⟩
            case round =>
              obtain ⟨j, hj, rfl, hd⟩ := hrel
              by_cases hjl : j < 3
              · have ca := (TAc.out.on (hd.below _)).cell j hjl
                have cb := (TB.out.on (hd.below _)).cell j hjl
                have b1 := HGb.out j hjl
                obtain ⟨g1', g2'⟩ := HEE.out j hjl
                have hga : gam A j = clm 0 65535 (A j) := rfl
                have hgb : 0 ≤ gam A j ∧ gam A j ≤ 65535 := InG.of A j hjl
                generalize gam A j = gj at *
                generalize A j = aj at *
                generalize b j = bj at *
                obtain ⟨X, hX⟩ : ∃ X, (if 0 > aj then 0 else aj) = X := ⟨_, rfl⟩
                have hmx : ∀ (ts : Array TypeId) (t : TypeId) (w : World), (Builtin.max_ ts t #[.int .i64 aj, .int .i64 0]).run Try.prog w = .ok (.int .i64 X) w := fun ts t w => by rw [run_max_int2, hX]
                have hmn : ∀ (ts : Array TypeId) (t : TypeId) (w : World), (Builtin.min_ ts t #[.int .i64 X, .int .i64 65535]).run Try.prog w = .ok (.int .i64 gj) w := fun ts t w => by
                  rw [run_min_int2, hga, ← hX]
                  congr 2
                  unfold clm
                  split <;> split <;> (try split) <;> omega
                have d1 : decide (257 < gj - bj) = false := decide_eq_false (by omega)
                have d2 : decide (gj - bj < -257) = false := decide_eq_false (by omega)
                have i3 : 0 ≤ (j : Int) ∧ (j : Int) < 3 := by omega
                have HD := Lib.hid hd
                clear hd hga hX g1' g2'
                go_wp2
                go_quiet (fail)
                go_wp2
                exact ⟨⟨j + 1, by omega, by go_num, HD.out.on _⟩, by simp [intOf]; omega⟩
              · obtain rfl : j = 3 := by omega
                have HB6d := Lib.hid (HB6c.out.trans ((hd.below _).mono HB6c.out.size))
                clear hd
                go_wp2
                go_roundw
                case rel => exact ⟨k + 1, by omega, by go_num, HB6d.out⟩
                case measure => simp [intOf]; omega
        · obtain rfl : k = l := by omega
          have t6 := T6.out.on hbr
          have g0 := t6.c0
          have HC7 := Lib.hid (chn_on HC6.out hbr)
          have HL7 := Lib.hid (HL6.out.on hbr)
          have hq7 := hq6.trans (hbr.mono hq6.size)
          clear t6
          by_cases hm : m = 2
          · subst hm
            go_wp2
            go_ret
            exact ⟨rfl, hq7⟩
          · obtain ⟨m', rfl⟩ : ∃ m', m = m' + 1 := ⟨m - 1, by omega⟩
            have hm' : 2 ≤ m' := by omega
            have em : (((m' + 1 : Nat) : Int)) - 1 = (m' : Int) := by omega
            have eb : ((((m' + 1 : Nat) : Int)) == 2) = false := by simp; omega
            have eb' : ((((m' : Nat) : Int) + 1) == 2) = false := by simp; omega
            have kt := Lib.hid (table_yes (m := m') (by omega) (Nat.le_refl _) HC7.out hch0 hm' (by omega))
            have q8 := (cube_bd hm' (by omega)).1
            go_wp2_with fail
            refine kt.out.mono ?_
            rintro e w8 ⟨x', rfl, hown, hb8⟩
            obtain ⟨gb', cap', rfl⟩ := own_pos hown (by omega)
            obtain ⟨w9, h9⟩ : ∃ w9, w8.alloc (.cells #[.int .i64 m', .slice (some ⟨gb', 0, none⟩) (m' * m' * m') cap'] 31) = w9 := ⟨_, rfl⟩
            have hb9 : Below w8.heap.size w8 w9 := by rw [← h9]; exact (Below.refl _ _).alloc (Nat.le_refl _) _
            have t9 : Two 31 w9 w8.heap.size (.int .i64 m') (.slice (some ⟨gb', 0, none⟩) (m' * m' * m') cap') := by rw [← h9]; exact Two.new _ _ _ _
            have hb79 : Below wr.heap.size wr w9 := hb8.trans (hb9.mono hb8.size)
            have hq9 := hq7.trans (hb79.mono hq7.size)
            have HG9 := Lib.hid ((Cls.of_own hown (Nat.le_refl _)).on hb9)
            have kw := Lib.hid (Worst_yes (w := w9) (by omega) (by omega) (Nat.le_refl _) (chn_on HC7.out hb79) hch0 (tab_grv hm' (by omega)) HG9.out (HL7.out.on hb79))
            obtain ⟨V', hV'⟩ : ∃ V', tbW S m0 L k m' = V' := ⟨_, rfl⟩
            have eW' := Lib.hid (show wstV S m0 m' (tabV S m0 m') L k = V' from hV')
            have hgt : 257 < V' := by rw [← hV']; exact HMIN.out m' hm' (by omega)
            have dV' : decide (257 < V') = true := decide_eq_true hgt
            rw [eW'.out] at kw
            have z0 := t9.c0
            have z1 := t9.c1
            clear g0 t9 hown hb8 hb9 hb79 hV' kt
            go_wp2_with fail
            refine kw.out.mono ?_
            rintro e w10 ⟨rfl, hb10⟩
            have hq10 := hq9.trans (hb10.mono hq9.size)
            clear z0 z1 h9
            go_wp2
            go_ret
            exact ⟨rfl, hq10⟩
    · obtain ⟨w5, h5⟩ : ∃ w5, w4.alloc (.cells #[.int .i64 0, .slice none 0 0] 31) = w5 := ⟨_, rfl⟩
      have hb5 : Below w4.heap.size w4 w5 := by rw [← h5]; exact (Below.refl _ _).alloc (Nat.le_refl _) _
      have t5 : Two 31 w5 w4.heap.size (.int .i64 0) (.slice none 0 0) := by rw [← h5]; exact Two.new _ _ _ _
      have x0 := t5.c0
      have x1 := t5.c1
      have y0 := t5.free 0
      have y1 := t5.free 1
      obtain ⟨w6, h6⟩ : ∃ w6, (w5.setCell ⟨w4.heap.size, 0, none⟩ (.int .i64 0)).setCell ⟨w4.heap.size, 1, none⟩ (.slice none 0 0) = w6 := ⟨_, rfl⟩
      have hb36 : Below w3.heap.size w3 w6 := by rw [← h6]; exact set2_below (hb4.trans (hb5.mono hb4.size)) hb4.size _ _
      have HALL := Lib.hid hall
      clear t5 hb4 hb5 hall
      go_wp2
      clear h5 h6 x0 x1 y0 y1
      go_loopw [10] (fun i wr => ∃ j : Nat, (j = 2 ∨ j = 7 ∨ j = 12 ∨ j = 17 ∨ j = 22) ∧ i = .int .i64 j ∧ Below w3.heap.size w3 wr) (fun i _ => 22 - (intOf i).toNat)
      case atStart => exact ⟨2, by omega, rfl, hb36⟩
      case round =>
        obtain ⟨j, hj, rfl, hbr⟩ := hrel
        by_cases hlt : j ≤ 17
        · have dj : decide ((j : Int) ≤ 17) = true := decide_eq_true (by omega)
          have HC7 := Lib.hid (chn_on HCN.out hbr)
          have HL7 := Lib.hid (HLC.out.on hbr)
          have kt := Lib.hid (table_yes (m := j) (by omega) (Nat.le_refl _) HC7.out hch0 (by omega) hlt)
          have q8 := (cube_bd (m := j) (by omega) hlt).1
          go_wp2_with fail
          refine kt.out.mono ?_
          rintro e w8 ⟨x', rfl, hown, hb8⟩
          obtain ⟨gb', cap', rfl⟩ := own_pos hown (by omega)
          obtain ⟨w9, h9⟩ : ∃ w9, w8.alloc (.cells #[.int .i64 j, .slice (some ⟨gb', 0, none⟩) (j * j * j) cap'] 31) = w9 := ⟨_, rfl⟩
          have hb9 : Below w8.heap.size w8 w9 := by rw [← h9]; exact (Below.refl _ _).alloc (Nat.le_refl _) _
          have t9 : Two 31 w9 w8.heap.size (.int .i64 j) (.slice (some ⟨gb', 0, none⟩) (j * j * j) cap') := by rw [← h9]; exact Two.new _ _ _ _
          have hb79 : Below wr.heap.size wr w9 := hb8.trans (hb9.mono hb8.size)
          have hbr9 := hbr.trans (hb79.mono hbr.size)
          have HG9 := Lib.hid ((Cls.of_own hown (Nat.le_refl _)).on hb9)
          have kw := Lib.hid (Worst_yes (w := w9) (by omega) (by omega) (Nat.le_refl _) (chn_on HC7.out hb79) hch0 (tab_grv (by omega) hlt) HG9.out (HL7.out.on hb79))
          obtain ⟨V', hV'⟩ : ∃ V', tbW S m0 L l j = V' := ⟨_, rfl⟩
          have eW' := Lib.hid (show wstV S m0 j (tabV S m0 j) L l = V' from hV')
          have hgt : 257 < V' := by rw [← hV']; exact HALL.out j (by omega) hlt
          have dV' : decide (V' ≤ 257) = false := decide_eq_false (by omega)
          rw [eW'.out] at kw
          have z0 := t9.c0
          have z1 := t9.c1
          clear t9 hown hb8 hb9 hb79 hV' kt
          go_wp2_with fail
          refine kw.out.mono ?_
          rintro e w10 ⟨rfl, hb10⟩
          have hbr10 := hbr9.trans (hb10.mono hbr9.size)
          clear z0 z1 h9
          go_wp2
          go_roundw
          case rel => exact ⟨j + 5, by omega, by go_num, hbr10⟩
          case measure => simp [intOf]; omega
        · obtain rfl : j = 22 := by omega
          go_wp2
          go_ret
          exact ⟨rfl, hq3.trans (hbr.mono hq3.size)⟩

end Go.Proofs.Ytmilljlkcbljpaa
