/- Texts of this proof, one behind another: Tm. -/
import Derived.Test.YtmilljlkcbljpaaV9
/- The statement ColourTables, walked. -/
namespace Go.Proofs.Ytmilljlkcbljpaa
open Go.RowKit Go.Sort

set_option maxRecDepth 100000 in
set_option maxHeartbeats 8000000 in
theorem colourTables_walk {n0 : Nat} {v0 : Value} {f0 : Nat → Int} {a1 : Int} {c2 : Nat → Int} {w : World} (hn0 : n0 ≤ 9223372036854775807) (hs0 : Sl w w.heap.size v0 n0 f0) :
    Calls Try.prog 5 #[v0, .int .i64 a1, col c2] w fun e w' => e = .returned (.bool true) ∧ Below w.heap.size w w' := by
  obtain ⟨aq, cq, rfl⟩ := hs0.shape
  have HS := Lib.hid hs0
  obtain ⟨w0, h0⟩ : ∃ w0, w.alloc (.cells #[.int .i64 (c2 0), .int .i64 (c2 1), .int .i64 (c2 2)] 28) = w0 := ⟨_, rfl⟩
  have tc : Tri 28 w0 w.heap.size c2 := by rw [← h0]; exact Tri.new w c2 _
  have hq0 : Below w.heap.size w w0 := by rw [← h0]; exact (Below.refl _ _).alloc (Nat.le_refl _) _
  have TC0 := Lib.hid tc
  clear hs0 tc
  unfold col
  go_enter Try.func5, Try.ntmps5
  go_wp2_with fail
  refine (sanity_any w0).mono ?_
  rintro e w1 ⟨rfl, hb1⟩
  have hq1 := hq0.trans (hb1.mono hq0.size)
  have TC1 := Lib.hid (TC0.out.on hb1)
  clear h0
  go_wp2_with fail
  refine (refChain_any (B := w.heap.size) (by omega) hq1.size (HS.out.below hq1 (Nat.le_refl _))).mono ?_
  rintro e w2 ⟨xc, vs, rfl, hch, hb2⟩
  have hq2 := hq1.trans (hb2.mono hq1.size)
  have TC2 := Lib.hid (TC1.out.on hb2)
  obtain ⟨n, hn⟩ : ∃ n, min n0 5 = n := ⟨_, rfl⟩
  have hn5 : n ≤ 5 := by omega
  rw [hn] at hch
  obtain ⟨S, hS⟩ : ∃ S : Nat → Sp, (fun j => Sq (vs j) (f0 j)) = S := ⟨_, rfl⟩
  have hchn := hch.chn
  rw [hS] at hchn
  have HC2 := Lib.hid hchn
  have shc := hchn.shape
  clear hch hS hn hchn
  obtain ⟨ac, cc, rfl⟩ := shc
  go_wp2_with fail
  refine (rest_any (n := 7) (by omega) (by omega)).mono ?_
  rintro e w2' ⟨⟨k7, hk7, _, rfl⟩, rfl⟩
  obtain ⟨s1, hs1⟩ : ∃ s1 : Int, s1 = (k7 : Int) := ⟨_, rfl⟩
  rw [← hs1]
  clear hs1
  obtain ⟨w3, h3⟩ : ∃ w3, w2.alloc (.cells #[.int .i64 a1, .int .i64 s1] 51) = w3 := ⟨_, rfl⟩
  have t3 : Two 51 w3 w2.heap.size (.int .i64 a1) (.int .i64 s1) := by rw [← h3]; exact Two.new w2 _ _ _
  have hb3 : Below w2.heap.size w2 w3 := by rw [← h3]; exact (Below.refl _ _).alloc (Nat.le_refl _) _
  have hq3 := hq2.trans (hb3.mono hq2.size)
  have TC3 := Lib.hid (TC2.out.on hb3)
  have HC3 := Lib.hid (chn_on HC2.out hb3)
  have T3 := Lib.hid t3
  have HB3 := Lib.hid hb3
  clear t3 hb3
  by_cases h6 : 6 < a1
  · have d6 : decide (6 < a1) = true := decide_eq_true h6
    obtain ⟨s0, hs0⟩ : ∃ s0, bits .or .i64 a1 1048576 = s0 := ⟨_, rfl⟩
    obtain ⟨w4, h4⟩ : ∃ w4, w3.setCell ⟨w2.heap.size, 0, none⟩ (.int .i64 s0) = w4 := ⟨_, rfl⟩
    have hb4 : Below w2.heap.size w2 w4 := by rw [← h4]; exact HB3.out.setCell (p := ⟨w2.heap.size, 0, none⟩) (Nat.le_refl _) _
    have T4 : Hid (Two 51 w4 w2.heap.size (.int .i64 s0) (.int .i64 s1)) := Lib.hid (by rw [← h4]; exact T3.out.set0 _)
    have f3 := T3.out.free 0
    have c3 := T3.out.c0
    have TC4 := Lib.hid (TC2.out.on hb4)
    have HC4 := Lib.hid (chn_on HC2.out hb4)
    have hq4 := hq2.trans (hb4.mono hq2.size)
    clear T3 TC3 HC3 h6 hb4 HB3
    go_wp2
    clear h3 h4 f3 c3 hs0
    go_loopw [10] (fun i wr => ∃ k : Nat, k ≤ 2 ∧ i = .int .i64 k ∧ Two 51 wr w2.heap.size (.int .i64 s0) (.int .i64 s1) ∧ Tri 28 wr w.heap.size c2 ∧ Chn wr wr.heap.size (.slice ac n cc) n S ∧ Below w.heap.size w wr) (fun i _ => 2 - (intOf i).toNat)
    case atStart => exact ⟨0, by omega, rfl, T4.out, TC4.out, HC4.out, hq4⟩
    case round =>
      obtain ⟨k, hk, rfl, t9, tc, hch, hq⟩ := hrel
      by_cases hlt : k < 2
      · obtain ⟨s, hs⟩ : ∃ s : Int, ∀ W, Two 51 W w2.heap.size (.int .i64 s0) (.int .i64 s1) → W.cell? ⟨w2.heap.size, k, none⟩ = some (.int .i64 s) := by
          obtain rfl | rfl : k = 0 ∨ k = 1 := by omega
          · exact ⟨s0, fun W h => h.c0⟩
          · exact ⟨s1, fun W h => h.c1⟩
        have cs := hs wr t9
        have HSZ := Lib.hid hs
        have i2 : 0 ≤ (k : Int) ∧ (k : Int) < 2 := by omega
        obtain ⟨N, E, hN, hTB⟩ := tables_both n S s
        have kt := Lib.hid (hTB (w := wr) (by omega) (Nat.le_refl _) hch).1
        have HTB := Lib.hid (fun (W : World) (h : Chn W W.heap.size (.slice ac n cc) n S) => (hTB (w := W) (by omega) (Nat.le_refl _) h).2)
        have T9 := Lib.hid t9
        have TC := Lib.hid tc
        have HCH := Lib.hid hch
        obtain ⟨M, hM⟩ : ∃ M, N * N * N = M := ⟨_, rfl⟩
        have hM5 : M ≤ 4913 := by
          have h1 : N * N ≤ 17 * 17 := Nat.mul_le_mul hN hN
          have h2 : N * N * N ≤ 17 * 17 * 17 := Nat.mul_le_mul h1 hN
          omega
        obtain ⟨G, hG⟩ : ∃ G, tabV S n N = G := ⟨_, rfl⟩
        rw [hM, hG] at kt HTB
        clear hs hTB t9 tc hch hM hG
        go_wp2_with fail
        refine kt.out.mono ?_
        rintro e wa ⟨x, rfl, hcl, hba⟩
        obtain ⟨ax, cx, rfl⟩ := hcl.shape
        obtain ⟨wb, hwb⟩ : ∃ wb, wa.alloc (.cells #[.int .i64 N, .slice ax M cx] 31) = wb := ⟨_, rfl⟩
        have tg : Two 31 wb wa.heap.size (.int .i64 N) (.slice ax M cx) := by rw [← hwb]; exact Two.new wa _ _ _
        have hbb : Below wa.heap.size wa wb := by rw [← hwb]; exact (Below.refl _ _).alloc (Nat.le_refl _) _
        have hbr : Below wr.heap.size wr wb := hba.trans (hbb.mono hba.size)
        have hqb := hq.trans (hbr.mono hq.size)
        have TG := Lib.hid tg
        have HG := Lib.hid (hcl.on hbb)
        have T9b := Lib.hid (T9.out.on hbr)
        have TCb := Lib.hid (TC.out.on hbr)
        have HCb := Lib.hid (chn_on HCH.out hbr)
        have cs' := HSZ.out wb T9b.out
        have kr := Lib.hid (HTB.out wb HCb.out)
        clear tg hcl hba hbb hbr cs kt HTB T9 TC HCH
        go_wp2_with fail
        clear hwb
        refine kr.out.mono ?_
        rintro e wc ⟨y, rfl, hcy, hbc⟩
        obtain ⟨ay, cy, rfl⟩ := hcy.shape
        obtain ⟨wd, hwd, hbd, to0⟩ := gox_new wc
        have TO := Lib.hid to0
        have hbcd := hbc.trans (hbd.mono hbc.size)
        have HY := Lib.hid hcy
        have HBD := Lib.hid hbd
        have eE : (E != E) = false := by simp
        clear to0 hcy hbd cs' kr
        go_wp2_with (refine list_store (cs := gotA (fun _ => 0) N (.slice ay M cy) 0 (fun _ => 0) E) rfl 36 (.tmp 13) (.tmp 46) (by rfl) (by rfl) (by rfl) TO.out info_got rfl (gotA_one _ _ _ _ _ _ _ _) ?_; intro we h4 hx; have g4 : Gob we wc.heap.size _ := h4; have hbe := Exc.below hbcd hx hbc.size hbcd.size; have hbce := Exc.below HBD.out hx (Nat.le_refl _) HBD.out.size; have HYe := Lib.hid ((HY.out.below hbce (Nat.le_refl _)).mono hbce.size); have G4 := Lib.hid g4; clear h4 hwd hx; have TGe := Lib.hid (TG.out.on hbe); have HGe := Lib.hid (HG.out.on hbe); have TCe := Lib.hid (TCb.out.on hbe); have T9e := Lib.hid (T9b.out.on hbe); have HCe := Lib.hid (chn_on HCb.out hbe); have hqe := hqb.trans (hbe.mono hqb.size); have g0 := TGe.out.c0; have g1 := TGe.out.c1; obtain ⟨g2, g3⟩ := g4.grid; clear g4 hbe hbce)
        have ks := Lib.hid (refSame_any (N := N) (w := we) (by omega) (Nat.le_refl _) HGe.out HYe.out)
        refine ks.out.mono ?_
        rintro e wf ⟨rfl, hbf⟩
        have TGf := Lib.hid (TGe.out.on hbf)
        have HGf := Lib.hid (HGe.out.on hbf)
        have HYf := Lib.hid (HYe.out.on hbf)
        have G4f := Lib.hid (G4.out.on hbf)
        have TCf := Lib.hid (TCe.out.on hbf)
        have T9f := Lib.hid (T9e.out.on hbf)
        have HCf := Lib.hid (chn_on HCe.out hbf)
        have hqf := hqe.trans (hbf.mono hqe.size)
        clear g0 g1 g2 g3 ks
        have g0 := TGf.out.c0
        have g1 := TGf.out.c1
        have g10 := G4f.out.err
        have d0 := TCf.out.c0
        have d1 := TCf.out.c1
        have d2 := TCf.out.c2
        obtain ⟨lv, F, hLB⟩ := looks_both' N M G
        have kl := Lib.hid (hLB (c := c2) (w := wf) (by omega) (Nat.le_refl _) HGf.out).1
        have HLB := Lib.hid (fun (W : World) (h : Cls W W.heap.size (.slice ay M cy) M G) => (hLB (c := c2) (w := W) (by omega) (Nat.le_refl _) h).2)
        obtain ⟨Y, hY⟩ : ∃ Y, lv c2 = Y := ⟨_, rfl⟩
        rw [hY] at kl HLB
        unfold col at kl HLB
        clear hY hLB
        go_wp2_with fail
        refine kl.out.mono ?_
        rintro e wg ⟨rfl, hbg⟩
        obtain ⟨wh, hwh⟩ : ∃ wh, wg.alloc (.cells #[.int .i64 (Y 0), .int .i64 (Y 1), .int .i64 (Y 2)] 28) = wh := ⟨_, rfl⟩
        have ta : Tri 28 wh wg.heap.size Y := by rw [← hwh]; exact Tri.new wg Y _
        have hbh : Below wg.heap.size wg wh := by rw [← hwh]; exact (Below.refl _ _).alloc (Nat.le_refl _) _
        have hbfh : Below wf.heap.size wf wh := hbg.trans (hbh.mono hbg.size)
        have TA := Lib.hid ta
        have HYh := Lib.hid (HYf.out.on hbfh)
        have G4h := Lib.hid (G4f.out.on hbfh)
        have TCh := Lib.hid (TCf.out.on hbfh)
        have T9h := Lib.hid (T9f.out.on hbfh)
        have HCh := Lib.hid (chn_on HCf.out hbfh)
        have hqh := hqf.trans (hbfh.mono hqf.size)
        have kr := Lib.hid (HLB.out wh HYh.out)
        clear g0 g1 g10 d0 d1 d2 kl HLB ta hbh hbfh
        obtain ⟨g2, g3⟩ := G4h.out.grid
        have d0 := TCh.out.c0
        have d1 := TCh.out.c1
        have d2 := TCh.out.c2
        go_wp2_with fail
        clear hwh
        refine kr.out.mono ?_
        rintro e wi ⟨rfl, hbi⟩
        obtain ⟨wj, hwj, hbj, to1⟩ := gox_new wi
        have TO1 := Lib.hid to1
        have hbij := hbi.trans (hbj.mono hbi.size)
        have eF : (F != F) = false := by simp
        have qn := neq_self Y
        clear to1 hbj g2 g3 d0 d1 d2 kr
        go_wp2_with (refine list_store (cs := gotA Y 0 (.slice none 0 0) 0 (fun _ => 0) F) rfl 36 (.tmp 17) (.tmp 68) (by rfl) (by rfl) (by rfl) TO1.out info_got rfl (gotA_one _ _ _ _ _ _ _ _) ?_; intro wk h4 hx; have g5 : Gob wk wi.heap.size _ := h4; have hbk := Exc.below hbij hx hbi.size hbij.size; clear h4 hwj hx; have TAk := TA.out.on hbk; have TCk := Lib.hid (TCh.out.on hbk); have T9k := Lib.hid (T9h.out.on hbk); have HCk := Lib.hid (chn_on HCh.out hbk); have hqk := hqh.trans (hbk.mono hqh.size); have a0 := TAk.c0; have a1' := TAk.c1; have a2 := TAk.c2; obtain ⟨b0, b1, b2⟩ := g5.col; have b10 := g5.err; clear g5 hbk TAk)
        go_roundw
        case rel => exact ⟨k + 1, by omega, by go_num, T9k.out, TCk.out, HCk.out, hqk⟩
        case measure => simp [intOf]; omega
      · obtain rfl : k = 2 := by omega
        clear t9 tc hch
        go_wp2
        go_ret
        exact ⟨rfl, hq⟩
  · have d6 : decide (6 < a1) = false := decide_eq_false h6
    obtain ⟨s0, hs0⟩ : ∃ s0, s0 = a1 := ⟨_, rfl⟩
    have T4 : Hid (Two 51 w3 w2.heap.size (.int .i64 s0) (.int .i64 s1)) := Lib.hid (by rw [hs0]; exact T3.out)
    have TC4 := TC3
    have HC4 := HC3
    have hq4 := hq3
    clear hs0 T3 TC3 HC3 h6
    go_wp2
    clear h3
    go_loopw [10] (fun i wr => ∃ k : Nat, k ≤ 2 ∧ i = .int .i64 k ∧ Two 51 wr w2.heap.size (.int .i64 s0) (.int .i64 s1) ∧ Tri 28 wr w.heap.size c2 ∧ Chn wr wr.heap.size (.slice ac n cc) n S ∧ Below w.heap.size w wr) (fun i _ => 2 - (intOf i).toNat)
    case atStart => exact ⟨0, by omega, rfl, T4.out, TC4.out, HC4.out, hq4⟩
    case round =>
      obtain ⟨k, hk, rfl, t9, tc, hch, hq⟩ := hrel
      by_cases hlt : k < 2
      · obtain ⟨s, hs⟩ : ∃ s : Int, ∀ W, Two 51 W w2.heap.size (.int .i64 s0) (.int .i64 s1) → W.cell? ⟨w2.heap.size, k, none⟩ = some (.int .i64 s) := by
          obtain rfl | rfl : k = 0 ∨ k = 1 := by omega
          · exact ⟨s0, fun W h => h.c0⟩
          · exact ⟨s1, fun W h => h.c1⟩
        have cs := hs wr t9
        have HSZ := Lib.hid hs
        have i2 : 0 ≤ (k : Int) ∧ (k : Int) < 2 := by omega
        obtain ⟨N, E, hN, hTB⟩ := tables_both n S s
        have kt := Lib.hid (hTB (w := wr) (by omega) (Nat.le_refl _) hch).1
        have HTB := Lib.hid (fun (W : World) (h : Chn W W.heap.size (.slice ac n cc) n S) => (hTB (w := W) (by omega) (Nat.le_refl _) h).2)
        have T9 := Lib.hid t9
        have TC := Lib.hid tc
        have HCH := Lib.hid hch
        obtain ⟨M, hM⟩ : ∃ M, N * N * N = M := ⟨_, rfl⟩
        have hM5 : M ≤ 4913 := by
          have h1 : N * N ≤ 17 * 17 := Nat.mul_le_mul hN hN
          have h2 : N * N * N ≤ 17 * 17 * 17 := Nat.mul_le_mul h1 hN
          omega
        obtain ⟨G, hG⟩ : ∃ G, tabV S n N = G := ⟨_, rfl⟩
        rw [hM, hG] at kt HTB
        clear hs hTB t9 tc hch hM hG
        go_wp2_with fail
        refine kt.out.mono ?_
        rintro e wa ⟨x, rfl, hcl, hba⟩
        obtain ⟨ax, cx, rfl⟩ := hcl.shape
        obtain ⟨wb, hwb⟩ : ∃ wb, wa.alloc (.cells #[.int .i64 N, .slice ax M cx] 31) = wb := ⟨_, rfl⟩
        have tg : Two 31 wb wa.heap.size (.int .i64 N) (.slice ax M cx) := by rw [← hwb]; exact Two.new wa _ _ _
        have hbb : Below wa.heap.size wa wb := by rw [← hwb]; exact (Below.refl _ _).alloc (Nat.le_refl _) _
        have hbr : Below wr.heap.size wr wb := hba.trans (hbb.mono hba.size)
        have hqb := hq.trans (hbr.mono hq.size)
        have TG := Lib.hid tg
        have HG := Lib.hid (hcl.on hbb)
        have T9b := Lib.hid (T9.out.on hbr)
        have TCb := Lib.hid (TC.out.on hbr)
        have HCb := Lib.hid (chn_on HCH.out hbr)
        have cs' := HSZ.out wb T9b.out
        have kr := Lib.hid (HTB.out wb HCb.out)
        clear tg hcl hba hbb hbr cs kt HTB T9 TC HCH
        go_wp2_with fail
        clear hwb
        refine kr.out.mono ?_
        rintro e wc ⟨y, rfl, hcy, hbc⟩
        obtain ⟨ay, cy, rfl⟩ := hcy.shape
        obtain ⟨wd, hwd, hbd, to0⟩ := gox_new wc
        have TO := Lib.hid to0
        have hbcd := hbc.trans (hbd.mono hbc.size)
        have HY := Lib.hid hcy
        have HBD := Lib.hid hbd
        have eE : (E != E) = false := by simp
        clear to0 hcy hbd cs' kr
        go_wp2_with (refine list_store (cs := gotA (fun _ => 0) N (.slice ay M cy) 0 (fun _ => 0) E) rfl 36 (.tmp 13) (.tmp 46) (by rfl) (by rfl) (by rfl) TO.out info_got rfl (gotA_one _ _ _ _ _ _ _ _) ?_; intro we h4 hx; have g4 : Gob we wc.heap.size _ := h4; have hbe := Exc.below hbcd hx hbc.size hbcd.size; have hbce := Exc.below HBD.out hx (Nat.le_refl _) HBD.out.size; have HYe := Lib.hid ((HY.out.below hbce (Nat.le_refl _)).mono hbce.size); have G4 := Lib.hid g4; clear h4 hwd hx; have TGe := Lib.hid (TG.out.on hbe); have HGe := Lib.hid (HG.out.on hbe); have TCe := Lib.hid (TCb.out.on hbe); have T9e := Lib.hid (T9b.out.on hbe); have HCe := Lib.hid (chn_on HCb.out hbe); have hqe := hqb.trans (hbe.mono hqb.size); have g0 := TGe.out.c0; have g1 := TGe.out.c1; obtain ⟨g2, g3⟩ := g4.grid; clear g4 hbe hbce)
        have ks := Lib.hid (refSame_any (N := N) (w := we) (by omega) (Nat.le_refl _) HGe.out HYe.out)
        refine ks.out.mono ?_
        rintro e wf ⟨rfl, hbf⟩
        have TGf := Lib.hid (TGe.out.on hbf)
        have HGf := Lib.hid (HGe.out.on hbf)
        have HYf := Lib.hid (HYe.out.on hbf)
        have G4f := Lib.hid (G4.out.on hbf)
        have TCf := Lib.hid (TCe.out.on hbf)
        have T9f := Lib.hid (T9e.out.on hbf)
        have HCf := Lib.hid (chn_on HCe.out hbf)
        have hqf := hqe.trans (hbf.mono hqe.size)
        clear g0 g1 g2 g3 ks
        have g0 := TGf.out.c0
        have g1 := TGf.out.c1
        have g10 := G4f.out.err
        have d0 := TCf.out.c0
        have d1 := TCf.out.c1
        have d2 := TCf.out.c2
        obtain ⟨lv, F, hLB⟩ := looks_both' N M G
        have kl := Lib.hid (hLB (c := c2) (w := wf) (by omega) (Nat.le_refl _) HGf.out).1
        have HLB := Lib.hid (fun (W : World) (h : Cls W W.heap.size (.slice ay M cy) M G) => (hLB (c := c2) (w := W) (by omega) (Nat.le_refl _) h).2)
        obtain ⟨Y, hY⟩ : ∃ Y, lv c2 = Y := ⟨_, rfl⟩
        rw [hY] at kl HLB
        unfold col at kl HLB
        clear hY hLB
        go_wp2_with fail
        refine kl.out.mono ?_
        rintro e wg ⟨rfl, hbg⟩
        obtain ⟨wh, hwh⟩ : ∃ wh, wg.alloc (.cells #[.int .i64 (Y 0), .int .i64 (Y 1), .int .i64 (Y 2)] 28) = wh := ⟨_, rfl⟩
        have ta : Tri 28 wh wg.heap.size Y := by rw [← hwh]; exact Tri.new wg Y _
        have hbh : Below wg.heap.size wg wh := by rw [← hwh]; exact (Below.refl _ _).alloc (Nat.le_refl _) _
        have hbfh : Below wf.heap.size wf wh := hbg.trans (hbh.mono hbg.size)
        have TA := Lib.hid ta
        have HYh := Lib.hid (HYf.out.on hbfh)
        have G4h := Lib.hid (G4f.out.on hbfh)
        have TCh := Lib.hid (TCf.out.on hbfh)
        have T9h := Lib.hid (T9f.out.on hbfh)
        have HCh := Lib.hid (chn_on HCf.out hbfh)
        have hqh := hqf.trans (hbfh.mono hqf.size)
        have kr := Lib.hid (HLB.out wh HYh.out)
        clear g0 g1 g10 d0 d1 d2 kl HLB ta hbh hbfh
        obtain ⟨g2, g3⟩ := G4h.out.grid
        have d0 := TCh.out.c0
        have d1 := TCh.out.c1
        have d2 := TCh.out.c2
        go_wp2_with fail
        clear hwh
        refine kr.out.mono ?_
        rintro e wi ⟨rfl, hbi⟩
        obtain ⟨wj, hwj, hbj, to1⟩ := gox_new wi
        have TO1 := Lib.hid to1
        have hbij := hbi.trans (hbj.mono hbi.size)
        have eF : (F != F) = false := by simp
        have qn := neq_self Y
        clear to1 hbj g2 g3 d0 d1 d2 kr
        go_wp2_with (refine list_store (cs := gotA Y 0 (.slice none 0 0) 0 (fun _ => 0) F) rfl 36 (.tmp 17) (.tmp 68) (by rfl) (by rfl) (by rfl) TO1.out info_got rfl (gotA_one _ _ _ _ _ _ _ _) ?_; intro wk h4 hx; have g5 : Gob wk wi.heap.size _ := h4; have hbk := Exc.below hbij hx hbi.size hbij.size; clear h4 hwj hx; have TAk := TA.out.on hbk; have TCk := Lib.hid (TCh.out.on hbk); have T9k := Lib.hid (T9h.out.on hbk); have HCk := Lib.hid (chn_on HCh.out hbk); have hqk := hqh.trans (hbk.mono hqh.size); have a0 := TAk.c0; have a1' := TAk.c1; have a2 := TAk.c2; obtain ⟨b0, b1, b2⟩ := g5.col; have b10 := g5.err; clear g5 hbk TAk)
        go_roundw
        case rel => exact ⟨k + 1, by omega, by go_num, T9k.out, TCk.out, HCk.out, hqk⟩
        case measure => simp [intOf]; omega
      · obtain rfl : k = 2 := by omega
        clear t9 tc hch
        go_wp2
        go_ret
        exact ⟨rfl, hq⟩

end Go.Proofs.Ytmilljlkcbljpaa
