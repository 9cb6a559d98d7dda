/- convert. -/
import Derived.Test.YtmilljlkcbljpaaCk
namespace Go.Proofs.Ytmilljlkcbljpaa
open Go.RowKit Go.Sort

/-- A load of a whole array or struct in a region that is walked quietly. -/
theorem quiet_load {C : World → Prop} {K : Act → Prop} {a : Act} {o : Oper} {ty : TypeId} (x : Operand) (h : o.op = .load ty x) {b off : Nat} {cs : Array Value} (hx : a.eval x = .pointer (some ⟨b, off, none⟩))
    (hl : ∀ w, C w → (loadVar ty ⟨b, off, none⟩).run Try.prog w = .ok (.agg cs) w) (hk : K (a.put o.dst (.agg cs))) : o.quiet Try.prog a C K :=
  ⟨_, fun w hw => by
    unfold Oper.quietAt execOp
    simp only [h, hx, Instr.loadAt, Instr.sureAddr, Sem.run_bind, Sem.run_pure, Result.andThen_ok, hl w hw]
    exact ⟨rfl, rfl⟩, hk⟩

theorem Crv.mono {w : World} {B B' : Nat} {v : Nat → Value} {n : Nat → Nat} {f : Nat → Nat → Int} (h : Crv w B v n f) (hB : B ≤ B') : Crv w B' v n f := fun i hi => ⟨(h i hi).1, (h i hi).2.mono hB⟩
noncomputable def Sp.to (s : Sp) (c : Nat → Int) : Nat → Int := toV s.n s.f s.t c
noncomputable def Sp.fr (s : Sp) (c : Nat → Int) : Nat → Int := fromV s.n s.f s.m c
theorem Sp.spv {s : Sp} (h : s.val = true) : SpV s.n s.f s.t s.m := of_spB h
theorem Sp.to_any {s : Sp} {c : Nat → Int} {B : Nat} {w : World} (hB : B ≤ w.heap.size) (hs : s.ok w B) (hv : s.val = true) :
    Calls Try.prog 66 #[.agg s.cells, col c] w fun e w' => e = .returned (col (s.to c)) ∧ Below w.heap.size w w' :=
  Go.Proofs.Ytmilljlkcbljpaa.to_any (v := s.v) (m := s.m) (Crv.mono hs hB) (Sp.spv hv).2.1
theorem Sp.from_any {s : Sp} {c : Nat → Int} {B : Nat} {w : World} (hB : B ≤ w.heap.size) (hs : s.ok w B) (hv : s.val = true) :
    Calls Try.prog 68 #[.agg s.cells, col c] w fun e w' => e = .returned (col (s.fr c)) ∧ Below w.heap.size w w' :=
  Go.Proofs.Ytmilljlkcbljpaa.from_any (v := s.v) (t := s.t) (Crv.mono hs hB) (Sp.spv hv).2.2.1

/-- A colour after k steps along a chain. -/
noncomputable def cnv (S : Nat → Sp) (c : Nat → Int) : Nat → Nat → Int
  | 0 => c
  | k + 1 => (S (k + 1)).fr ((S k).to (cnv S c k))

theorem Chn.cells {w : World} {B n : Nat} {v : Value} {S : Nat → Sp} (h : Chn w B v n S) (hn : 1 ≤ n) : ∃ b off cap, v = .slice (some ⟨b, off, none⟩) n cap ∧ b < B ∧ SpCells w b off n S := h.at hn

set_option maxRecDepth 100000 in
set_option maxHeartbeats 4000000 in
theorem convert_some {n b off cap B : Nat} {S : Nat → Sp} {c : Nat → Int} {w : World} (hn1 : 1 ≤ n) (hn : n ≤ 4096) (hB : B ≤ w.heap.size) (hb : b < B) (hc : SpCells w b off n S) (hok : ∀ k, k < n → (S k).ok w B) (hv : ∀ k, k < n → (S k).val = true) :
    Calls Try.prog 52 #[.slice (some ⟨b, off, none⟩) n cap, col c] w fun e w' => e = .returned (col (cnv S c (n - 1))) ∧ Below w.heap.size w w' := by
  obtain ⟨w0, h0, hb0, hz, t1, t2⟩ := gamut_new w c 28
  have T1 := Lib.hid t1
  have T2 := Lib.hid t2
  have Z := Lib.hid hz
  have HC := Lib.hid hc
  have HOK := Lib.hid hok
  have HV := Lib.hid hv
  clear t1 t2 hz hc hok hv
  unfold col
  go_enter Try.func52, Try.ntmps52
  go_wp2
  clear h0
  go_loopw [5] (fun i wr => ∃ k : Nat, k < n ∧ i = .int .i64 ((k : Int) + 1) ∧ Tri 28 wr w.heap.size (cnv S c k) ∧ Tri 28 wr (w.heap.size + 1) (fun _ => 0) ∧ Below w.heap.size w wr) (fun i _ => n - (intOf i).toNat)
  case atStart => exact ⟨0, by omega, rfl, T1.out, T2.out, hb0⟩
  case round =>
    obtain ⟨k, hk, rfl, t1, t2, hq⟩ := hrel
    by_cases hlt : k + 1 < n
    · have hBw := Nat.le_trans hB hq.size
      have kt := Lib.hid (Calls.grown_of (w := wr) (f := 66) fun W hW => Sp.to_any (s := S k) (c := cnv S c k) (w := W) (Nat.le_trans hBw hW.size) ((HOK.out k hk).below (hq.trans (hW.mono hq.size)) hB) (HV.out k hk))
      have kf := Lib.hid (Calls.grown_of (w := wr) (f := 68) fun W hW => Sp.from_any (s := S (k + 1)) (c := (S k).to (cnv S c k)) (w := W) (Nat.le_trans hBw hW.size) ((HOK.out (k + 1) hlt).below (hq.trans (hW.mono hq.size)) hB) (HV.out (k + 1) hlt))
      have hl1 : ∀ w', (∃ p : Regrown, w' = grow (redrawn wr p.d) p.os) → (loadVar 63 ⟨b, off + k * 21, none⟩).run Try.prog w' = .ok (.agg (S k).cells) w' := fun w' hw' => Sp.load (s := S k) (HC.out.below (hq.trans ((below_of_regrown hw').mono hq.size)) (by omega) k hk)
      have hl2 : ∀ w', (∃ p : Regrown, w' = grow (redrawn wr p.d) p.os) → (loadVar 63 ⟨b, off + (k + 1) * 21, none⟩).run Try.prog w' = .ok (.agg (S (k + 1)).cells) w' := fun w' hw' => Sp.load (s := S (k + 1)) (HC.out.below (hq.trans ((below_of_regrown hw').mono hq.size)) (by omega) (k + 1) hlt)
      have L1 := Lib.hid hl1
      have L2 := Lib.hid hl2
      have d0 := cell_regrown t1.c0
      have d1 := cell_regrown t1.c1
      have d2 := cell_regrown t1.c2
      have P1 := Lib.hid t1
      have P2 := Lib.hid t2
      have i1 : 0 ≤ (k : Int) ∧ (k : Int) < n := by omega
      have i2 : 0 ≤ (k : Int) + 1 ∧ (k : Int) + 1 < n := by omega
      have w1 : IntKind.i64.wrap (k : Int) = k := IntWalk.i64_in _ (by omega)
      have dl : decide ((k : Int) + 1 < n) = true := decide_eq_true (by omega)
      unfold col at kt kf
      clear hl1 hl2 t1 t2
      go_wp2
      refine region_below_tail 12 (by kernel_rfl) (by kernel_rfl) ?_
      simp only [List.take_succ_cons, List.take_zero, List.drop_succ_cons, List.drop_zero]
      repeat (first | (go_big_quiet_want; refine quiet_load _ rfl rfl L1.out ?_; go_simp; go_big_quiet_on) | (go_big_quiet_want; refine quiet_load _ rfl rfl L2.out ?_; go_simp; go_big_quiet_on) | go_big_quiet_step ((first | exact kt.out _ _ | exact kf.out _ _)))
      refine wpQuiet_nil ?_
      intro w2 hw2
      replace hw2 := below_of_regrown hw2
      have u1 := P1.out.on hw2
      have x0 := u1.c0
      have x1 := u1.c1
      have x2 := u1.c2
      have y0 := u1.free 0
      have y1 := u1.free 1
      have y2 := u1.free 2
      have U1 := Lib.hid (u1.set3 ((S (k + 1)).fr ((S k).to (cnv S c k))))
      have U2 := Lib.hid (P2.out.on hw2)
      have hq2 := hq.trans (hw2.mono hq.size)
      clear u1 hw2 d0 d1 d2 w1 dl
      go_wp2
      go_roundw
      case rel => exact ⟨k + 1, hlt, by go_num, U1.out, ((U2.out.keep (by omega)).keep (by omega)).keep (by omega), set3_below hq2 (by omega) _ _ _⟩
      case measure => simp [intOf]; omega
    · obtain rfl : n = k + 1 := by omega
      have x0 := t1.c0
      have x1 := t1.c1
      have x2 := t1.c2
      have z0 := t2.c0
      have z1 := t2.c1
      have z2 := t2.c2
      have y0 := t2.free 0
      have y1 := t2.free 1
      have y2 := t2.free 2
      clear t1 t2
      go_wp2
      refine bodyPost_ret (v := .agg #[.int .i64 (cnv S c k 0), .int .i64 (cnv S c k 1), .int .i64 (cnv S c k 2)]) (by simp [results, Try.results52, go_sem, *]) rfl ?_
      exact ⟨rfl, set3_below hq (by simp) _ _ _⟩

theorem convert_any {n B : Nat} {v : Value} {S : Nat → Sp} {c : Nat → Int} {w : World} (hn1 : 1 ≤ n) (hn : n ≤ 4096) (hB : B ≤ w.heap.size) (hc : Chn w B v n S) (hv : ∀ k, k < n → (S k).val = true) :
    Calls Try.prog 52 #[v, col c] w fun e w' => e = .returned (col (cnv S c (n - 1))) ∧ Below w.heap.size w w' := by
  obtain ⟨b, off, cap, rfl, hb, hcs⟩ := hc.at hn1
  exact convert_some hn1 hn hB hb hcs hc.1 hv

end Go.Proofs.Ytmilljlkcbljpaa
