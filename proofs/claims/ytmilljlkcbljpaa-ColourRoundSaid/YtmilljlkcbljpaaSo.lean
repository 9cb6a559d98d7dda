/- The axes, sorted. -/
import Derived.Test.YtmilljlkcbljpaaGv
import Derived.Test.YtmilljlkcbljpaaQw
import Derived.RegionTactic
import Derived.ChangeAlike
import Derived.BigRegion
namespace Go.Proofs.Ytmilljlkcbljpaa
open Go.RowKit Go.Sort

/-- Three axes, as numbers. -/
def axs (y : Nat → Nat) (k : Nat) : Int := (y k : Nat)
def AxOk (y : Nat → Nat) : Prop := ∀ k, k < 3 → y k < 3
def swp (y : Nat → Nat) (j k : Nat) : Nat := if k = j then y (j - 1) else if k = j - 1 then y j else y k
theorem AxOk.swp {y : Nat → Nat} (h : AxOk y) {j : Nat} (hj : j < 3) : AxOk (swp y j) := fun k hk => by
  unfold Go.Proofs.Ytmilljlkcbljpaa.swp
  split
  · exact h _ (by omega)
  · split
    · exact h _ hj
    · exact h _ hk
/-- An axis moved down to its place. -/
def sft (o : Nat → Int) (y : Nat → Nat) : Nat → (Nat → Nat)
  | 0 => y
  | j + 1 => if o (y j) < o (y (j + 1)) then sft o (swp y (j + 1)) j else y
theorem sft_t {o : Nat → Int} {y : Nat → Nat} {j : Nat} (h : o (y j) < o (y (j + 1))) : sft o y (j + 1) = sft o (swp y (j + 1)) j := by rw [sft, if_pos h]
theorem sft_f {o : Nat → Int} {y : Nat → Nat} {j : Nat} (h : ¬ o (y j) < o (y (j + 1))) : sft o y (j + 1) = y := by rw [sft, if_neg h]
theorem AxOk.sft {o : Nat → Int} : ∀ {j : Nat} {y : Nat → Nat}, AxOk y → j < 3 → AxOk (sft o y j)
  | 0, _, h, _ => h
  | j + 1, y, h, hj => by
    unfold Go.Proofs.Ytmilljlkcbljpaa.sft
    split
    · exact AxOk.sft (h.swp hj) (by omega)
    · exact h
/-- The axes after i rounds. -/
def srt (o : Nat → Int) (y : Nat → Nat) : Nat → (Nat → Nat)
  | 0 => y
  | i + 1 => sft o (srt o y i) i
theorem AxOk.srt {o : Nat → Int} : ∀ {i : Nat} {y : Nat → Nat}, AxOk y → i ≤ 3 → AxOk (srt o y i)
  | 0, _, h, _ => h
  | i + 1, _, h, hi => AxOk.sft (AxOk.srt h (by omega)) (by omega)

theorem Tri.swap {t : TypeId} {w : World} {b : Nat} {y : Nat → Nat} (h : Tri t w b (axs y)) {j : Nat} (hj : j + 1 < 3) :
    Tri t ((w.setCell ⟨b, j + 1, none⟩ (.int .i64 (y j : Nat))).setCell ⟨b, j, none⟩ (.int .i64 (y (j + 1) : Nat))) b (axs (swp y (j + 1))) := by
  have h1 := h.set (j := j + 1) (d := fun k => if k = j + 1 then (y j : Nat) else axs y k) (v := (y j : Nat)) (by omega) (by simp) (fun i hi => by simp [hi])
  exact h1.set (j := j) (d := axs (swp y (j + 1))) (v := (y (j + 1) : Nat)) (by omega) (by simp [axs, swp]) (fun i hi => by
    by_cases e : i = j + 1
    · subst e; simp [axs, swp]
    · simp [axs, swp, e, hi])

set_option maxHeartbeats 400000 in
theorem look1_any {t : TypeId} {o : Nat → Int} {p q b : Nat} {w : World} (hp : p < 3) (hq : q < 3) (ho : ∀ k, k < 3 → 0 ≤ o k ∧ o k ≤ 65535) (h : Tri t w b o) :
    Calls Try.prog 85 #[.int .i64 p, .int .i64 q, .pointer (some ⟨b, 0, none⟩)] w fun e w' => e = .returned (.int .i64 (o q - o p)) ∧ Drawn w w' := by
  have c1 := h.cell p hp
  have c2 := h.cell q hq
  obtain ⟨a1, a2⟩ := ho p hp
  obtain ⟨a3, a4⟩ := ho q hq
  have i1 : 0 ≤ (p : Int) ∧ (p : Int) < 3 := by omega
  have i2 : 0 ≤ (q : Int) ∧ (q : Int) < 3 := by omega
  clear h ho
  go_enter Try.func85, Try.ntmps85
  go_wp2
  go_quiet (fail)
  go_wp2
  go_ret
  exact ⟨rfl, .of _⟩

/-- Of what was there only block b may have changed. -/
def Exc (b : Nat) (w w' : World) : Prop := (w'.os = w.os ∧ w'.tape = w.tape ∧ w'.output = w.output) ∧ w.heap.size ≤ w'.heap.size ∧ ∀ k, k < w.heap.size → k ≠ b → w'.heap[k]? = w.heap[k]?
theorem Exc.refl (b : Nat) (w : World) : Exc b w w := ⟨⟨rfl, rfl, rfl⟩, Nat.le_refl _, fun _ _ _ => rfl⟩
theorem Exc.trans {b : Nat} {w w1 w2 : World} (h : Exc b w w1) (k : Exc b w1 w2) : Exc b w w2 :=
  ⟨⟨k.1.1.trans h.1.1, k.1.2.1.trans h.1.2.1, k.1.2.2.trans h.1.2.2⟩, Nat.le_trans h.2.1 k.2.1, fun j hj hb => (k.2.2 j (Nat.lt_of_lt_of_le hj h.2.1) hb).trans (h.2.2 j hj hb)⟩
theorem Exc.of_below {b : Nat} {w w' : World} (h : Below w.heap.size w w') : Exc b w w' := ⟨⟨h.os, h.tape, h.output⟩, h.size, fun k hk _ => h.block k hk⟩
theorem Exc.set {b j : Nat} {w w' : World} (h : Exc b w w') (x : Value) : Exc b w (w'.setCell ⟨b, j, none⟩ x) :=
  h.trans ⟨⟨rfl, rfl, rfl⟩, by simp, fun k _ hk => heap_setCell_other w' ⟨b, j, none⟩ k x hk⟩
theorem Exc.on {b n : Nat} {w w' : World} (h : Exc b w w') : Exc b w (w'.drewN n) := h.trans (.of_below ((Drawn.of n).below _))
theorem Exc.drawn {b : Nat} {w w' w'' : World} (h : Exc b w w') (hd : Drawn w' w'') : Exc b w w'' := h.trans (.of_below (hd.below _))
theorem Exc.below {b B : Nat} {w w0 w' : World} (h : Below B w0 w) (k : Exc b w w') (hb : B ≤ b) (hB : B ≤ w.heap.size) : Below B w0 w' :=
  h.trans ⟨k.1.1, k.1.2.1, k.1.2.2, k.2.1, fun j hj => k.2.2 j (by omega) (by omega)⟩
theorem Tri.exc {t : TypeId} {w w' : World} {b b' : Nat} {c : Nat → Int} (h : Tri t w b' c) (k : Exc b w w') (hb : b' ≠ b) : Tri t w' b' c := (k.2.2 b' h.lt hb).trans h

set_option maxRecDepth 100000 in
set_option maxHeartbeats 4000000 in
theorem insertion_any {t t' : TypeId} {o : Nat → Int} {y : Nat → Nat} {bs bo cap : Nat} {w : World} (hy : AxOk y) (ho : ∀ k, k < 3 → 0 ≤ o k ∧ o k ≤ 65535) (h1 : Tri t w bs (axs y)) (h2 : Tri t' w bo o) (hne : bo ≠ bs) :
    Calls Try.prog 114 #[.slice (some ⟨bs, 0, none⟩) 3 cap, .int .i64 0, .int .i64 3, .func (.func 85) #[] #[.pointer (some ⟨bo, 0, none⟩)]] w
      fun e w' => e = .returned (.tuple #[]) ∧ Tri t w' bs (axs (srt o y 3)) ∧ Exc bs w w' := by
  have HY := Lib.hid hy
  have HO := Lib.hid ho
  have H1 := Lib.hid h1
  have H2 := Lib.hid h2
  clear hy ho h1 h2
  go_enter Try.func114, Try.ntmps114
  go_wp2
  go_loopw [8, 9] (fun i _ wr => ∃ k : Nat, 1 ≤ k ∧ k ≤ 3 ∧ i = .int .i64 k ∧ Tri t wr bs (axs (srt o y k)) ∧ Exc bs w wr) (fun i _ _ => 3 - (intOf i).toNat)
  case atStart => exact ⟨1, by omega, by omega, rfl, H1.out, .refl _ _⟩
  case round =>
    obtain ⟨k, hk1, hk, rfl, t1, hq⟩ := hrel
    obtain ⟨wo, rfl⟩ : ∃ wo : World, wo = wr := ⟨_, rfl⟩
    by_cases hlt : k < 3
    · have T1 := Lib.hid t1
      have d1 : decide ((k : Int) < 3) = true := decide_eq_true (by omega)
      clear t1
      go_wp2
      go_loopw [9] (fun i wr => ∃ (j : Nat) (z : Nat → Nat), j ≤ k ∧ i = .int .i64 j ∧ Hid (AxOk z) ∧ Hid (sft o z j = srt o y (k + 1)) ∧ Tri t wr bs (axs z) ∧ Exc bs w wr) (fun i _ => (intOf i).toNat)
      case atStart => exact ⟨k, srt o y k, by omega, rfl, Lib.hid (HY.out.srt hk), Lib.hid rfl, T1.out, hq⟩
      case round =>
        obtain ⟨j, z, hj, rfl, hz, he, t1, hq1⟩ := hrel
        by_cases hj0 : 0 < j
        · obtain ⟨i, rfl⟩ : ∃ i, j = i + 1 := ⟨j - 1, by omega⟩
          have hzk := hz.out
          have z0 := hzk i (by omega)
          have z1 := hzk (i + 1) (by omega)
          have c0 : wr.cell? ⟨bs, i, none⟩ = some (.int .i64 ((z i : Nat) : Int)) := t1.cell i (by omega)
          have c1 : wr.cell? ⟨bs, i + 1, none⟩ = some (.int .i64 ((z (i + 1) : Nat) : Int)) := t1.cell (i + 1) (by omega)
          have HK := Lib.hid (fun n => look1_any (w := wr.drewN n) z1 z0 HO.out ((H2.out.exc hq1 hne).on ((Drawn.of n).below _)))
          have i1 : 0 ≤ (i : Int) + 1 ∧ (i : Int) + 1 < 3 := by omega
          have i2 : 0 ≤ (i : Int) ∧ (i : Int) < 3 := by omega
          have w1 : IntKind.i64.wrap (i : Int) = i := IntWalk.i64_in _ (by omega)
          have T2 := Lib.hid t1
          have b1 := HO.out (z i) z0
          have b2 := HO.out (z (i + 1)) z1
          clear t1 hzk
          generalize hA : o (z i) = A at *
          generalize hB : o (z (i + 1)) = B at *
          have HA := Lib.hid hA
          have HB := Lib.hid hB
          clear hA hB
          by_cases hc : A < B
          · have E := Lib.hid (sft_t (o := o) (y := z) (j := i) (by rw [HA.out, HB.out]; exact hc))
            have dc : decide (A - B < 0) = true := decide_eq_true (by omega)
            go_wp2
            go_quiet ((go_at_call 85; exact Calls.quiet_of (HK.out _)))
            go_wp2
            have T3 : Tri t (wr.drewN nq) bs (axs z) := T2.out.on ((Drawn.of _).below _)
            have hq2 := hq1.on (n := nq)
            generalize wr.drewN nq = w2 at T3 hq2 ⊢
            have c0' : w2.cell? ⟨bs, i, none⟩ = some (.int .i64 ((z i : Nat) : Int)) := T3.cell i (by omega)
            have c1' : w2.cell? ⟨bs, i + 1, none⟩ = some (.int .i64 ((z (i + 1) : Nat) : Int)) := T3.cell (i + 1) (by omega)
            have e0 := cell_regrown c0'
            have e1 := cell_regrown c1'
            refine region_take [2, 3, 4] [0, 1, 5, 6, 7, 8, 9, 10, 11, 12, 13] 14 [15, 16, 17] (by kernel_rfl) (by kernel_rfl) (by kernel_rfl) (by kernel_rfl) (by kernel_rfl) (by kernel_rfl) (by kernel_rfl) (fun _ _ d _ _ h => by cases d <;> exact h) ?_
            simp only [selL, List.filterMap_cons, List.filterMap_nil, List.getElem?_cons_zero, List.getElem?_cons_succ]
            refine pureW_step (.slice (some ⟨bs, 0, none⟩) 3 cap) rfl (fun w' _ => ?_) (fun K' hK' => ?_)
            · go_simp
            go_simp
            refine hK' _ ?_
            clear hK' K'
            refine pureW_step (.int .i64 ((i + 1 : Nat) : Int)) rfl (fun w' _ => ?_) (fun K' hK' => ?_)
            · go_simp
            go_simp
            refine hK' _ ?_
            clear hK' K'
            refine pureW_step (.int .i64 (i : Int)) rfl (fun w' _ => ?_) (fun K' hK' => ?_)
            · go_simp
            go_simp
            refine hK' _ ?_
            clear hK' K'
            refine pureW_nil ?_
            change wpQuiet _ _ _ _ (_ :: _ :: _ :: _ :: _ :: _ :: _ :: _ :: _ :: _ :: _ :: []) _
            repeat (go_big_quiet_step (fail))
            refine wpQuiet_nil ?_
            intro w3 hw3
            replace hw3 := below_of_regrown hw3
            have t3 := T3.on hw3
            have f0 := t3.free i
            have f1 := t3.free (i + 1)
            have g0 : w3.cell? ⟨bs, i, none⟩ = some (.int .i64 ((z i : Nat) : Int)) := t3.cell i (by omega)
            have g1 : w3.cell? ⟨bs, i + 1, none⟩ = some (.int .i64 ((z (i + 1) : Nat) : Int)) := t3.cell (i + 1) (by omega)
            have T4 := Lib.hid (t3.swap (j := i) (by omega))
            have hq3 := hq2.trans (.of_below hw3)
            have HZ := Lib.hid (hz.out.swp (j := i + 1) (by omega))
            clear t3 T3 e0 e1 c0 c1 c0' c1'
            go_wp2
            go_roundw
            case rel => exact ⟨i, swp z (i + 1), by omega, by go_num, HZ, Lib.hid (by rw [← he.out, E.out]), T4.out, (hq3.set _).set _⟩
            case measure => simp [intOf]
          · have E := Lib.hid (sft_f (o := o) (y := z) (j := i) (by rw [HA.out, HB.out]; exact hc))
            have dc : decide (A - B < 0) = false := decide_eq_false (by omega)
            go_wp2
            go_quiet ((go_at_call 85; exact Calls.quiet_of (HK.out _)))
            go_wp2
            go_roundw
            case rel => exact ⟨k + 1, by omega, by omega, by go_num, by rw [← he.out, E.out]; exact T2.out.on ((Drawn.of _).below _), hq1.on⟩
            case measure => simp [intOf]; omega
        · obtain rfl : j = 0 := by omega
          have E := Lib.hid (show z = srt o y (k + 1) from he.out)
          have T2 := Lib.hid t1
          clear t1
          go_wp2
          go_quiet (fail)
          go_wp2
          go_roundw
          case rel => exact ⟨k + 1, by omega, by omega, by go_num, by rw [← E.out]; exact T2.out.on ((Drawn.of _).below _), hq1.on⟩
          case measure => simp [intOf]; omega
    · obtain rfl : k = 3 := by omega
      have T2 := Lib.hid t1
      clear t1
      go_wp2
      go_end0
      exact ⟨rfl, T2.out, hq⟩

end Go.Proofs.Ytmilljlkcbljpaa
