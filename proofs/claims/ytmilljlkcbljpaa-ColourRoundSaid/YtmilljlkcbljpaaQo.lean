/- A region that draws its order: some operations taken in a given order, quiet in a class of worlds; the rest forced, one by one. -/
import Derived.Test.YtmilljlkcbljpaaQt
namespace Go.Proofs.Ytmilljlkcbljpaa
open Go.RowKit Go.Sort
variable {P : Program} {ops : Array Oper} {md : Region.Mode} {C : World → Prop}

/-- Each of the first waits for a later one of the list, or the end waits for it. -/
def sinkL (md : Region.Mode) (ops : Array Oper) (t : Nat) : List Nat → Bool
  | [] => true
  | i :: hd => ((hd ++ [t]).any fun j => Region.waitsFor md ops j i) && sinkL md ops t hd
def chainL (md : Region.Mode) (ops : Array Oper) : Nat → List Nat → Bool
  | _, [] => true
  | t, u :: tl => Region.waitsFor md ops u t && chainL md ops u tl
def seqL (md : Region.Mode) (ops : Array Oper) : List Nat → Array Bool → Bool
  | [], listed => (Region.ready md ops listed).isEmpty
  | t :: tl, listed => decide (Region.ready md ops listed = [t]) && seqL md ops tl (listed.setIfInBounds t true)
def headL (md : Region.Mode) (ops : Array Oper) (tl : List Nat) : List Nat → Array Bool → Bool
  | [], listed => seqL md ops tl listed
  | i :: hd, listed => (Region.ready md ops listed).contains i && Region.free md ops listed i && headL md ops tl hd (listed.setIfInBounds i true)
/-- What is listed has what it waits for listed. -/
def closedL (md : Region.Mode) (ops : Array Oper) (listed : Array Bool) : Bool :=
  (List.range ops.size).all fun j => !listed.getD j false || match ops[j]? with | some o => o.after.all (fun e => !Region.binds md e || listed.getD e.on false) | none => true
def orderB (md : Region.Mode) (ops : Array Oper) (listed : Array Bool) (hd : List Nat) (t : Nat) (tl : List Nat) : Bool :=
  Region.noSelect ops && sinkL md ops t hd && chainL md ops t tl && closedL md ops listed && decide (listed.size = ops.size) &&
  ((List.range ops.size).all fun j => listed.getD j true || hd.contains j || (t :: tl).contains j) && ((t :: tl).all fun j => !listed.getD j true) && ((t :: tl).all fun j => !hd.contains j) && headL md ops (t :: tl) hd listed

structure OrdInv (md : Region.Mode) (ops : Array Oper) (hd tl : List Nat) (listed : Array Bool) : Prop where
  size : listed.size = ops.size
  closed : ∀ j oj, ops[j]? = some oj → listed.getD j false = true → ∀ e ∈ oj.after, Region.binds md e = true → listed.getD e.on false = true
  tail : ∀ t ∈ tl, listed.getD t true = false
  all : ∀ j, j < ops.size → listed.getD j true = false → j ∈ hd ∨ j ∈ tl

theorem OrdInv.set {hd tl : List Nat} {i : Nat} {listed : Array Bool} (inv : OrdInv md ops hd tl listed) (hi : i ∈ Region.ready md ops listed) (hin : i ∉ tl) : OrdInv md ops hd tl (listed.setIfInBounds i true) := by
  obtain ⟨_, oi, hoi, hall⟩ := mem_ready.1 hi
  refine ⟨by simp [inv.size], fun j oj hj hl e he hb => ?_, fun t ht => ?_, fun j hj hun => ?_⟩
  · by_cases hij : i = j
    · subst hij
      have : oj = oi := Option.some.inj (hj.symm.trans hoi)
      subst this
      exact getD_set_true (hall e he hb)
    · rw [getD_set_ne false hij] at hl
      exact getD_set_true (inv.closed j oj hj hl e he hb)
  · rw [getD_set_ne true (i := i) (j := t) (fun e : i = t => hin (by rw [e]; exact ht))]; exact inv.tail t ht
  · by_cases hij : i = j
    · subst hij
      have : i < listed.size := by rw [inv.size]; exact hj
      simp [this] at hun
    · rw [getD_set_ne true hij] at hun
      exact inv.all j hj hun

theorem tail_waits0 {t : Nat} {hd' tl' : List Nat} {listed : Array Bool} (inv : OrdInv md ops hd' tl' listed) : ∀ (hd : List Nat), sinkL md ops t hd = true → ∀ i ∈ hd, listed.getD i true = false → t ∉ Region.ready md ops listed
  | [], _, i, hi, _, _ => by cases hi
  | k :: hd, hs, i, hi, hun, hr => by
    simp only [sinkL, Bool.and_eq_true] at hs
    rcases List.mem_cons.1 hi with rfl | hi
    · obtain ⟨j, hj, hw⟩ := List.any_eq_true.1 hs.1
      obtain ⟨oj, hoj, e, he, hb, hon⟩ := Region.waitsFor_spec hw
      rcases List.mem_append.1 hj with hj | hj
      · cases hl : listed.getD j false with
        | true =>
          have h2 := inv.closed j oj hoj hl e he hb
          rw [hon, getD_both hun] at h2
          cases h2
        | false =>
          have hjs : j < listed.size := by rw [inv.size]; exact (Array.getElem?_eq_some_iff.1 hoj).1
          exact tail_waits0 inv hd hs.2 j hj (getD_in hjs hl) hr
      · have hjt : j = t := by simpa using hj
        subst hjt
        obtain ⟨_, ot, hot, hall⟩ := mem_ready.1 hr
        have : oj = ot := Option.some.inj (hoj.symm.trans hot)
        subst this
        have h2 := hall e he hb
        rw [hon, getD_both hun] at h2
        cases h2
    · exact tail_waits0 inv hd hs.2 i hi hun hr

theorem tail_waits1 {listed : Array Bool} : ∀ (t : Nat) (tl : List Nat), chainL md ops t tl = true → (∀ u ∈ t :: tl, listed.getD u true = false) → ∀ u ∈ tl, u ∉ Region.ready md ops listed
  | _, [], _, _, u, hu, _ => by cases hu
  | t, k :: tl, hc, hun, u, hu, hr => by
    simp only [chainL, Bool.and_eq_true] at hc
    rcases List.mem_cons.1 hu with rfl | hu
    · obtain ⟨oj, hoj, e, he, hb, hon⟩ := Region.waitsFor_spec hc.1
      obtain ⟨_, ot, hot, hall⟩ := mem_ready.1 hr
      have : oj = ot := Option.some.inj (hoj.symm.trans hot)
      subst this
      have h2 := hall e he hb
      rw [hon, getD_both (hun t List.mem_cons_self)] at h2
      cases h2
    · exact tail_waits1 k tl hc.2 (fun v hv => hun v (List.mem_cons_of_mem _ hv)) u hu hr

theorem in_head {t : Nat} {hd tl : List Nat} {listed : Array Bool} (hs : sinkL md ops t hd = true) (hc : chainL md ops t tl = true) (inv : OrdInv md ops hd (t :: tl) listed) {i : Nat} (hi : i ∈ hd) (hun : listed.getD i true = false)
    {j : Nat} (hj : j ∈ Region.ready md ops listed) : j ∉ t :: tl := fun h => by
  rcases List.mem_cons.1 h with rfl | h
  · exact tail_waits0 inv hd hs i hi hun hj
  · exact tail_waits1 t tl hc inv.tail j h hj

def headO (P : Program) (md : Region.Mode) (ops : Array Oper) (C : World → Prop) (tl : List Nat) (L : Array Bool → Act → Prop) : Nat → Array Bool → Act → Prop
  | 0, listed, a => L listed a
  | f + 1, listed, a => Region.ready md ops listed ≠ [] ∧ ∀ i ∈ Region.ready md ops listed, i ∉ tl ∧ qOp P ops C i (headO P md ops C tl L f (listed.setIfInBounds i true)) a

theorem any_of_headO {tl : List Nat} {g : Nat} {L : Array Bool → Act → Prop} {Q' : Exit → Act → World → Prop} (hL : ∀ listed a w, C w → L listed a → wpAny P md ops Q' g listed a w) :
    ∀ (f : Nat) (listed : Array Bool) (a : Act) (w : World), C w → headO P md ops C tl L f listed a → wpAny P md ops Q' (f + g) listed a w
  | 0, _, _, _, hw, h => by rw [Nat.zero_add]; exact hL _ _ _ hw h
  | f + 1, listed, a, w, hw, h => by
    rw [show f + 1 + g = (f + g) + 1 by omega]
    exact ⟨fun h0 => absurd h0 h.1, fun i hi => wpOp_of_qOp hw (fun a' w' hw' h' => any_of_headO hL f _ a' w' hw' h') (h.2 i hi).2⟩

theorem headO_first {t : Nat} {hd tl : List Nat} {i : Nat} {oi : Oper} {v : Value} {L : Array Bool → Act → Prop} (hi : ops[i]? = some oi) (hsel : ∀ (j : Nat) (o : Oper) cs b, ops[j]? = some o → o.op ≠ .select cs b)
    (hs : sinkL md ops t hd = true) (hc : chainL md ops t tl = true) (hin : i ∈ hd) (hdone : ∀ listed a, L listed a → ∀ j ∈ Region.ready md ops listed, j ∈ t :: tl) :
    ∀ (f : Nat) (listed : Array Bool) (a : Act), OrdInv md ops hd (t :: tl) listed →
      (∀ j oj, ops[j]? = some oj → j ≠ i → listed.getD j true = false → (∀ e ∈ oj.after, Region.binds md e = true → e.on ≠ i) → oi.apart ops oj = true) →
      i ∈ Region.ready md ops listed → YieldsIn P ops C oi v a → headO P md ops C (t :: tl) L f (listed.setIfInBounds i true) (a.put oi.dst v) → headO P md ops C (t :: tl) L (f + 1) listed a := by
  intro f
  induction f with
  | zero =>
    intro listed a inv _ hr hy H
    have hun := (mem_ready.1 hr).1
    refine ⟨fun h => (by rw [h] at hr; cases hr), fun j hj => ?_⟩
    have hjn := in_head hs hc inv hin hun hj
    refine ⟨hjn, ?_⟩
    by_cases hji : j = i
    · subst hji; exact hy.qOp hi H
    · exact absurd (hdone _ _ H j (ready_mono hj hji)) hjn
  | succ f ih =>
    intro listed a inv hfree hr hy H
    have hun := (mem_ready.1 hr).1
    refine ⟨fun h => (by rw [h] at hr; cases hr), fun j hj => ?_⟩
    have hjn := in_head hs hc inv hin hun hj
    refine ⟨hjn, ?_⟩
    by_cases hji : j = i
    · subst hji; exact hy.qOp hi H
    · have h1 := (H.2 j (ready_mono hj hji)).2
      obtain ⟨hjun, oj, hoj, hall⟩ := mem_ready.1 hj
      have hnot : ∀ e ∈ oj.after, Region.binds md e = true → e.on ≠ i := fun e he hb heq => by
        have h1 := hall e he hb
        rw [heq, getD_both hun] at h1
        cases h1
      have h2 := qOp_put hoj (hfree j oj hoj hji hjun hnot) (fun cs b => hsel i oi cs b hi) (fun cs b => hsel j oj cs b hoj) hy h1
      have hfree' : ∀ k ok, ops[k]? = some ok → k ≠ i → (listed.setIfInBounds j true).getD k true = false →
          (∀ e ∈ ok.after, Region.binds md e = true → e.on ≠ i) → oi.apart ops ok = true := fun k ok hk hki hun hno => by
        refine hfree k ok hk hki ?_ hno
        by_cases hjk : j = k
        · subst hjk; exact hjun
        · rw [getD_set_ne true hjk] at hun; exact hun
      refine qOp_mono (fun a' h3 => ih (listed.setIfInBounds j true) a' (inv.set hj hjn) hfree' (ready_mono hr (Ne.symm hji)) h3.1 ?_) h2
      rw [Array.setIfInBounds_comm _ _ hji]
      exact h3.2

theorem seqL_ready {t : Nat} {tl : List Nat} {listed : Array Bool} (h : seqL md ops (t :: tl) listed = true) : ∀ j ∈ Region.ready md ops listed, j ∈ t :: tl := by
  intro j hj
  simp only [seqL, Bool.and_eq_true, decide_eq_true_eq] at h
  rw [h.1] at hj
  have : j = t := by simpa using hj
  rw [this]; exact List.mem_cons_self

theorem headO_lex {t : Nat} {tl hd' : List Nat} {Lq : Act → Prop} (hsel : Region.noSelect ops = true) (hs : sinkL md ops t hd' = true) (hc : chainL md ops t tl = true) (hx : ∀ i ∈ hd', i ∉ t :: tl) :
    ∀ (hd : List Nat) (l : List Oper) (listed : Array Bool) (a : Act), hd.map (fun i => ops[i]?) = l.map some → (∀ i ∈ hd, i ∈ hd') → OrdInv md ops hd' (t :: tl) listed →
    headL md ops (t :: tl) hd listed = true → wpQuiet P ops C Lq l a → headO P md ops C (t :: tl) (fun listed' a' => seqL md ops (t :: tl) listed' = true ∧ Lq a') hd.length listed a
  | [], [], listed, a, _, _, _, hB, h => ⟨hB, h⟩
  | [], _ :: _, _, _, hm, _, _, _, _ => by simp at hm
  | _ :: _, [], _, _, hm, _, _, _, _ => by simp at hm
  | i :: hd, o :: l, listed, a, hm, hsub, inv, hB, h => by
    simp only [List.map_cons, List.cons.injEq] at hm
    obtain ⟨h0, hm⟩ := hm
    simp only [headL, Bool.and_eq_true] at hB
    obtain ⟨⟨hr, hf⟩, hB'⟩ := hB
    have hr' : i ∈ Region.ready md ops listed := by simpa using hr
    have hst : qOp P ops C i (wpQuiet P ops C Lq l) a := by unfold qOp; simp only [h0]; exact h
    obtain ⟨v, hy, hK⟩ := yieldsIn_of_qOp h0 hst
    have hi := hsub i List.mem_cons_self
    exact headO_first h0 (Region.noSelect_spec hsel) hs hc hi (fun listed' a' hL => seqL_ready hL.1) hd.length listed a inv (Region.free_spec h0 hf) hr' hy
      (headO_lex hsel hs hc hx hd l _ _ hm (fun j hj => hsub j (List.mem_cons_of_mem _ hj)) (inv.set hr' (hx i hi)) hB' hK)

theorem any_of_seqL {Q' : Exit → Act → World → Prop} : ∀ (tl : List Nat) (l : List Oper) (listed : Array Bool) (a : Act) (w : World), tl.map (fun i => ops[i]?) = l.map some →
    seqL md ops tl listed = true → wpList P ops Q' l a w → wpAny P md ops Q' tl.length listed a w
  | [], [], _, _, _, _, hB, h => ⟨by simpa [seqL] using hB, h⟩
  | [], _ :: _, _, _, _, hm, _, _ => by simp at hm
  | _ :: _, [], _, _, _, hm, _, _ => by simp at hm
  | t :: tl, o :: l, listed, a, w, hm, hB, h => by
    simp only [List.map_cons, List.cons.injEq] at hm
    obtain ⟨h0, hm⟩ := hm
    simp only [seqL, Bool.and_eq_true, decide_eq_true_eq] at hB
    refine ⟨fun h1 => (by rw [hB.1] at h1; cases h1), fun i hi => ?_⟩
    rw [hB.1] at hi
    have hik : i = t := by simpa using hi
    subst hik
    have hw : wpOp P ops Q' i (wpList P ops Q' l) a w := by unfold wpOp; simp only [h0]; exact h
    exact wpOp_mono (fun a' w' h' => any_of_seqL tl l _ a' w' hm hB.2 h') hw

theorem any_order {Q : Exit → Act → World → Prop} {a : Act} {w : World} {listed : Array Bool} (hd : List Nat) (t : Nat) (tl : List Nat) (hdo tlo : List Oper) (hh : hd.map (fun i => ops[i]?) = hdo.map some) (ht : (t :: tl).map (fun i => ops[i]?) = tlo.map some)
    (hB : orderB md ops listed hd t tl = true) (hC : C w) (h : wpQuiet P ops C (fun a' => ∀ w', C w' → wpList P ops Q tlo a' w') hdo a) : wpAny P md ops Q (hd.length + (t :: tl).length) listed a w := by
  simp only [orderB, Bool.and_eq_true, decide_eq_true_eq] at hB
  obtain ⟨⟨⟨⟨⟨⟨⟨⟨hsel, hs⟩, hc⟩, hcl⟩, hsz⟩, hall⟩, htl⟩, hx⟩, hlex⟩ := hB
  have inv0 : OrdInv md ops hd (t :: tl) listed := by
    refine ⟨hsz, fun j oj hj hl e he hb => ?_, fun u hu => ?_, fun j hj hun => ?_⟩
    · have h1 := List.all_eq_true.1 hcl j (List.mem_range.2 (Array.getElem?_eq_some_iff.1 hj).1)
      simp only [hl, Bool.not_true, Bool.false_or, hj] at h1
      have h2 := Array.all_eq_true_iff_forall_mem.1 h1 e he
      simpa [hb] using h2
    · have h1 := List.all_eq_true.1 htl u hu
      simpa using h1
    · have h1 := List.all_eq_true.1 hall j (List.mem_range.2 hj)
      simp only [hun, Bool.false_or, Bool.or_eq_true, List.contains_iff_mem] at h1
      exact h1
  have H := headO_lex (C := C) (P := P) hsel hs hc (fun i hi hi' => by
    have h1 := List.all_eq_true.1 hx i hi'
    simp only [Bool.not_eq_true', List.contains_eq_mem, decide_eq_false_iff_not] at h1
    exact h1 hi) hd hdo listed a hh (fun _ h => h) inv0 hlex h
  exact any_of_headO (Q' := Q) (g := (t :: tl).length) (fun listed' a' w' hw' hL => any_of_seqL (t :: tl) tlo listed' a' w' ht hL.1 (hL.2 w' hw')) _ _ _ _ hC H

end Go.Proofs.Ytmilljlkcbljpaa
