/- A region that draws its order: quiet operations, one that acts but keeps the class of worlds, the rest forced. -/
import Derived.Test.YtmilljlkcbljpaaQo
namespace Go.Proofs.Ytmilljlkcbljpaa
open Go.RowKit Go.Sort
variable {P : Program} {ops : Array Oper} {md : Region.Mode} {C : World → Prop} {Q : Exit → Act → World → Prop}

theorem wpOp_putY {j : Nat} {oi oj : Oper} {v : Value} {Y : Act → Prop} (hj : ops[j]? = some oj) (hap : oi.apart ops oj = true)
    (hsj : ∀ cs b, oj.op ≠ .select cs b) (keep : ∀ (a : Act), Y a → ∀ u, Y (a.put oj.dst u)) (keepD : ∀ a d, Y a → Y { a with defers := d :: a.defers })
    (hQ : ∀ c a w, Q (.panic c) (a.put oi.dst v) w → Q (.panic c) a w) {K : Act → World → Prop} {a : Act} {w : World}
    (hy : Y a) (h : wpOp P ops Q j K (a.put oi.dst v) w) :
    wpOp P ops Q j (fun a' w' => Y a' ∧ K (a'.put oi.dst v) w') a w := by
  obtain ⟨h1, h2, h3⟩ := Oper.apart_spec hap
  unfold wpOp at *
  simp only [hj] at *
  rw [wanted_put oj a oi.dst v h1] at h
  split
  · rename_i hw
    simp only [hw, if_true] at h
    rcases h with h | ⟨hasks, hlets⟩
    case inr => exact .inr ⟨by unfold Oper.asks at *; rw [execOp_put oj hsj a oi.dst v h1] at hasks; exact hasks, hlets⟩
    refine .inl ?_
    unfold Oper.wp at *
    rw [execOp_put oj hsj a oi.dst v h1] at h
    generalize (execOp a.eval oj).run P w = r at *
    cases r with
    | ok n w' =>
      cases n <;> simp only [Oper.upon] at h ⊢
      case value u => exact ⟨keep a hy u, by rw [← Act.put_comm a v u h2]; exact h⟩
      case skip => exact ⟨keep a hy _, by rw [← Act.put_comm a v undef h2]; exact h⟩
      case defer d =>
        refine ⟨keep _ (keepD _ d hy) _, ?_⟩
        rw [← Act.put_comm _ v undef h2, ← Act.put_defers]
        exact h
      case enter f args =>
        refine Calls.mono h fun e w'' he => ?_
        cases e with
        | returned u => exact ⟨keep a hy u, by rw [← Act.put_comm a v u h2]; exact he⟩
        | panicked c => exact hQ _ _ _ he
        | outgrown => exact he
      case row row args => exact Rows.mono h fun u w'' he => ⟨keep a hy u, by rw [← Act.put_comm a v u h2]; exact he⟩
    | halt x w' =>
      cases x <;> simp only [Oper.upon] at h ⊢
      case panic u => exact hQ _ _ _ h
  · rename_i hw
    simp only [hw] at h
    exact ⟨keep a hy _, by rw [← Act.put_comm a v undef h2]; exact h⟩

/-- Whatever order is picked of what is not late; the class is kept. -/
def headW (P : Program) (md : Region.Mode) (ops : Array Oper) (C : World → Prop) (Q : Exit → Act → World → Prop) (tl : List Nat) (L : Array Bool → Act → World → Prop) : Nat → Array Bool → Act → World → Prop
  | 0, listed, a, w => L listed a w
  | f + 1, listed, a, w => Region.ready md ops listed ≠ [] ∧ ∀ i ∈ Region.ready md ops listed, i ∉ tl ∧ wpOp P ops Q i (fun a' w' => C w' ∧ headW P md ops C Q tl L f (listed.setIfInBounds i true) a' w') a w

theorem any_of_headW {tl : List Nat} {g : Nat} {L : Array Bool → Act → World → Prop} (hL : ∀ listed a w, L listed a w → wpAny P md ops Q g listed a w) :
    ∀ (f : Nat) (listed : Array Bool) (a : Act) (w : World), headW P md ops C Q tl L f listed a w → wpAny P md ops Q (f + g) listed a w
  | 0, _, _, _, h => by rw [Nat.zero_add]; exact hL _ _ _ h
  | f + 1, listed, a, w, h => by
    rw [show f + 1 + g = (f + g) + 1 by omega]
    exact ⟨fun h0 => absurd h0 h.1, fun i hi => wpOp_mono (fun a' w' h' => any_of_headW hL f _ a' w' h'.2) (h.2 i hi).2⟩

/-- An operation that leaves every world of the class as it is. -/
def PureIn (P : Program) (ops : Array Oper) (C : World → Prop) (o : Oper) (v : Value) (a : Act) : Prop :=
  (Region.wanted o (yielded ops a.tmps) = true ∧ ∀ w, C w → (execOp a.eval o).run P w = .ok (.value v) w) ∨ (Region.wanted o (yielded ops a.tmps) = false ∧ v = undef)
theorem PureIn.of_same {o : Oper} {v : Value} {a a' : Act} (hy : PureIn P ops C o v a) (he : execOp a'.eval o = execOp a.eval o)
    (hw : Region.wanted o (yielded ops a'.tmps) = Region.wanted o (yielded ops a.tmps)) : PureIn P ops C o v a' := by
  unfold PureIn at *
  rw [he, hw]
  exact hy
theorem PureIn.wpOp {i : Nat} {o : Oper} {v : Value} {a : Act} (hi : ops[i]? = some o) (hy : PureIn P ops C o v a) {K : Act → World → Prop} {w : World} (hC : C w) (h : K (a.put o.dst v) w) : wpOp P ops Q i K a w := by
  unfold Go.wpOp
  simp only [hi]
  rcases hy with ⟨hw, hv⟩ | ⟨hw, rfl⟩
  · simp only [hw, if_true, Oper.wp, hv w hC, Oper.upon]; exact .inl h
  · simp only [hw, Bool.false_eq_true, if_false]; exact h

theorem headW_first {t : Nat} {hd tl : List Nat} {i : Nat} {oi : Oper} {v : Value} {L : Array Bool → Act → World → Prop} (hi : ops[i]? = some oi) (hsel : ∀ (j : Nat) (o : Oper) cs b, ops[j]? = some o → o.op ≠ .select cs b)
    (hQ : ∀ c a w, Q (.panic c) (a.put oi.dst v) w → Q (.panic c) a w)
    (hs : sinkL md ops t hd = true) (hc : chainL md ops t tl = true) (hin : i ∈ hd) (hdone : ∀ listed a w, L listed a w → ∀ j ∈ Region.ready md ops listed, j ∈ t :: tl) :
    ∀ (f : Nat) (listed : Array Bool) (a : Act) (w : World), C w → OrdInv md ops hd (t :: tl) listed →
      (∀ j oj, ops[j]? = some oj → j ≠ i → listed.getD j true = false → (∀ e ∈ oj.after, Region.binds md e = true → e.on ≠ i) → oi.apart ops oj = true) →
      i ∈ Region.ready md ops listed → PureIn P ops C oi v a → headW P md ops C Q (t :: tl) L f (listed.setIfInBounds i true) (a.put oi.dst v) w → headW P md ops C Q (t :: tl) L (f + 1) listed a w := by
  intro f
  induction f with
  | zero =>
    intro listed a w hC inv _ hr hy H
    have hun := (mem_ready.1 hr).1
    refine ⟨fun h => (by rw [h] at hr; cases hr), fun j hj => ?_⟩
    have hjn := in_head hs hc inv hin hun hj
    refine ⟨hjn, ?_⟩
    by_cases hji : j = i
    · subst hji; exact hy.wpOp hi hC ⟨hC, H⟩
    · exact absurd (hdone _ _ _ H j (ready_mono hj hji)) hjn
  | succ f ih =>
    intro listed a w hC inv hfree hr hy H
    have hun := (mem_ready.1 hr).1
    refine ⟨fun h => (by rw [h] at hr; cases hr), fun j hj => ?_⟩
    have hjn := in_head hs hc inv hin hun hj
    refine ⟨hjn, ?_⟩
    by_cases hji : j = i
    · subst hji; exact hy.wpOp hi hC ⟨hC, H⟩
    · have h1 := (H.2 j (ready_mono hj hji)).2
      obtain ⟨hjun, oj, hoj, hall⟩ := mem_ready.1 hj
      have hnot : ∀ e ∈ oj.after, Region.binds md e = true → e.on ≠ i := fun e he hb heq => by
        have h1 := hall e he hb
        rw [heq, getD_both hun] at h1
        cases h1
      have hap := hfree j oj hoj hji hjun hnot
      obtain ⟨_, _, h3⟩ := Oper.apart_spec hap
      have h2 := wpOp_putY (Y := PureIn P ops C oi v) hoj hap (fun cs b => hsel j oj cs b hoj) (fun a hy u => hy.of_same (execOp_put oi (fun cs b => hsel i oi cs b hi) a oj.dst u h3) (wanted_put oi a oj.dst u h3)) (fun a d hy => hy.of_same rfl rfl) hQ hy h1
      have hfree' : ∀ k ok, ops[k]? = some ok → k ≠ i → (listed.setIfInBounds j true).getD k true = false →
          (∀ e ∈ ok.after, Region.binds md e = true → e.on ≠ i) → oi.apart ops ok = true := fun k ok hk hki hun hno => by
        refine hfree k ok hk hki ?_ hno
        by_cases hjk : j = k
        · subst hjk; exact hjun
        · rw [getD_set_ne true hjk] at hun; exact hun
      refine wpOp_mono (fun a' w' h3 => ⟨h3.2.1, ih (listed.setIfInBounds j true) a' w' h3.2.1 (inv.set hj hjn) hfree' (ready_mono hr (Ne.symm hji)) h3.1 ?_⟩) h2
      rw [Array.setIfInBounds_comm _ _ hji]
      exact h3.2.2

theorem headW_of_headO {tl : List Nat} {L : Array Bool → Act → Prop} {L' : Array Bool → Act → World → Prop} {g : Nat} (hL : ∀ listed a w, C w → L listed a → headW P md ops C Q tl L' g listed a w) :
    ∀ (f : Nat) (tl' : List Nat) (_ : ∀ i, i ∈ tl → i ∈ tl') (listed : Array Bool) (a : Act) (w : World), C w → headO P md ops C tl' L f listed a → headW P md ops C Q tl L' (f + g) listed a w
  | 0, _, _, _, _, _, hw, h => by rw [Nat.zero_add]; exact hL _ _ _ hw h
  | f + 1, tl', ht, listed, a, w, hw, h => by
    rw [show f + 1 + g = (f + g) + 1 by omega]
    exact ⟨h.1, fun i hi => ⟨fun hh => (h.2 i hi).1 (ht i hh), wpOp_of_qOp hw (fun a' w' hw' h' => ⟨hw', headW_of_headO hL f tl' ht _ a' w' hw' h'⟩) (h.2 i hi).2⟩⟩

/-- The pure operations ahead, one by one. -/
def pureW (P : Program) (ops : Array Oper) (C : World → Prop) (K : Act → Prop) : List Oper → Act → Prop
  | [], a => K a
  | o :: l, a => ∃ v, PureIn P ops C o v a ∧ pureW P ops C K l (a.put o.dst v)

theorem pureW_step {K : Act → Prop} {o : Oper} {l : List Oper} {a : Act} (v : Value) (hw : Region.wanted o (yielded ops a.tmps) = true) (hr : ∀ w, C w → (execOp a.eval o).run P w = .ok (.value v) w) (h : ∀ K' : Act → Prop, (∀ a, pureW P ops C K l a → K' a) → K' (a.put o.dst v)) : pureW P ops C K (o :: l) a :=
  ⟨v, .inl ⟨hw, hr⟩, h _ fun _ h => h⟩
theorem pureW_nil {K : Act → Prop} {a : Act} (h : K a) : pureW P ops C K [] a := h

def freeL (md : Region.Mode) (ops : Array Oper) : List Nat → Array Bool → Bool
  | [], _ => true
  | i :: hd, listed => (Region.ready md ops listed).contains i && Region.free md ops listed i && freeL md ops hd (listed.setIfInBounds i true)
def setL : List Nat → Array Bool → Array Bool
  | [], listed => listed
  | i :: hd, listed => setL hd (listed.setIfInBounds i true)

theorem headW_pure {t : Nat} {hd tl : List Nat} {L : Array Bool → Act → World → Prop} (hsel : Region.noSelect ops = true) (hQ : ∀ c a d v w, Q (.panic c) (a.put d v) w → Q (.panic c) a w)
    (hs : sinkL md ops t hd = true) (hc : chainL md ops t tl = true) (hx : ∀ i ∈ hd, i ∉ t :: tl) (hdone : ∀ listed a w, L listed a w → ∀ j ∈ Region.ready md ops listed, j ∈ t :: tl) (f : Nat) {K : Act → Prop} {listed' : Array Bool}
    (hK : ∀ a w, C w → K a → OrdInv md ops hd (t :: tl) listed' → headW P md ops C Q (t :: tl) L f listed' a w) :
    ∀ (ps : List Nat) (l : List Oper) (listed : Array Bool) (a : Act) (w : World), C w → ps.map (fun i => ops[i]?) = l.map some → (∀ i ∈ ps, i ∈ hd) → OrdInv md ops hd (t :: tl) listed → freeL md ops ps listed = true → setL ps listed = listed' →
      pureW P ops C K l a → headW P md ops C Q (t :: tl) L (ps.length + f) listed a w
  | [], [], listed, a, w, hw, _, _, inv, _, he, h => by rw [List.length_nil, Nat.zero_add]; subst he; exact hK a w hw h inv
  | [], _ :: _, _, _, _, _, hm, _, _, _, _, _ => by simp at hm
  | _ :: _, [], _, _, _, _, hm, _, _, _, _, _ => by simp at hm
  | i :: ps, o :: l, listed, a, w, hw, hm, hsub, inv, hf, he, h => by
    simp only [List.map_cons, List.cons.injEq] at hm
    obtain ⟨h0, hm⟩ := hm
    simp only [freeL, Bool.and_eq_true] at hf
    obtain ⟨⟨hr, hfr⟩, hf⟩ := hf
    obtain ⟨v, hy, hn⟩ := h
    have hr' : i ∈ Region.ready md ops listed := by simpa using hr
    have hi := hsub i List.mem_cons_self
    rw [List.length_cons, show ps.length + 1 + f = (ps.length + f) + 1 by omega]
    exact headW_first h0 (Region.noSelect_spec hsel) (fun c a w => hQ c a _ v w) hs hc hi hdone _ listed a w hw inv (Region.free_spec h0 hfr) hr' hy
      (headW_pure hsel hQ hs hc hx hdone f hK ps l _ _ w hw hm (fun j hj => hsub j (List.mem_cons_of_mem _ hj)) (inv.set hr' (hx i hi)) hf he hn)

def actB (md : Region.Mode) (ops : Array Oper) (listed : Array Bool) (ps hd : List Nat) (m t : Nat) (tl : List Nat) : Bool :=
  Region.noSelect ops && sinkL md ops t (ps ++ hd ++ [m]) && chainL md ops t tl && sinkL md ops m hd && Region.waitsFor md ops t m && closedL md ops listed && decide (listed.size = ops.size) &&
  ((List.range ops.size).all fun j => listed.getD j true || (ps ++ hd ++ [m]).contains j || (t :: tl).contains j) && ((m :: t :: tl).all fun j => !listed.getD j true) && ((t :: tl).all fun j => !(ps ++ hd ++ [m]).contains j) && (hd.all fun j => !(m :: t :: tl).contains j) &&
  freeL md ops ps listed && ((List.range ops.size).all fun j => (setL ps listed).getD j true || hd.contains j || (m :: t :: tl).contains j) && ((m :: t :: tl).all fun j => !(setL ps listed).getD j true) && headL md ops (m :: t :: tl) hd (setL ps listed)

theorem ord_of {hd tl : List Nat} {listed : Array Bool} (hcl : ∀ j oj, ops[j]? = some oj → listed.getD j false = true → ∀ e ∈ oj.after, Region.binds md e = true → listed.getD e.on false = true) (hsz : listed.size = ops.size)
    (hall : ((List.range ops.size).all fun j => listed.getD j true || hd.contains j || tl.contains j) = true) (htl : (tl.all fun j => !listed.getD j true) = true) : OrdInv md ops hd tl listed := by
  refine ⟨hsz, hcl, fun u hu => ?_, fun j hj hun => ?_⟩
  · have h1 := List.all_eq_true.1 htl u hu
    simpa using h1
  · have h1 := List.all_eq_true.1 hall j (List.mem_range.2 hj)
    simp only [hun, Bool.false_or, Bool.or_eq_true, List.contains_iff_mem] at h1
    exact h1

theorem any_act {a : Act} {w : World} {listed : Array Bool} (ps hd : List Nat) (m t : Nat) (tl : List Nat) (pso hdo tlo : List Oper) (mo : Oper) (hp : ps.map (fun i => ops[i]?) = pso.map some) (hh : hd.map (fun i => ops[i]?) = hdo.map some) (hmo : ops[m]? = some mo)
    (ht : (t :: tl).map (fun i => ops[i]?) = tlo.map some) (hB : actB md ops listed ps hd m t tl = true) (hQ : ∀ c a d v w, Q (.panic c) (a.put d v) w → Q (.panic c) a w) (hC : C w)
    (hmid : ∀ a w, C w → ∀ K, wpOp P ops Q m K a w → wpOp P ops Q m (fun a' w' => C w' ∧ K a' w') a w)
    (h : pureW P ops C (fun a1 => wpQuiet P ops C (fun a' => ∀ w', C w' → wpList P ops Q (mo :: tlo) a' w') hdo a1) pso a) : wpAny P md ops Q (ps.length + (hd.length + 1) + (t :: tl).length) listed a w := by
  simp only [actB, Bool.and_eq_true, decide_eq_true_eq] at hB
  obtain ⟨⟨⟨⟨⟨⟨⟨⟨⟨⟨⟨⟨⟨⟨hsel, hs⟩, hc⟩, hs2⟩, hmt⟩, hcl⟩, hsz⟩, hall⟩, htl⟩, hx⟩, hx2⟩, hf⟩, hall2⟩, htl2⟩, hlex⟩ := hB
  have hcl' : ∀ j oj, ops[j]? = some oj → listed.getD j false = true → ∀ e ∈ oj.after, Region.binds md e = true → listed.getD e.on false = true := fun j oj hj hl e he hb => by
    have h1 := List.all_eq_true.1 hcl j (List.mem_range.2 (Array.getElem?_eq_some_iff.1 hj).1)
    simp only [hl, Bool.not_true, Bool.false_or, hj] at h1
    have h2 := Array.all_eq_true_iff_forall_mem.1 h1 e he
    simpa [hb] using h2
  have inv0 : OrdInv md ops (ps ++ hd ++ [m]) (t :: tl) listed := ord_of hcl' hsz hall (by
    simp only [List.all_cons, Bool.and_eq_true] at htl ⊢; exact htl.2)
  have hxx : ∀ i ∈ ps ++ hd ++ [m], i ∉ t :: tl := fun i hi hi' => by
    have h1 := List.all_eq_true.1 hx i hi'
    simp only [Bool.not_eq_true', List.contains_eq_mem, decide_eq_false_iff_not] at h1
    exact h1 hi
  refine any_of_headW (L := fun listed' a' w' => seqL md ops (t :: tl) listed' = true ∧ wpList P ops Q tlo a' w') (C := C) (tl := t :: tl) (fun listed' a' w' hL => any_of_seqL (t :: tl) tlo listed' a' w' ht hL.1 hL.2) _ _ _ _ ?_
  refine headW_pure (hd := ps ++ hd ++ [m]) hsel hQ hs hc hxx (fun listed' a' w' hL => seqL_ready hL.1) _ (listed' := setL ps listed) (fun a1 w1 hC1 hK1 inv1 => ?_) ps pso listed a w hC hp (fun i hi => by simp [hi]) inv0 hf rfl h
  have inv2 : OrdInv md ops hd (m :: t :: tl) (setL ps listed) := ord_of inv1.closed inv1.size hall2 htl2
  have H := headO_lex (C := C) (P := P) hsel hs2 (show chainL md ops m (t :: tl) = true by simp only [chainL, hmt, hc, Bool.and_self]) (fun i hi hi' => by
    have h1 := List.all_eq_true.1 hx2 i hi
    simp only [Bool.not_eq_true', List.contains_eq_mem, decide_eq_false_iff_not] at h1
    exact h1 hi') hd hdo _ a1 hh (fun _ h => h) inv2 hlex hK1
  refine headW_of_headO (fun listed' a' w' hw' hL => ?_) _ (m :: t :: tl) (fun i hi => List.mem_cons_of_mem _ hi) _ _ _ hC1 H
  obtain ⟨hq, hwp⟩ := hL
  simp only [seqL, Bool.and_eq_true, decide_eq_true_eq] at hq
  refine ⟨(fun h0 => by rw [hq.1] at h0; cases h0), fun i hi => ?_⟩
  rw [hq.1] at hi
  have him : i = m := by simpa using hi
  subst him
  refine ⟨fun hh => hxx i (by simp) hh, ?_⟩
  refine wpOp_mono (fun a'' w'' h'' => ⟨h''.1, show seqL md ops (t :: tl) _ = true ∧ wpList P ops Q tlo a'' w'' from ⟨?_, h''.2⟩⟩) (hmid a' w' hw' (wpList P ops Q tlo) ?_)
  · simp only [seqL, Bool.and_eq_true, decide_eq_true_eq]; exact hq.2
  · unfold wpOp; simp only [hmo]; exact hwp w' hw'

/-- At the class of the worlds that hold what w held. -/
theorem region_act {id : Nat} {a : Act} {w : World} {l : List Oper} (ps hd : List Nat) (m t : Nat) (tl : List Nat) (pso hdo tlo : List Oper) (mo : Oper) (hm : P.follows .mixedOrders = true) (hp : ps.map (fun i => l.toArray[i]?) = pso.map some) (hh : hd.map (fun i => l.toArray[i]?) = hdo.map some) (hmo : l.toArray[m]? = some mo)
    (ht : (t :: tl).map (fun i => l.toArray[i]?) = tlo.map some) (hB : actB .any l.toArray (Array.replicate l.toArray.size false) ps hd m t tl = true) (hsz : ps.length + (hd.length + 1) + (t :: tl).length = l.toArray.size) (hQ : ∀ c a d v w, Q (.panic c) (a.put d v) w → Q (.panic c) a w)
    (hmid : ∀ a w', (∃ p : Regrown, w' = grow (redrawn w p.d) p.os) → ∀ K, wpOp P l.toArray Q m K a w' → wpOp P l.toArray Q m (fun a' w' => (∃ p : Regrown, w' = grow (redrawn w p.d) p.os) ∧ K a' w') a w')
    (h : pureW P l.toArray (fun w' => ∃ p : Regrown, w' = grow (redrawn w p.d) p.os) (fun a1 => wpQuiet P l.toArray (fun w' => ∃ p : Regrown, w' = grow (redrawn w p.d) p.os) (fun a' => ∀ w', (∃ p : Regrown, w' = grow (redrawn w p.d) p.os) → wpList P l.toArray Q (mo :: tlo) a' w') hdo a1) pso a) : (Code.region id l.toArray true).wp P Q a w := by
  refine wp_region_any hm ?_
  have := any_act (C := fun w' => ∃ p : Regrown, w' = grow (redrawn w p.d) p.os) (w := { w with drawn := w.drawn + 1 }) ps hd m t tl pso hdo tlo mo hp hh hmo ht hB hQ ⟨⟨w.drawn + 1, #[]⟩, by rw [grow_empty]; rfl⟩ hmid h
  rwa [hsz] at this

/-- .. in the order of the text: p pure operations, n quiet ones, one that acts, k more. -/
theorem region_act3 {id : Nat} {a : Act} {w : World} {l tlo : List Oper} {mo : Oper} (p n k : Nat) (hm : P.follows .mixedOrders = true) (hp : (List.range p).map (fun i => l.toArray[i]?) = (l.take p).map some) (hh : (List.range' p n).map (fun i => l.toArray[i]?) = ((l.drop p).take n).map some)
    (hdr : l.drop (p + n) = mo :: tlo) (hmo : l.toArray[p + n]? = some mo) (ht : ((p + n + 1) :: List.range' (p + n + 2) k).map (fun i => l.toArray[i]?) = tlo.map some)
    (hB : actB .any l.toArray (Array.replicate l.toArray.size false) (List.range p) (List.range' p n) (p + n) (p + n + 1) (List.range' (p + n + 2) k) = true) (hsz : p + (n + 1) + (k + 1) = l.toArray.size) (hQ : ∀ c a d v w, Q (.panic c) (a.put d v) w → Q (.panic c) a w)
    (hmid : ∀ a w', (∃ p : Regrown, w' = grow (redrawn w p.d) p.os) → ∀ K, wpOp P l.toArray Q (p + n) K a w' → wpOp P l.toArray Q (p + n) (fun a' w' => (∃ p : Regrown, w' = grow (redrawn w p.d) p.os) ∧ K a' w') a w')
    (h : pureW P l.toArray (fun w' => ∃ p : Regrown, w' = grow (redrawn w p.d) p.os) (fun a1 => wpQuiet P l.toArray (fun w' => ∃ p : Regrown, w' = grow (redrawn w p.d) p.os) (fun a' => ∀ w', (∃ p : Regrown, w' = grow (redrawn w p.d) p.os) → wpList P l.toArray Q (l.drop (p + n)) a' w') ((l.drop p).take n) a1) (l.take p) a) : (Code.region id l.toArray true).wp P Q a w := by
  rw [hdr] at h
  exact region_act (List.range p) (List.range' p n) (p + n) (p + n + 1) (List.range' (p + n + 2) k) _ _ tlo mo hm hp hh hmo ht hB (by simpa using hsz) hQ hmid h

theorem any_take : ∀ (ps : List Nat) (l : List Oper) (listed : Array Bool) (a : Act) (w : World) (f : Nat), Region.noSelect ops = true → (∀ c a d v w, Q (.panic c) (a.put d v) w → Q (.panic c) a w) → ps.map (fun i => ops[i]?) = l.map some → freeL md ops ps listed = true →
    pureW P ops (fun _ => True) (fun a' => wpAny P md ops Q f (setL ps listed) a' w) l a → wpAny P md ops Q (ps.length + f) listed a w
  | [], [], listed, a, w, f, _, _, _, _, h => by rw [List.length_nil, Nat.zero_add]; exact h
  | [], _ :: _, _, _, _, _, _, _, hm, _, _ => by simp at hm
  | _ :: _, [], _, _, _, _, _, _, hm, _, _ => by simp at hm
  | i :: ps, o :: l, listed, a, w, f, hsel, hQ, hm, hf, h => by
    simp only [List.map_cons, List.cons.injEq] at hm
    obtain ⟨h0, hm⟩ := hm
    simp only [freeL, Bool.and_eq_true] at hf
    obtain ⟨⟨hr, hfr⟩, hf⟩ := hf
    obtain ⟨v, hy, hn⟩ := h
    rw [List.length_cons, show ps.length + 1 + f = (ps.length + f) + 1 by omega]
    exact wpAny_take h0 hsel hfr hr (fun c a w => hQ c a _ v w) (hy.imp (fun h => ⟨h.1, fun w => h.2 w trivial⟩) id) (any_take ps l _ _ w f hsel hQ hm hf hn)

/-- The operations with these numbers. -/
def selL (l : List Oper) (is : List Nat) : List Oper := is.filterMap fun i => l[i]?

/-- Some operations that yield in whatever world, taken first; some that are quiet; the rest forced. -/
theorem region_take {id : Nat} {a : Act} {w : World} {l : List Oper} (ps hd : List Nat) (t : Nat) (tl : List Nat) (hm : P.follows .mixedOrders = true) (hp : ps.map (fun i => l.toArray[i]?) = (selL l ps).map some) (hh : hd.map (fun i => l.toArray[i]?) = (selL l hd).map some)
    (ht : (t :: tl).map (fun i => l.toArray[i]?) = (selL l (t :: tl)).map some) (hf : freeL .any l.toArray ps (Array.replicate l.toArray.size false) = true) (hB : orderB .any l.toArray (setL ps (Array.replicate l.toArray.size false)) hd t tl = true)
    (hsz : ps.length + (hd.length + (t :: tl).length) = l.toArray.size) (hQ : ∀ c a d v w, Q (.panic c) (a.put d v) w → Q (.panic c) a w)
    (h : pureW P l.toArray (fun _ => True) (fun a1 => wpQuiet P l.toArray (fun w' => ∃ p : Regrown, w' = grow (redrawn w p.d) p.os) (fun a' => ∀ w', (∃ p : Regrown, w' = grow (redrawn w p.d) p.os) → wpList P l.toArray Q (selL l (t :: tl)) a' w') (selL l hd) a1) (selL l ps) a) : (Code.region id l.toArray true).wp P Q a w := by
  refine wp_region_any hm ?_
  have hsel : Region.noSelect l.toArray = true := by
    have hB' := hB
    simp only [orderB, Bool.and_eq_true] at hB'
    exact hB'.1.1.1.1.1.1.1.1
  have hmono : ∀ (ls : List Oper) (a : Act), pureW P l.toArray (fun _ => True) (fun a1 => wpQuiet P l.toArray (fun w' => ∃ p : Regrown, w' = grow (redrawn w p.d) p.os) (fun a' => ∀ w', (∃ p : Regrown, w' = grow (redrawn w p.d) p.os) → wpList P l.toArray Q (selL l (t :: tl)) a' w') (selL l hd) a1) ls a →
      pureW P l.toArray (fun _ => True) (fun a1 => wpAny P .any l.toArray Q (hd.length + (t :: tl).length) (setL ps (Array.replicate l.toArray.size false)) a1 { w with drawn := w.drawn + 1 }) ls a := by
    intro ls
    induction ls with
    | nil => intro a h; exact any_order (C := fun w' => ∃ p : Regrown, w' = grow (redrawn w p.d) p.os) hd t tl _ _ hh ht hB ⟨⟨w.drawn + 1, #[]⟩, by rw [grow_empty]; rfl⟩ h
    | cons o ls ih => intro a h; obtain ⟨v, hy, hn⟩ := h; exact ⟨v, hy, ih _ hn⟩
  have := any_take ps _ _ a { w with drawn := w.drawn + 1 } _ hsel hQ hp hf (hmono _ _ h)
  rwa [hsz] at this

end Go.Proofs.Ytmilljlkcbljpaa
