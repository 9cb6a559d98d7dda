/- A region that draws its order: pure operations, then ones that act, in a forced order, keeping the class; then the rest. -/
import Derived.Test.YtmilljlkcbljpaaQw
namespace Go.Proofs.Ytmilljlkcbljpaa
open Go.RowKit Go.Sort
variable {P : Program} {ops : Array Oper} {md : Region.Mode} {C : World → Prop} {Q : Exit → Act → World → Prop}

def actW (P : Program) (ops : Array Oper) (C : World → Prop) (Q : Exit → Act → World → Prop) (K : Act → World → Prop) : List Oper → Act → World → Prop
  | [], a, w => K a w
  | o :: l, a, w => if Region.wanted o (yielded ops a.tmps) then o.wp P a w (fun a' w' => C w' ∧ actW P ops C Q K l a' w') Q else (C w ∧ actW P ops C Q K l (a.put o.dst undef) w)
theorem actW_nil {K : Act → World → Prop} {a : Act} {w : World} (h : K a w) : actW P ops C Q K [] a w := h
theorem actW_step {K : Act → World → Prop} {o : Oper} {l : List Oper} {a : Act} {w : World} (hw : Region.wanted o (yielded ops a.tmps) = true) (h : ∀ K' : Act → World → Prop, (∀ a w, C w → actW P ops C Q K l a w → K' a w) → o.wp P a w K' Q) : actW P ops C Q K (o :: l) a w := by
  unfold actW; rw [if_pos hw]; exact h _ fun _ _ h1 h2 => ⟨h1, h2⟩

def seqM (md : Region.Mode) (ops : Array Oper) : List Nat → Array Bool → Bool
  | [], _ => true
  | t :: tl, listed => decide (Region.ready md ops listed = [t]) && seqM md ops tl (listed.setIfInBounds t true)

theorem headW_act {tl : List Nat} {L : Array Bool → Act → World → Prop} : ∀ (ms : List Nat) (l : List Oper) (listed : Array Bool) (a : Act) (w : World), ms.map (fun i => ops[i]?) = l.map some → seqM md ops ms listed = true → (∀ i ∈ ms, i ∉ tl) →
    actW P ops C Q (fun a w => L (setL ms listed) a w) l a w → headW P md ops C Q tl L ms.length listed a w
  | [], [], _, _, _, _, _, _, h => h
  | [], _ :: _, _, _, _, hm, _, _, _ => by simp at hm
  | _ :: _, [], _, _, _, hm, _, _, _ => by simp at hm
  | m :: ms, o :: l, listed, a, w, hm, hs, hx, h => by
    simp only [List.map_cons, List.cons.injEq] at hm
    obtain ⟨h0, hm⟩ := hm
    simp only [seqM, Bool.and_eq_true, decide_eq_true_eq] at hs
    refine ⟨(fun h1 => by rw [hs.1] at h1; cases h1), fun i hi => ?_⟩
    rw [hs.1] at hi
    have hik : i = m := by simpa using hi
    subst hik
    refine ⟨hx i List.mem_cons_self, ?_⟩
    have ih := fun a' w' h' => headW_act (tl := tl) (L := L) ms l (listed.setIfInBounds i true) a' w' hm hs.2 (fun j hj => hx j (List.mem_cons_of_mem _ hj)) h'
    unfold actW at h
    unfold wpOp
    simp only [h0]
    split
    · rename_i hw
      rw [if_pos hw] at h
      exact .inl (Oper.wp_mono (fun a' w' h' => ⟨h'.1, ih a' w' h'.2⟩) h)
    · rename_i hw
      rw [if_neg hw] at h
      exact ⟨h.1, ih _ _ h.2⟩

def seqB' (md : Region.Mode) (ops : Array Oper) (listed : Array Bool) (ps ms : List Nat) (t : Nat) (tl : List Nat) : Bool :=
  Region.noSelect ops && sinkL md ops t (ps ++ ms) && chainL md ops t tl && closedL md ops listed && decide (listed.size = ops.size) &&
  ((List.range ops.size).all fun j => listed.getD j true || (ps ++ ms).contains j || (t :: tl).contains j) && ((t :: tl).all fun j => !listed.getD j true) && ((t :: tl).all fun j => !(ps ++ ms).contains j) &&
  freeL md ops ps listed && seqM md ops ms (setL ps listed) && seqL md ops (t :: tl) (setL ms (setL ps listed))

theorem any_seq {a : Act} {w : World} {listed : Array Bool} (ps ms : List Nat) (t : Nat) (tl : List Nat) (pso mso tlo : List Oper) (hp : ps.map (fun i => ops[i]?) = pso.map some) (hms : ms.map (fun i => ops[i]?) = mso.map some)
    (ht : (t :: tl).map (fun i => ops[i]?) = tlo.map some) (hB : seqB' md ops listed ps ms t tl = true) (hQ : ∀ c a d v w, Q (.panic c) (a.put d v) w → Q (.panic c) a w) (hC : C w)
    (h : pureW P ops C (fun a1 => ∀ w1, C w1 → actW P ops C Q (fun a w => wpList P ops Q tlo a w) mso a1 w1) pso a) : wpAny P md ops Q (ps.length + ms.length + (t :: tl).length) listed a w := by
  simp only [seqB', Bool.and_eq_true, decide_eq_true_eq] at hB
  obtain ⟨⟨⟨⟨⟨⟨⟨⟨⟨⟨hsel, hs⟩, hc⟩, hcl⟩, hsz⟩, hall⟩, htl⟩, hx⟩, hf⟩, hsm⟩, hsl⟩ := hB
  have hcl' : ∀ j oj, ops[j]? = some oj → listed.getD j false = true → ∀ e ∈ oj.after, Region.binds md e = true → listed.getD e.on false = true := fun j oj hj hl e he hb => by
    have h1 := List.all_eq_true.1 hcl j (List.mem_range.2 (Array.getElem?_eq_some_iff.1 hj).1)
    simp only [hl, Bool.not_true, Bool.false_or, hj] at h1
    have h2 := Array.all_eq_true_iff_forall_mem.1 h1 e he
    simpa [hb] using h2
  have inv0 : OrdInv md ops (ps ++ ms) (t :: tl) listed := ord_of hcl' hsz hall htl
  have hxx : ∀ i ∈ ps ++ ms, i ∉ t :: tl := fun i hi hi' => by
    have h1 := List.all_eq_true.1 hx i hi'
    simp only [Bool.not_eq_true', List.contains_eq_mem, decide_eq_false_iff_not] at h1
    exact h1 hi
  refine any_of_headW (L := fun listed' a' w' => seqL md ops (t :: tl) listed' = true ∧ wpList P ops Q tlo a' w') (C := C) (tl := t :: tl) (fun listed' a' w' hL => any_of_seqL (t :: tl) tlo listed' a' w' ht hL.1 hL.2) _ _ _ _ ?_
  refine headW_pure (hd := ps ++ ms) hsel hQ hs hc hxx (fun listed' a' w' hL => seqL_ready hL.1) _ (listed' := setL ps listed) (fun a1 w1 hC1 hK1 inv1 => ?_) ps pso listed a w hC hp (fun i hi => by simp [hi]) inv0 hf rfl h
  refine headW_act ms mso _ a1 w1 hms hsm (fun i hi => hxx i (by simp [hi])) ?_
  have hmono : ∀ (l : List Oper) (a : Act) (w : World), actW P ops C Q (fun a w => wpList P ops Q tlo a w) l a w → actW P ops C Q (fun a w => seqL md ops (t :: tl) (setL ms (setL ps listed)) = true ∧ wpList P ops Q tlo a w) l a w := by
    intro l
    induction l with
    | nil => intro a w h; exact ⟨hsl, h⟩
    | cons o l ih =>
      intro a w h
      unfold actW at h ⊢
      split
      · rename_i hw
        rw [if_pos hw] at h
        exact Oper.wp_mono (fun a' w' h' => ⟨h'.1, ih a' w' h'.2⟩) h
      · rename_i hw
        rw [if_neg hw] at h
        exact ⟨h.1, ih _ _ h.2⟩
  exact hmono _ _ _ (hK1 w1 hC1)

theorem region_seq {id : Nat} {a : Act} {w : World} {l : List Oper} (ps ms : List Nat) (t : Nat) (tl : List Nat) (hm : P.follows .mixedOrders = true) (hp : ps.map (fun i => l.toArray[i]?) = (selL l ps).map some) (hms : ms.map (fun i => l.toArray[i]?) = (selL l ms).map some)
    (ht : (t :: tl).map (fun i => l.toArray[i]?) = (selL l (t :: tl)).map some) (hB : seqB' .any l.toArray (Array.replicate l.toArray.size false) ps ms t tl = true) (hsz : ps.length + ms.length + (t :: tl).length = l.toArray.size) (hQ : ∀ c a d v w, Q (.panic c) (a.put d v) w → Q (.panic c) a w)
    (h : pureW P l.toArray (fun w' => Below w.heap.size w w') (fun a1 => ∀ w1, Below w.heap.size w w1 → actW P l.toArray (fun w' => Below w.heap.size w w') Q (fun a w => wpList P l.toArray Q (selL l (t :: tl)) a w) (selL l ms) a1 w1) (selL l ps) a) : (Code.region id l.toArray true).wp P Q a w := by
  refine wp_region_any hm ?_
  have := any_seq (C := fun w' => Below w.heap.size w w') (w := { w with drawn := w.drawn + 1 }) ps ms t tl _ _ _ hp hms ht hB hQ ⟨rfl, rfl, rfl, Nat.le_refl _, fun _ _ => rfl⟩ h
  rwa [hsz] at this

end Go.Proofs.Ytmilljlkcbljpaa
