/-
  The statement CurveError, proved for every input: the walk of its Go text (module LawErr), and the row around it.
-/
import Derived.Test.YtphcianmgpbjmaaRows
import Derived.Test.YtphcianmgpbjmaaLawErr
import Derived.Test.YtphcianmgpbjmaaArr
import Derived.WalkKit
import Derived.ProofKit
import Derived.OpenShut
import Derived.ShutString
import Derived.ChangeOld
import Derived.Below
namespace Go.Proofs.Ytphcianmgpbjmaa.curveError
open Go.ChangeShapes Go.WideShapes Go.ChangeAt Go.RowKit
set_option linter.unusedVariables false

theorem own : ownKnob Try.prog.godebug = none := by kernel_rfl
theorem laidOut : laidOutB Try.prog = true := by kernel_rfl

theorem walk {w : World} {v0 : Value} {n0 : Nat} {f0 : Nat → Int} (hn0 : n0 ≤ 9223372036854775807) (hs0 : Sl w w.heap.size v0 n0 f0) {v10 : Value} {n10 : Nat} {f10 : Nat → Int} (hn10 : n10 ≤ 9223372036854775807) (hs10 : Sl w w.heap.size v10 n10 f10) {v11 : Value} {n11 : Nat} {f11 : Nat → Int} (hn11 : n11 ≤ 9223372036854775807) (hs11 : Sl w w.heap.size v11 n11 f11) :
    Calls Try.prog 13 #[v0, .agg #[v10, v11]] w fun e w' => e = .returned (.bool true) ∧ Below w.heap.size w w' := by
  exact curveError_walk hn0 hn10 hn11 hs0 hs10 hs11

set_option maxRecDepth 100000 in
theorem lifted (os : Os) (started : os.Started) (H : Type) (enc : TypeId × Value → H) :
    ReturnsInHanded {} Try.checked os 13 .any (Rows.curveErrorSpec.pre6 enc Try.prog Try.f13 Rows.curveErrorRow.domain false) (Rows.curveErrorSpec.post enc Try.prog Try.f13 false true false false) := by
  refine returnsInHanded_of_change (C := Try.checked) own started (by kernel_rfl) Try.func13
    (ChangeSpec.witness6 (enc := enc) (C := Try.checked) false ⟨#[], #[.slice none 0 0, .agg #[.slice none 0 0, .slice none 0 0]], []⟩ 8 (by kernel_rfl) (by kernel_rfl) (by kernel_rfl) (by kernel_rfl)) ?_
  intro W base args ds gs before hval0 hW hcnd _
  have hval : ∀ (j : Nat) t v, Try.f13.params[j]? = some t → args[j]? = some v → Value.okWide Try.prog W .any base t v := hval0
  have hW' := hW
  obtain ⟨p, q, hA0, hV, rfl, hfz, hnd⟩ := hW
  have hA : DataW.TrodAll enc Try.prog W 0 (fun _ => true) true Try.f13.params.toList args.toList ds p := hA0
  rw [Try.params13] at hA hval
  obtain ⟨v0, vs0, d0, ds0, p0, q0, hargs, rfl, rfl, h0, r0⟩ := trodAll_cons hA
  obtain ⟨v1, vs1, d1, ds1, p1, q1, rfl, rfl, rfl, h1, r1⟩ := trodAll_cons r0
  obtain ⟨rfl, rfl, rfl⟩ := trodAll_nil r1
  obtain rfl : args = #[v0, v1] := by cases args; simp_all
  obtain ⟨rfl, rfl⟩ := trodVars_none hV
  have k0 := h0
  have lt0 : ∀ x ∈ p0, x.block < W.heap.size := by obtain ⟨m, hm⟩ := k0; exact DataW.trod_lt m _ _ _ hm
  obtain ⟨n0, f0, hn0, hs0⟩ := open_sl Try.underlying23 (hval 0 23 v0 rfl rfl) h0
  have k1 := h1
  have lt1 : ∀ x ∈ p1, x.block < W.heap.size := by obtain ⟨m, hm⟩ := k1; exact DataW.trod_lt m _ _ _ hm
  obtain ⟨v10, v11, rfl, ⟨n10, f10, hn10, hs10⟩, n11, f11, hn11, hs11⟩ := open_sl2 Try.underlying47 Try.underlying22 (by kernel_rfl) (by kernel_rfl) (hval 1 47 v1 rfl rfl) h1
  clear hA0 hval0
  refine (walk hn0 hs0 hn10 hs10 hn11 hs11).mono fun e W' ⟨he, bel⟩ => ?_
  subst he
  exact ⟨_, rfl, _, _, _, [], _, [], hW', trodAll_mk1 (shut_bool Try.underlying4 _), (trodAll_cons_mk (Below.trod laidOut (by kernel_rfl) (of_decide_eq_true (by kernel_rfl)) k0 bel lt0) (trodAll_cons_mk (Below.trod laidOut (by kernel_rfl) (of_decide_eq_true (by kernel_rfl)) k1 bel lt1) trodAll_mk0)), rfl, bel.frame _, fun h => by cases h⟩

theorem over : Rows.curveErrorRow.holds Try.pinned (OpenSpec.ofChange Rows.curveErrorSpec) :=
  OpenClaim.holds_of_wide 13 Try.f13 rfl rfl rfl rfl rfl rfl rfl ⟨rfl, rfl, rfl, rfl, rfl⟩ rfl rfl rfl rfl rfl (by kernel_rfl) Try.func13 (by kernel_rfl)
    (of_decide_eq_true (by kernel_rfl)) (by unfold Func.isWrapper; first | (rw [if_pos (by decide +kernel)]; kernel_rfl) | (rw [if_neg (by decide +kernel)]; exact ⟨rfl, rfl⟩))
    (fun os started H enc _ => lifted os started H enc)

theorem proved : Rows.CurveErrorSaid := over
#print axioms proved
end Go.Proofs.Ytphcianmgpbjmaa.curveError
