/-
  The statement CurveThen, proved for every input: the walk of its Go text (module LawThen), and the row around it.
-/
import Derived.Test.YtphcianmgpbjmaaRows
import Derived.Test.YtphcianmgpbjmaaLawThen
import Derived.Test.YtphcianmgpbjmaaArr
import Derived.WalkKit
import Derived.ProofKit
import Derived.OpenShut
import Derived.ShutString
import Derived.ChangeOld
import Derived.Below
namespace Go.Proofs.Ytphcianmgpbjmaa.curveThen
open Go.ChangeShapes Go.WideShapes Go.ChangeAt Go.RowKit
set_option linter.unusedVariables false

theorem own : ownKnob Try.prog.godebug = none := by kernel_rfl
theorem laidOut : laidOutB Try.prog = true := by kernel_rfl

theorem walk {w : World} {v00 : Value} {n00 : Nat} {f00 : Nat → Int} (hn00 : n00 ≤ 9223372036854775807) (hs00 : Sl w w.heap.size v00 n00 f00) {v01 : Value} {n01 : Nat} {f01 : Nat → Int} (hn01 : n01 ≤ 9223372036854775807) (hs01 : Sl w w.heap.size v01 n01 f01) {v10 : Value} {n10 : Nat} {f10 : Nat → Int} (hn10 : n10 ≤ 9223372036854775807) (hs10 : Sl w w.heap.size v10 n10 f10) {v11 : Value} {n11 : Nat} {f11 : Nat → Int} (hn11 : n11 ≤ 9223372036854775807) (hs11 : Sl w w.heap.size v11 n11 f11) (a2 : Int) :
    Calls Try.prog 10 #[.agg #[v00, v01], .agg #[v10, v11], .int .i64 a2] w fun e w' => e = .returned (.bool true) ∧ Below w.heap.size w w' := by
  exact curveThen_walk hn00 hn01 hn10 hn11 hs00 hs01 hs10 hs11

set_option maxRecDepth 100000 in
theorem lifted (os : Os) (started : os.Started) (H : Type) (enc : TypeId × Value → H) :
    ReturnsInHanded {} Try.checked os 10 .any (Rows.curveThenSpec.pre6 enc Try.prog Try.f10 Rows.curveThenRow.domain false) (Rows.curveThenSpec.post enc Try.prog Try.f10 false true false false) := by
  refine returnsInHanded_of_change (C := Try.checked) own started (by kernel_rfl) Try.func10
    (ChangeSpec.witness6 (enc := enc) (C := Try.checked) false ⟨#[], #[.agg #[.slice none 0 0, .slice none 0 0], .agg #[.slice none 0 0, .slice none 0 0], .int .i64 0], []⟩ 8 (by kernel_rfl) (by kernel_rfl) (by kernel_rfl) (by kernel_rfl)) ?_
  intro W base args ds gs before hval0 hW hcnd _
  have hval : ∀ (j : Nat) t v, Try.f10.params[j]? = some t → args[j]? = some v → Value.okWide Try.prog W .any base t v := hval0
  have hW' := hW
  obtain ⟨p, q, hA0, hV, rfl, hfz, hnd⟩ := hW
  have hA : DataW.TrodAll enc Try.prog W 0 (fun _ => true) true Try.f10.params.toList args.toList ds p := hA0
  rw [Try.params10] at hA hval
  obtain ⟨v0, vs0, d0, ds0, p0, q0, hargs, rfl, rfl, h0, r0⟩ := trodAll_cons hA
  obtain ⟨v1, vs1, d1, ds1, p1, q1, rfl, rfl, rfl, h1, r1⟩ := trodAll_cons r0
  obtain ⟨v2, vs2, d2, ds2, p2, q2, rfl, rfl, rfl, h2, r2⟩ := trodAll_cons r1
  obtain ⟨rfl, rfl, rfl⟩ := trodAll_nil r2
  obtain rfl : args = #[v0, v1, v2] := by cases args; simp_all
  obtain ⟨rfl, rfl⟩ := trodVars_none hV
  have k0 := h0
  have lt0 : ∀ x ∈ p0, x.block < W.heap.size := by obtain ⟨m, hm⟩ := k0; exact DataW.trod_lt m _ _ _ hm
  obtain ⟨v00, v01, rfl, ⟨n00, f00, hn00, hs00⟩, n01, f01, hn01, hs01⟩ := open_sl2 Try.underlying46 Try.underlying23 (by kernel_rfl) (by kernel_rfl) (hval 0 46 v0 rfl rfl) h0
  have k1 := h1
  have lt1 : ∀ x ∈ p1, x.block < W.heap.size := by obtain ⟨m, hm⟩ := k1; exact DataW.trod_lt m _ _ _ hm
  obtain ⟨v10, v11, rfl, ⟨n10, f10, hn10, hs10⟩, n11, f11, hn11, hs11⟩ := open_sl2 Try.underlying47 Try.underlying22 (by kernel_rfl) (by kernel_rfl) (hval 1 47 v1 rfl rfl) h1
  obtain ⟨a2, rfl, rfl, rfl, w2⟩ := open_int Try.underlying3 (hval 2 3 v2 rfl rfl) h2
  clear hA0 hval0
  refine (walk hn00 hs00 hn01 hs01 hn10 hs10 hn11 hs11 a2).mono fun e W' ⟨he, bel⟩ => ?_
  subst he
  exact ⟨_, rfl, _, _, _, [], _, [], hW', trodAll_mk1 (shut_bool Try.underlying4 _), (trodAll_cons_mk (Below.trod laidOut (by kernel_rfl) (of_decide_eq_true (by kernel_rfl)) k0 bel lt0) (trodAll_cons_mk (Below.trod laidOut (by kernel_rfl) (of_decide_eq_true (by kernel_rfl)) k1 bel lt1) (trodAll_cons_mk (shut_int Try.underlying3 w2) trodAll_mk0))), rfl, bel.frame _, fun h => by cases h⟩

theorem over : Rows.curveThenRow.holds Try.pinned (OpenSpec.ofChange Rows.curveThenSpec) :=
  OpenClaim.holds_of_wide 10 Try.f10 rfl rfl rfl rfl rfl rfl rfl ⟨rfl, rfl, rfl, rfl, rfl⟩ rfl rfl rfl rfl rfl (by kernel_rfl) Try.func10 (by kernel_rfl)
    (of_decide_eq_true (by kernel_rfl)) (by unfold Func.isWrapper; first | (rw [if_pos (by decide +kernel)]; kernel_rfl) | (rw [if_neg (by decide +kernel)]; exact ⟨rfl, rfl⟩))
    (fun os started H enc _ => lifted os started H enc)

theorem proved : Rows.CurveThenSaid := over
#print axioms proved
end Go.Proofs.Ytphcianmgpbjmaa.curveThen
