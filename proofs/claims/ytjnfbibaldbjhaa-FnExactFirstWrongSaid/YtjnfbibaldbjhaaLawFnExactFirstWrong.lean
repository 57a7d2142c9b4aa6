/- The law FnExactFirstWrong of the loaded program answers true, for every input, and leaves its arguments as they were: the statement FnExactFirstWrongSaid. No condition. -/
import Derived.Test.YtjnfbibaldbjhaaRows
import Derived.Test.YtjnfbibaldbjhaaPuFirstWrong
set_option linter.unusedVariables false
namespace Go.Proofs.Ytjnfbibaldbjhaa.fnExactFirstWrong
open Go.ChangeShapes Go.WideShapes Go.ChangeAt Go.RowKit Go.Vm
theorem own : ownKnob Try.prog.godebug = none := by kernel_rfl
theorem laidOut : laidOutB Try.prog = true := by kernel_rfl
set_option maxRecDepth 100000 in
theorem lifted (os : Os) (started : os.Started) (H : Type) (enc : TypeId × Value → H) :
    ReturnsInHanded {} Try.checked os 3 .any (Rows.fnExactFirstWrongSpec.pre6 enc Try.prog Try.f3 Rows.fnExactFirstWrongRow.domain false) (Rows.fnExactFirstWrongSpec.post enc Try.prog Try.f3 false true false false) := by
  refine returnsInHanded_of_change_sized (C := Try.checked) own started (by kernel_rfl) Try.func3
    (ChangeSpec.witness6 (enc := enc) (C := Try.checked) false ⟨#[], #[.agg #[.int .i64 0, .slice none 0 0, .slice none 0 0], .slice none 0 0, .slice none 0 0], []⟩ 8 (by kernel_rfl) (by kernel_rfl) (by kernel_rfl) (by kernel_rfl)) ?_
  intro W base args ds gs before hval0 hW hcnd hsz0 _
  have hval : ∀ (j : Nat) t v, Try.f3.params[j]? = some t → args[j]? = some v → Value.okWide Try.prog W .any base t v := hval0
  have hW' := hW
  obtain ⟨p, q, hA0, hV, rfl, hfz, hnd⟩ := hW
  have hA : DataW.TrodAll enc Try.prog W 0 (fun _ => true) true Try.f3.params.toList args.toList ds p := hA0
  rw [Try.params3] at hA hval
  obtain ⟨v0, vs0, d0, ds0, p0, q0, hargs, rfl, rfl, h0, r0⟩ := trodAll_cons hA
  obtain ⟨v1, vs1, d1, ds1, p1, q1, rfl, rfl, rfl, h1, r1⟩ := trodAll_cons r0
  obtain ⟨v2, vs2, d2, ds2, p2, q2, rfl, rfl, rfl, h2, r2⟩ := trodAll_cons r1
  obtain ⟨rfl, rfl, rfl⟩ := trodAll_nil r2
  obtain rfl : args = #[v0, v1, v2] := by cases args; simp_all
  obtain ⟨rfl, rfl⟩ := trodVars_none hV
  have lt0 : ∀ x ∈ p0, x.block < W.heap.size := by obtain ⟨m, hm⟩ := h0; exact DataW.trod_lt m _ _ _ hm
  obtain ⟨x0, w0, t0⟩ := open_K tok (t := 25) (by rw [show Tf 25 = (.pr (.int .i64) (.pr (.sl 2 (.int .i64)) (.pr (.sl 134 (.pr (.int .i64) (.pr (.int .i64) (.pr (.int .i64) (.pr (.int .i64) (.pr (.int .i64) .un)))))) .un))) from by kernel_rfl]; simp) (by kernel_rfl) (hval 0 25 v0 rfl rfl) h0
  have lt1 : ∀ x ∈ p1, x.block < W.heap.size := by obtain ⟨m, hm⟩ := h1; exact DataW.trod_lt m _ _ _ hm
  obtain ⟨x1, w1, t1⟩ := open_K tok (t := 26) (by rw [show Tf 26 = (.sl 94 (.pr (.int .i64) (.pr (.int .i8) (.pr (.int .i64) (.pr (.int .i64) (.pr (.int .i64) (.pr (.int .i64) .un))))))) from by kernel_rfl]; simp) (by kernel_rfl) (hval 1 26 v1 rfl rfl) h1
  have lt2 : ∀ x ∈ p2, x.block < W.heap.size := by obtain ⟨m, hm⟩ := h2; exact DataW.trod_lt m _ _ _ hm
  obtain ⟨x2, w2, t2⟩ := open_K tok (t := 27) (by rw [show Tf 27 = (.sl 25 (.pr (.int .i64) (.pr (.sl 2 (.int .i64)) (.pr (.sl 134 (.pr (.int .i64) (.pr (.int .i64) (.pr (.int .i64) (.pr (.int .i64) (.pr (.int .i64) .un)))))) .un)))) from by kernel_rfl]; simp) (by kernel_rfl) (hval 2 27 v2 rfl rfl) h2
  have hp : g_laws_FnExactFirstWrong (x0, (x1, (x2, ()))) = some (true, ()) := pure_FnExactFirstWrong x0 x1 x2 w0 w1 w2
  refine (h_laws_FnExactFirstWrong.1 W #[v0, v1, v2] (x0, (x1, (x2, ()))) (true, ()) hp ⟨t0, t1, t2, trivial⟩).mono fun e W' hr => ?_
  cases e with
  | returned v =>
    obtain ⟨hk, g, hR⟩ := hr
    have hv := law_true hR
    subst hv
    have bel := Below_of hk
    exact ⟨_, rfl, _, _, _, [], _, [], hW', trodAll_mk1 (shut_bool Try.underlying4 _), (trodAll_cons_mk (Below.trod laidOut (by kernel_rfl) (of_decide_eq_true (by kernel_rfl)) h0 bel lt0) (trodAll_cons_mk (Below.trod laidOut (by kernel_rfl) (of_decide_eq_true (by kernel_rfl)) h1 bel lt1) (trodAll_cons_mk (Below.trod laidOut (by kernel_rfl) (of_decide_eq_true (by kernel_rfl)) h2 bel lt2) trodAll_mk0))), rfl, bel.frame _, fun h => by cases h⟩
  | panicked c => exact hr.elim
  | outgrown => exact hr.elim
theorem over : Rows.fnExactFirstWrongRow.holds Try.pinned (OpenSpec.ofChange Rows.fnExactFirstWrongSpec) :=
  OpenClaim.holds_of_wide 3 Try.f3 rfl rfl rfl rfl rfl rfl rfl ⟨rfl, rfl, rfl, rfl, rfl⟩ rfl rfl rfl rfl rfl (by kernel_rfl) Try.func3 (by kernel_rfl)
    (of_decide_eq_true (by kernel_rfl)) (by unfold Func.isWrapper; first | (rw [if_pos (by decide +kernel)]; kernel_rfl) | (rw [if_neg (by decide +kernel)]; exact ⟨rfl, rfl⟩))
    (fun os started H enc _ => lifted os started H enc)
end Go.Proofs.Ytjnfbibaldbjhaa.fnExactFirstWrong
namespace Go.Proofs.Ytjnfbibaldbjhaa
theorem fnExactFirstWrong_holds : Rows.FnExactFirstWrongSaid := fnExactFirstWrong.over
#print axioms fnExactFirstWrong_holds
end Go.Proofs.Ytjnfbibaldbjhaa
