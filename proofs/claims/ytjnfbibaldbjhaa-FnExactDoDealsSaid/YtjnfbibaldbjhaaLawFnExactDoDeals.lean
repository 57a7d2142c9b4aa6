/- The law FnExactDoDeals of the loaded program answers true, for every input, and leaves its arguments as they were: the statement FnExactDoDealsSaid. No condition. -/
import Derived.Test.YtjnfbibaldbjhaaRows
import Derived.Test.YtjnfbibaldbjhaaPuDoDeals2
set_option linter.unusedVariables false
namespace Go.Proofs.Ytjnfbibaldbjhaa.fnExactDoDeals
open Go.ChangeShapes Go.WideShapes Go.ChangeAt Go.RowKit Go.Vm
theorem own : ownKnob Try.prog.godebug = none := by kernel_rfl
theorem laidOut : laidOutB Try.prog = true := by kernel_rfl
set_option maxRecDepth 100000 in
theorem lifted (os : Os) (started : os.Started) (H : Type) (enc : TypeId × Value → H) :
    ReturnsInHanded {} Try.checked os 5 .any (Rows.fnExactDoDealsSpec.pre6 enc Try.prog Try.f5 Rows.fnExactDoDealsRow.domain false) (Rows.fnExactDoDealsSpec.post enc Try.prog Try.f5 false true false false) := by
  refine returnsInHanded_of_change_sized (C := Try.checked) own started (by kernel_rfl) Try.func5
    (ChangeSpec.witness6 (enc := enc) (C := Try.checked) false ⟨#[], #[.agg #[.int .i64 0, .slice none 0 0, .slice none 0 0], .slice none 0 0], []⟩ 8 (by kernel_rfl) (by kernel_rfl) (by kernel_rfl) (by kernel_rfl)) ?_
  intro W base args ds gs before hval0 hW hcnd hsz0 _
  have hval : ∀ (j : Nat) t v, Try.f5.params[j]? = some t → args[j]? = some v → Value.okWide Try.prog W .any base t v := hval0
  have hW' := hW
  obtain ⟨p, q, hA0, hV, rfl, hfz, hnd⟩ := hW
  have hA : DataW.TrodAll enc Try.prog W 0 (fun _ => true) true Try.f5.params.toList args.toList ds p := hA0
  rw [Try.params5] at hA hval
  obtain ⟨v0, vs0, d0, ds0, p0, q0, hargs, rfl, rfl, h0, r0⟩ := trodAll_cons hA
  obtain ⟨v1, vs1, d1, ds1, p1, q1, rfl, rfl, rfl, h1, r1⟩ := trodAll_cons r0
  obtain ⟨rfl, rfl, rfl⟩ := trodAll_nil r1
  obtain rfl : args = #[v0, v1] := by cases args; simp_all
  obtain ⟨rfl, rfl⟩ := trodVars_none hV
  have lt0 : ∀ x ∈ p0, x.block < W.heap.size := by obtain ⟨m, hm⟩ := h0; exact DataW.trod_lt m _ _ _ hm
  obtain ⟨x0, w0, t0⟩ := open_K tok (t := 25) (by rw [show Tf 25 = (.pr (.int .i64) (.pr (.sl 2 (.int .i64)) (.pr (.sl 134 (.pr (.int .i64) (.pr (.int .i64) (.pr (.int .i64) (.pr (.int .i64) (.pr (.int .i64) .un)))))) .un))) from by kernel_rfl]; simp) (by kernel_rfl) (hval 0 25 v0 rfl rfl) h0
  have lt1 : ∀ x ∈ p1, x.block < W.heap.size := by obtain ⟨m, hm⟩ := h1; exact DataW.trod_lt m _ _ _ hm
  obtain ⟨x1, w1, t1⟩ := open_K tok (t := 26) (by rw [show Tf 26 = (.sl 94 (.pr (.int .i64) (.pr (.int .i8) (.pr (.int .i64) (.pr (.int .i64) (.pr (.int .i64) (.pr (.int .i64) .un))))))) from by kernel_rfl]; simp) (by kernel_rfl) (hval 1 26 v1 rfl rfl) h1
  have hp : g_laws_FnExactDoDeals (x0, (x1, ())) = some (true, ()) := pure_FnExactDoDeals x0 x1 w0 w1
  refine (h_laws_FnExactDoDeals.1.1 W #[v0, v1] (x0, (x1, ())) (true, ()) hp ⟨t0, t1, trivial⟩).mono fun e W' hr => ?_
  cases e with
  | returned v =>
    obtain ⟨hk, g, hR⟩ := hr
    have hv := law_true hR
    subst hv
    have bel := Below_of hk
    exact ⟨_, rfl, _, _, _, [], _, [], hW', trodAll_mk1 (shut_bool Try.underlying4 _), (trodAll_cons_mk (Below.trod laidOut (by kernel_rfl) (of_decide_eq_true (by kernel_rfl)) h0 bel lt0) (trodAll_cons_mk (Below.trod laidOut (by kernel_rfl) (of_decide_eq_true (by kernel_rfl)) h1 bel lt1) trodAll_mk0)), rfl, bel.frame _, fun h => by cases h⟩
  | panicked c => exact hr.elim
  | outgrown => exact hr.elim
theorem over : Rows.fnExactDoDealsRow.holds Try.pinned (OpenSpec.ofChange Rows.fnExactDoDealsSpec) :=
  OpenClaim.holds_of_wide 5 Try.f5 rfl rfl rfl rfl rfl rfl rfl ⟨rfl, rfl, rfl, rfl, rfl⟩ rfl rfl rfl rfl rfl (by kernel_rfl) Try.func5 (by kernel_rfl)
    (of_decide_eq_true (by kernel_rfl)) (by unfold Func.isWrapper; first | (rw [if_pos (by decide +kernel)]; kernel_rfl) | (rw [if_neg (by decide +kernel)]; exact ⟨rfl, rfl⟩))
    (fun os started H enc _ => lifted os started H enc)
end Go.Proofs.Ytjnfbibaldbjhaa.fnExactDoDeals
namespace Go.Proofs.Ytjnfbibaldbjhaa
theorem fnExactDoDeals_holds : Rows.FnExactDoDealsSaid := fnExactDoDeals.over
#print axioms fnExactDoDeals_holds
end Go.Proofs.Ytjnfbibaldbjhaa
