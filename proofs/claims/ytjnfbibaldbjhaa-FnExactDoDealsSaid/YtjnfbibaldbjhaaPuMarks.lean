/- What is marked is told by its numbers; what is marked is held. -/
import Derived.Test.YtjnfbibaldbjhaaPuBooks
set_option linter.unusedVariables false
set_option linter.unusedSimpArgs false
namespace Go.Proofs.Ytjnfbibaldbjhaa
open Go.Vm

def mI (k : Int) (n : Nat) : List Int := (List.range n).map fun (i : Nat) => k + (i : Int)
def mT (k : Int) (n : Nat) : List Tal := (List.range n).map fun (i : Nat) => (k + 5 * (i : Int), (k + 5 * (i : Int) + 1, (k + 5 * (i : Int) + 2, (k + 5 * (i : Int) + 3, (k + 5 * (i : Int) + 4, ())))))

theorem p_markInt64S (k : Int) (l : List Int) (h : l.length ≤ 1048576) (h0 : 0 ≤ k) (h1 : k ≤ 1073741824) : g_laws_markInt64S (k, (l, ())) = some (k + l.length, (mI k l.length, ())) := by
  unfold g_laws_markInt64S
  simp only [w_bnd, w_chk, w_br, w_cal, w_jn, w_out, w_lop, decide_eq_true_eq]
  have := loop_map (xs := List.range l.length) (F := fun i => k + (i : Int)) (a0 := l) (st := fun i a => (k + (i : Int), ((i : Int), (a, ()))))
    (fin := fun a => (k + (l.length : Int), (a, ()))) (step := fun s0 : Int × Int × List Int × Unit => if s0.2.1 < (s0.2.2.1.length : Int) then
      if (0 : Int) ≤ s0.2.1 ∧ s0.2.1 < (s0.2.2.1.length : Int) then some (Sum.inl (Go.IntKind.wrap .i64 (s0.1 + 1), (Go.IntKind.wrap .i64 (s0.2.1 + 1), (s0.2.2.1.set s0.2.1.toNat s0.1, ())))) else none
      else some (Sum.inr (s0.1, (s0.2.2.1, ())))) (by simp) (fun i hi a ha => ?_) (fun a ha => ?_)
  · simpa [mI] using this
  · simp at hi ha
    have e1 := wrap64 (n := k + (i : Int) + 1) (by omega) (by omega)
    have e2 := wrap64 (n := (i : Int) + 1) (by omega) (by omega)
    dsimp only
    rw [if_pos (by omega), if_pos (by omega), e1, e2]
    simp
    omega
  · simp at ha
    simp [ha]

theorem mI_len {k : Int} {n : Nat} : (mI k n).length = n := by simp [mI]
theorem mT_len {k : Int} {n : Nat} : (mT k n).length = n := by simp [mT]

theorem p_markTallyS (k : Int) (l : List Tal) (h : l.length ≤ 1048576) (h0 : 0 ≤ k) (h1 : k ≤ 1073741824) : g_laws_markTallyS (k, (l, ())) = some (k + 5 * l.length, (mT k l.length, ())) := by
  unfold g_laws_markTallyS
  simp only [w_bnd, w_chk, w_br, w_cal, w_jn, w_out, w_lop, decide_eq_true_eq]
  have key := fun step hs he => loop_map (step := step) (xs := List.range l.length) (F := fun (i : Nat) => ((k + 5 * (i : Int), (k + 5 * (i : Int) + 1, (k + 5 * (i : Int) + 2, (k + 5 * (i : Int) + 3, (k + 5 * (i : Int) + 4, ()))))) : Tal)) (a0 := l) (st := fun i a => (k + 5 * (i : Int), ((i : Int), (a, ()))))
    (fin := fun a => (k + 5 * (l.length : Int), (a, ()))) (by simp) hs he
  have h5 : (k, ((0 : Int), (l, ()))) = (k + 5 * ((0 : Nat) : Int), (((0 : Nat) : Int), (l, ()))) := by simp
  rw [h5]
  refine (key _ (fun i hi a ha => ?_) (fun a ha => ?_)).trans (by simp [mT])
  · simp at hi ha
    have e1 := wrap64 (n := k + 5 * (i : Int) + 1) (by omega) (by omega)
    have e2 := wrap64 (n := k + 5 * (i : Int) + 1 + 1) (by omega) (by omega)
    have e3 := wrap64 (n := k + 5 * (i : Int) + 1 + 1 + 1) (by omega) (by omega)
    have e4 := wrap64 (n := k + 5 * (i : Int) + 1 + 1 + 1 + 1) (by omega) (by omega)
    have e5 := wrap64 (n := k + 5 * (i : Int) + 1 + 1 + 1 + 1 + 1) (by omega) (by omega)
    have e6 := wrap64 (n := (i : Int) + 1) (by omega) (by omega)
    dsimp only
    simp only [e1, e2, e3, e4, e5, e6, List.length_set]
    have hb : (0 : Int) ≤ (i : Int) ∧ (i : Int) < (a.length : Int) := by omega
    have hlt : i < a.length := by omega
    rw [if_pos hb.2]
    simp only [if_pos hb, Int.toNat_natCast, set_getD_self, hlt, List.length_set, List.set_set]
    simp
    exact ⟨by omega, congrArg _ (Prod.ext rfl (Prod.ext rfl (Prod.ext (by dsimp only; omega) (Prod.ext (by dsimp only; omega) (Prod.ext (by dsimp only; omega) rfl)))))⟩
  · simp at ha
    dsimp only
    rw [if_neg (by simp [ha])]
    simp

theorem runL_inl {α σ β : Type} {fin : σ → β} {a : σ} : ∀ (xs : List α) (i : Nat), runL (fun _ _ a => (.inl a : σ ⊕ β)) fin i xs a = fin a := by
  intro xs
  induction xs with
  | nil => intro i; rfl
  | cons x r ih => intro i; exact ih (i + 1)

theorem p_heldInt64S (k : Int) (n : Nat) (h : n ≤ 1048576) (h0 : 0 ≤ k) (h1 : k ≤ 1073741824) : g_laws_heldInt64S (mI k n, (k, ())) = some (k + n, ()) := by
  unfold g_laws_heldInt64S
  simp only [w_bnd, w_chk, w_br, w_cal, w_jn, w_out, w_lop, decide_eq_true_eq]
  have key := fun step hs he => loop_run (step := step) (σ := Unit) (xs := mI k n) (st := fun i _ => (mI k n, (k + (i : Int), ((i : Int), ())))) (fun _ _ => True) (fun _ _ _ => .inl ()) (fun _ => (k + (n : Int), ())) hs he (a := ()) trivial
  have h5 : (mI k n, (k, ((0 : Int), ()))) = (mI k n, (k + ((0 : Nat) : Int), (((0 : Nat) : Int), ()))) := by simp
  rw [h5]
  refine (key _ (fun i hi a _ => ⟨?_, fun _ _ => trivial⟩) (fun a _ => ?_)).trans (by rw [show (fun _ _ _ => .inl () : Nat → Int → Unit → Unit ⊕ (Int × Unit)) = fun _ _ a => .inl a from rfl, runL_inl])
  · have hin : i < n := by simpa [mI_len] using hi
    have e1 := wrap64 (n := k + (i : Int) + 1) (by omega) (by omega)
    have e2 := wrap64 (n := (i : Int) + 1) (by omega) (by omega)
    have hg : (mI k n).getD ((i : Int)).toNat (dz (.int .i64)) = k + (i : Int) := by simp [mI, hin]
    dsimp only
    rw [if_pos (by rw [mI_len]; omega), if_pos (by rw [mI_len]; omega), hg, e1, e2]
    simp
    omega
  · simp [mI_len]

theorem p_heldTallyS (k : Int) (n : Nat) (h : n ≤ 1048576) (h0 : 0 ≤ k) (h1 : k ≤ 1073741824) : g_laws_heldTallyS (mT k n, (k, ())) = some (k + 5 * n, ()) := by
  unfold g_laws_heldTallyS
  simp only [w_bnd, w_chk, w_br, w_cal, w_jn, w_out, w_lop, decide_eq_true_eq]
  have key := fun step hs he => loop_run (step := step) (σ := Unit) (xs := mT k n) (st := fun i _ => (mT k n, (k + 5 * (i : Int), ((i : Int), ())))) (fun _ _ => True) (fun _ _ _ => .inl ()) (fun _ => (k + 5 * (n : Int), ())) hs he (a := ()) trivial
  have h5 : (mT k n, (k, ((0 : Int), ()))) = (mT k n, (k + 5 * ((0 : Nat) : Int), (((0 : Nat) : Int), ()))) := by simp
  rw [h5]
  refine (key _ (fun i hi a _ => ⟨?_, fun _ _ => trivial⟩) (fun a _ => ?_)).trans (by rw [show (fun _ _ _ => .inl () : Nat → Tal → Unit → Unit ⊕ (Int × Unit)) = fun _ _ a => .inl a from rfl, runL_inl])
  · have hin : i < n := by simpa [mT_len] using hi
    have e1 := wrap64 (n := k + 5 * (i : Int) + 1) (by omega) (by omega)
    have e2 := wrap64 (n := k + 5 * (i : Int) + 1 + 1) (by omega) (by omega)
    have e3 := wrap64 (n := k + 5 * (i : Int) + 1 + 1 + 1) (by omega) (by omega)
    have e4 := wrap64 (n := k + 5 * (i : Int) + 1 + 1 + 1 + 1) (by omega) (by omega)
    have e5 := wrap64 (n := k + 5 * (i : Int) + 1 + 1 + 1 + 1 + 1) (by omega) (by omega)
    have e6 := wrap64 (n := (i : Int) + 1) (by omega) (by omega)
    have hg : (mT k n).getD ((i : Int)).toNat (dz kd_impl_Tally) = (k + 5 * (i : Int), (k + 5 * (i : Int) + 1, (k + 5 * (i : Int) + 2, (k + 5 * (i : Int) + 3, (k + 5 * (i : Int) + 4, ()))))) := by simp [mT, hin]
    have hb : (0 : Int) ≤ (i : Int) ∧ (i : Int) < ((mT k n).length : Int) := by rw [mT_len]; omega
    dsimp only
    rw [if_pos hb.2]
    simp only [if_pos hb, hg, e1, e2, e3, e4, e5, e6]
    rw [if_neg (by omega), if_neg (by omega), if_neg (by omega), if_neg (by omega), if_neg (by omega)]
    simp
    omega
  · simp [mT_len]

end Go.Proofs.Ytjnfbibaldbjhaa
