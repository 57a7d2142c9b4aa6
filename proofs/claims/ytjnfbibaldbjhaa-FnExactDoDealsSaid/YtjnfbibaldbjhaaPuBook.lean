/- Books and deals: what the program and its reference compute. -/
import Derived.Test.YtjnfbibaldbjhaaPuLaws
set_option linter.unusedVariables false
set_option linter.unusedSimpArgs false
namespace Go.Proofs.Ytjnfbibaldbjhaa
open Go.Vm

def inR (n lo hi : Int) : Bool := decide (n ≥ lo) && decide (n ≤ hi)

theorem p_spec_l00In (n lo hi : Int) : g_spec_l00In (n, (lo, (hi, ()))) = some (inR n lo hi, ()) := by
  unfold g_spec_l00In
  simp only [w_bnd, w_br, w_jn, ite_and, Option.bind_some, inR]
theorem p_spec_l07Day (n : Int) : g_spec_l07Day (n, ()) = some (inR n 0 100000, ()) := by
  unfold g_spec_l07Day; simp only [w_cal, p_spec_l00In, Option.bind_some]
theorem p_spec_l01Amount (n : Int) : g_spec_l01Amount (n, ()) = some (inR n 0 100000000, ()) := by
  unfold g_spec_l01Amount; simp only [w_cal, p_spec_l00In, Option.bind_some]
theorem p_spec_l02Person (p n : Int) (h0 : 0 ≤ p) (h1 : p ≤ 1073741824) : g_spec_l02Person (p, (n, ())) = some (inR n 0 (p - 1), ()) := by
  unfold g_spec_l02Person; simp only [w_bnd, w_cal, wrap64 (n := p - 1) (by omega) (by omega), p_spec_l00In, Option.bind_some]
theorem p_impl_isBookDay (n : Int) : g_impl_isBookDay (n, ()) = some (inR n 0 100000, ()) := by
  unfold g_impl_isBookDay
  simp only [w_bnd, w_br, w_jn, ite_and, Option.bind_some, inR]
theorem p_impl_isAmount (n : Int) : g_impl_isAmount (n, ()) = some (inR n 0 100000000, ()) := by
  unfold g_impl_isAmount
  simp only [w_bnd, w_br, w_jn, ite_and, Option.bind_some, inR]

theorem p_impl_arePeople (p : Int) (xs : List Int) (h : xs.length ≤ 1073741824) : g_impl_arePeople (p, (xs, ())) = some (xs.all fun n => inR n 0 (p - 1), ()) := by
  unfold g_impl_arePeople
  simp only [w_bnd, w_chk, w_br, w_cal, w_jn, w_out, w_lop, ite_or, Option.bind_some]
  refine (loop_all (xs := xs) (st := fun i => (p, (xs, ((xs.length : Int), ((i : Int), ()))))) (fun n => inR n 0 (p - 1)) (false, ()) (true, ()) (fun i hi => ?_) (by simp)).trans (by cases hx : xs.all fun n => inR n 0 (p - 1) <;> simp [hx])
  have : (decide (xs[i] < 0) || decide (xs[i] ≥ p)) = !inR xs[i] 0 (p - 1) := by rw [Bool.eq_iff_iff]; simp [inR]; omega
  cases hb : inR xs[i] 0 (p - 1) <;> simp [hi, this, hb, wrap64 (n := (i : Int) + 1) (by omega) (by omega)]

/-! #### Valid books -/
def okTal (people day before : Int) (t : Tal) : Bool :=
  inR t.1 0 (people - 1) && inR t.2.1 0 (people - 1) && inR t.2.2.1 before day && inR t.2.2.2.1 1 100000000 && inR t.2.2.2.2.1 0 t.2.2.2.1 && !(decide (t.1 = t.2.1) && decide (t.2.2.2.2.1 ≠ 0))
def okTals (people day : Int) : Int → List Tal → Bool
  | _, [] => true
  | before, t :: r => okTal people day before t && okTals people day t.2.2.1 r
def okCash (c : List Int) : Bool := inR c.length 1 16 && c.all fun n => inR n 0 100000000
def okBook (b : Book) : Bool := inR b.1 0 100000 && okCash b.2.1 && decide (b.2.2.1.length ≤ 40) && okTals b.2.1.length b.1 0 b.2.2.1

theorem run_okTals (people day : Int) : ∀ (ts : List Tal) (i : Nat) (before : Int), runL (β := Bool × Unit) (fun _ t a => if okTal people day a t = true then .inl t.2.2.1 else .inr (false, ())) (fun _ => (true, ())) i ts before = (okTals people day before ts, ()) := by
  intro ts
  induction ts with
  | nil => intro i before; rfl
  | cons t r ih =>
    intro i before
    simp only [runL, okTals]
    cases h : okTal people day before t <;> simp [ih]

theorem p_spec_l07Cash (c : List Int) (h : c.length ≤ 1073741824) : g_spec_l07Cash (c, ()) = some (okCash c, ()) := by
  unfold g_spec_l07Cash
  simp only [w_bnd, w_chk, w_br, w_cal, w_jn, w_out, w_lop, p_spec_l01Amount, p_spec_l00In, Option.bind_some]
  refine (loop_all (xs := c) (st := fun i => (c, ((i : Int), ()))) (fun n => inR n 0 100000000) (false, ()) (inR c.length 1 16, ()) (fun i hi => ?_) (by simp)).trans (by cases hx : c.all fun n => inR n 0 100000000 <;> simp [hx, okCash])
  cases hb : inR c[i] 0 100000000 <;> simp [hi, hb, wrap64 (n := (i : Int) + 1) (by omega) (by omega)]

theorem p_spec_l07Ok (b : Book) (h1 : b.2.1.length ≤ 1048576) (h2 : b.2.2.1.length ≤ 1048576) : g_spec_l07Ok (b, ()) = some (okBook b, ()) := by
  unfold g_spec_l07Ok
  simp only [w_bnd, w_chk, w_br, w_cal, w_jn, w_out, w_lop, p_spec_l07Day, p_spec_l07Cash _ (show b.2.1.length ≤ 1073741824 by omega), p_spec_l00In, Option.bind_some, ite_or]
  by_cases hc : ((!inR b.1 0 100000) || ((!okCash b.2.1) || decide ((b.2.2.1.length : Int) > 40))) = true
  · rw [if_pos hc]
    congr 2
    simp only [Bool.or_eq_true, Bool.not_eq_true', decide_eq_true_eq] at hc
    unfold okBook
    rcases hc with hc | hc | hc
    · simp [hc]
    · simp [hc]
    · simp; intros; omega
  · rw [if_neg hc]
    simp only [Bool.or_eq_true, Bool.not_eq_true', decide_eq_true_eq, not_or, Bool.not_eq_false] at hc
    obtain ⟨k1, k2, k3⟩ := hc
    have e : okBook b = okTals b.2.1.length b.1 0 b.2.2.1 := by
      unfold okBook
      rw [k1, k2]
      simp
      omega
    rw [e]
    have hk : 1 ≤ (b.2.1.length : Int) := by
      simp only [okCash, inR, Bool.and_eq_true, decide_eq_true_eq] at k2
      omega
    refine (loop_run (σ := Int) (xs := b.2.2.1) (st := fun i _ => (b, ((b.2.1.length : Int), ((i : Int), ())))) (fun i a => 0 ≤ a ∧ a = if i = 0 then 0 else (b.2.2.1.getD (i - 1) (dz kd_impl_Tally)).2.2.1)
      (fun _ t a => if okTal b.2.1.length b.1 a t = true then .inl t.2.2.1 else .inr (false, ())) (fun _ => (true, ())) (fun i hi a ha => ?_) (fun a _ => by simp) (a := 0) (by simp)).trans (by rw [run_okTals])
    obtain ⟨ha0, ha⟩ := ha
    constructor
    · have p1 := p_spec_l02Person (b.2.1.length : Int) b.2.2.1[i].1 (by omega) (by omega)
      have p2 := p_spec_l02Person (b.2.1.length : Int) b.2.2.1[i].2.1 (by omega) (by omega)
      have hg : b.2.2.1.getD ((i : Int)).toNat (dz kd_impl_Tally) = b.2.2.1[i] := by simp [hi]
      have hp : (if decide ((i : Int) > 0) = true then
          (if decide (0 ≤ Go.IntKind.wrap .i64 ((i : Int) - 1) ∧ Go.IntKind.wrap .i64 ((i : Int) - 1) < (b.2.2.1.length : Int)) = true then some (decide (b.2.2.1[i].2.2.1 < (b.2.2.1.getD (Go.IntKind.wrap .i64 ((i : Int) - 1)).toNat (dz kd_impl_Tally)).2.2.1)) else none)
          else some false) = some (decide (b.2.2.1[i].2.2.1 < a) && decide (i > 0)) := by
        by_cases h0 : i = 0
        · subst h0; simp
        · rw [wrap64 (by omega) (by omega)]
          rw [if_neg h0] at ha
          have e1 : ((i : Int) - 1).toNat = i - 1 := by omega
          rw [if_pos (by simp; omega), if_pos (by simp; omega), e1, ← ha]
          have : decide (i > 0) = true := by simp; omega
          simp [this]
      simp only [hg, p1, p2, Option.bind_some, ite_or, hp]
      rw [if_pos (by simp [hi]), if_pos (by simp [hi])]
      by_cases q1 : ((!inR b.2.2.1[i].1 0 (b.2.1.length - 1)) || ((!inR b.2.2.1[i].2.1 0 (b.2.1.length - 1)) || ((!inR b.2.2.1[i].2.2.1 0 b.1) || ((!inR b.2.2.1[i].2.2.2.1 1 100000000) || (!inR b.2.2.1[i].2.2.2.2.1 0 b.2.2.1[i].2.2.2.1))))) = true
      · rw [if_pos q1]
        have : okTal b.2.1.length b.1 a b.2.2.1[i] = false := by
          simp only [Bool.or_eq_true, Bool.not_eq_true'] at q1
          unfold okTal
          rcases q1 with q | q | q | q | q
          · simp [q]
          · simp [q]
          · have : inR b.2.2.1[i].2.2.1 a b.1 = false := by
              simp only [inR, Bool.and_eq_false_iff, decide_eq_false_iff_not] at q ⊢
              omega
            simp [this]
          · simp [q]
          · simp [q]
        simp [this]
      · rw [if_neg q1]
        simp only [Bool.or_eq_true, Bool.not_eq_true', not_or, Bool.not_eq_false] at q1
        obtain ⟨r1, r2, r3, r4, r5⟩ := q1
        have hin : inR b.2.2.1[i].2.2.1 a b.1 = !(decide (b.2.2.1[i].2.2.1 < a) && decide (i > 0)) := by
          rw [Bool.eq_iff_iff]
          simp only [inR, Bool.and_eq_true, decide_eq_true_eq, Bool.not_eq_true', Bool.and_eq_false_iff, decide_eq_false_iff_not] at r3 ⊢
          by_cases h0 : i = 0
          · rw [if_pos h0] at ha; omega
          · omega
        have hok : okTal b.2.1.length b.1 a b.2.2.1[i] = !((decide (b.2.2.1[i].1 = b.2.2.1[i].2.1) && decide (b.2.2.1[i].2.2.2.2.1 ≠ 0)) || (decide (b.2.2.1[i].2.2.1 < a) && decide (i > 0))) := by
          unfold okTal
          rw [r1, r2, r4, r5, hin]
          generalize decide (b.2.2.1[i].1 = b.2.2.1[i].2.1) = z1
          generalize decide (b.2.2.1[i].2.2.2.2.1 ≠ 0) = z2
          generalize (decide (b.2.2.1[i].2.2.1 < a) && decide (i > 0)) = z3
          cases z1 <;> cases z2 <;> cases z3 <;> rfl
        rw [hok]
        generalize decide (b.2.2.1[i].1 = b.2.2.1[i].2.1) = z1
        generalize decide (b.2.2.1[i].2.2.2.2.1 ≠ 0) = z2
        generalize (decide (b.2.2.1[i].2.2.1 < a) && decide (i > 0)) = z3
        have hw := wrap64 (n := (i : Int) + 1) (by omega) (by omega)
        cases z1 <;> cases z2 <;> cases z3 <;> simp [hw]
    · intro a' ha'
      split at ha'
      · rename_i hok
        injection ha' with ha'
        subst ha'
        refine ⟨?_, by simp [hi]⟩
        simp only [okTal, inR, Bool.and_eq_true, decide_eq_true_eq] at hok
        omega
      · cases ha'
end Go.Proofs.Ytjnfbibaldbjhaa
