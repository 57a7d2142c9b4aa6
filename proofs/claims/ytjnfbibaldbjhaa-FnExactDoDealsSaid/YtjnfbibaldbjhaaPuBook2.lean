/- Books and deals: what the program and its reference compute, part 2. -/
import Derived.Test.YtjnfbibaldbjhaaPuBook
set_option linter.unusedVariables false
set_option linter.unusedSimpArgs false
namespace Go.Proofs.Ytjnfbibaldbjhaa
open Go.Vm

theorem p_impl_ValidBook (b : Book) (h1 : b.2.1.length ≤ 1048576) (h2 : b.2.2.1.length ≤ 1048576) : g_impl_ValidBook (b, ()) = some (okBook b, ()) := by
  unfold g_impl_ValidBook
  simp only [w_bnd, w_chk, w_br, w_cal, w_jn, w_out, w_lop, p_impl_isBookDay, p_impl_isAmount, Option.bind_some, ite_or]
  by_cases hc : ((!inR b.1 0 100000) || (decide ((b.2.1.length : Int) < 1) || (decide ((b.2.1.length : Int) > 16) || decide ((b.2.2.1.length : Int) > 40)))) = true
  · rw [if_pos hc]
    congr 2
    simp only [Bool.or_eq_true, Bool.not_eq_true', decide_eq_true_eq] at hc
    unfold okBook okCash
    rcases hc with hc | hc | hc | hc
    · simp [hc]
    · have : inR b.2.1.length 1 16 = false := by simp only [inR, Bool.and_eq_false_iff, decide_eq_false_iff_not]; omega
      simp [this]
    · have : inR b.2.1.length 1 16 = false := by simp only [inR, Bool.and_eq_false_iff, decide_eq_false_iff_not]; omega
      simp [this]
    · simp; intros; omega
  · rw [if_neg hc]
    simp only [Bool.or_eq_true, Bool.not_eq_true', decide_eq_true_eq, not_or, Bool.not_eq_false] at hc
    obtain ⟨k1, k2, k3, k4⟩ := hc
    have e : okBook b = ((b.2.1.all fun n => inR n 0 100000000) && okTals b.2.1.length b.1 0 b.2.2.1) := by
      unfold okBook okCash
      have : inR b.2.1.length 1 16 = true := by simp only [inR, Bool.and_eq_true, decide_eq_true_eq]; omega
      rw [k1, this]
      have : decide (b.2.2.1.length ≤ 40) = true := by simp; omega
      rw [this]
      simp
    rw [e]
    have inner : ∀ (step : Int × Int × List Tal × Int × Int × Book × Unit → Option ((Int × Int × List Tal × Int × Int × Book × Unit) ⊕ (Bool × Unit))),
        (∀ (i : Nat) (a : Int), i < b.2.2.1.length → step ((b.2.1.length : Int), (a, (b.2.2.1, ((b.2.2.1.length : Int), ((i : Int), (b, ())))))) = some (if okTal b.2.1.length b.1 a (b.2.2.1.getD i (dz kd_impl_Tally)) = true then .inl ((b.2.1.length : Int), ((b.2.2.1.getD i (dz kd_impl_Tally)).2.2.1, (b.2.2.1, ((b.2.2.1.length : Int), (((i + 1 : Nat) : Int), (b, ())))))) else .inr (false, ()))) →
        (∀ a : Int, step ((b.2.1.length : Int), (a, (b.2.2.1, ((b.2.2.1.length : Int), (((b.2.2.1.length : Nat) : Int), (b, ())))))) = some (.inr (true, ()))) →
        loopW step ((b.2.1.length : Int), ((0 : Int), (b.2.2.1, ((b.2.2.1.length : Int), ((0 : Int), (b, ())))))) = some (okTals b.2.1.length b.1 0 b.2.2.1, ()) := by
      intro step hs he
      have := loop_run (σ := Int) (xs := b.2.2.1) (step := step) (st := fun i a => ((b.2.1.length : Int), (a, (b.2.2.1, ((b.2.2.1.length : Int), ((i : Int), (b, ()))))))) (fun _ _ => True)
        (fun _ t a => if okTal b.2.1.length b.1 a t = true then .inl t.2.2.1 else .inr (false, ())) (fun _ => (true, ())) (fun i hi a _ => ⟨by
          rw [hs i a hi]
          have : b.2.2.1.getD i (dz kd_impl_Tally) = b.2.2.1[i] := by simp [hi]
          rw [this]
          by_cases hq : okTal b.2.1.length b.1 a b.2.2.1[i] = true <;> simp [hq], fun _ _ => trivial⟩) (fun a _ => he a) (a := 0) trivial
      rw [run_okTals] at this
      exact this
    refine (loop_all (xs := b.2.1) (st := fun i => ((b.2.1.length : Int), (b.2.1, ((b.2.1.length : Int), ((i : Int), (b, ())))))) (fun n => inR n 0 100000000) (false, ()) (okTals b.2.1.length b.1 0 b.2.2.1, ()) (fun i hi => ?_) ?_).trans (by
      cases hx : b.2.1.all fun n => inR n 0 100000000 <;> simp [hx])
    · cases hb : inR b.2.1[i] 0 100000000 <;> simp [hi, hb, wrap64 (n := (i : Int) + 1) (by omega) (by omega)]
    · simp only [Int.lt_irrefl, decide_false, Bool.false_eq_true, if_false]
      rw [inner]
      · rfl
      · intro i a hi
        have hg : b.2.2.1.getD ((i : Int)).toNat (dz kd_impl_Tally) = b.2.2.1.getD i (dz kd_impl_Tally) := by simp
        generalize ht : b.2.2.1.getD i (dz kd_impl_Tally) = t at hg
        have hw := wrap64 (n := (i : Int) + 1) (by omega) (by omega)
        have hp := p_impl_arePeople (b.2.1.length : Int) [t.1, t.2.1] (by simp)
        simp only [hg, hp, Option.bind_some, ite_or, ite_and]
        rw [if_pos (by simp [hi]), if_pos (by simp [hi])]
        have hok : ((!([t.1, t.2.1].all fun n => inR n 0 (b.2.1.length - 1))) || (decide (t.2.2.1 < a) || (decide (t.2.2.1 > b.1) || (decide (t.2.2.2.1 < 1) || (decide (t.2.2.2.1 > 100000000) || (decide (t.2.2.2.2.1 < 0) || (decide (t.2.2.2.2.1 > t.2.2.2.1) || (decide (t.1 = t.2.1) && decide (t.2.2.2.2.1 ≠ 0))))))))) = !okTal b.2.1.length b.1 a t := by
          unfold okTal
          have e1 : inR t.2.2.1 a b.1 = !(decide (t.2.2.1 < a) || decide (t.2.2.1 > b.1)) := by rw [Bool.eq_iff_iff]; simp [inR]
          have e2 : inR t.2.2.2.1 1 100000000 = !(decide (t.2.2.2.1 < 1) || decide (t.2.2.2.1 > 100000000)) := by rw [Bool.eq_iff_iff]; simp [inR]
          have e3 : inR t.2.2.2.2.1 0 t.2.2.2.1 = !(decide (t.2.2.2.2.1 < 0) || decide (t.2.2.2.2.1 > t.2.2.2.1)) := by rw [Bool.eq_iff_iff]; simp [inR]
          rw [e1, e2, e3]
          simp only [List.all_cons, List.all_nil, Bool.and_true, Bool.not_and, Bool.not_not, Bool.not_or]
          simp only [Bool.or_assoc]
        rw [hok]
        cases hz : okTal b.2.1.length b.1 a t <;> simp [hw]
      · intro a
        simp

/-! #### Deals -/
def okDeal (d : Deal) : Bool :=
  inR d.1 0 100000 &&
  (if d.2.1 = 1 then decide (d.2.2.1 = 0) && (inR d.2.2.2.1 0 15 && (inR d.2.2.2.2.1 0 15 && inR d.2.2.2.2.2.1 1 100000000))
   else if d.2.1 = 2 then inR d.2.2.1 0 39 && (inR d.2.2.2.1 0 15 && (inR d.2.2.2.2.1 0 15 && decide (d.2.2.2.2.2.1 = 0)))
   else if d.2.1 = 3 then inR d.2.2.1 0 39 && (decide (d.2.2.2.1 = 0) && (decide (d.2.2.2.2.1 = 0) && inR d.2.2.2.2.2.1 1 100000000))
   else if d.2.1 = 4 then inR d.2.2.1 0 39 && (inR d.2.2.2.1 0 15 && (decide (d.2.2.2.2.1 = 0) && decide (d.2.2.2.2.2.1 = 0)))
   else false)

theorem p_spec_l07Deal (d : Deal) : g_spec_l07Deal (d, ()) = some (okDeal d, ()) := by
  unfold g_spec_l07Deal okDeal
  simp only [w_bnd, w_chk, w_br, w_cal, w_jn, p_spec_l00In, p_spec_l07Day, Option.bind_some, ite_and, decide_eq_true_eq, Bool.not_eq_true']
  cases inR d.1 0 100000
  · simp
  · simp only [Bool.true_eq_false, if_false, Bool.true_and]
    split
    · rfl
    · split
      · rfl
      · split
        · rfl
        · split <;> rfl

theorem p_impl_ValidDeal_1 (u : Bool) (n lo hi : Int) : g_impl_ValidDeal_1 (u, (n, (lo, (hi, ())))) = some (if u = true then inR n lo hi else decide (n = 0), ()) := by
  unfold g_impl_ValidDeal_1
  simp only [w_bnd, w_br, w_jn, inR]
  cases u
  · simp
  · by_cases h1 : n ≥ lo <;> by_cases h2 : n ≤ hi <;> simp [h1, h2]

def usesF (k : Int) : Bool × Bool × Bool × Bool × Unit := if k = 1 then (false, true, true, true, ()) else if k = 2 then (true, true, true, false, ()) else if k = 3 then (true, false, false, true, ()) else (true, true, false, false, ())
theorem p_impl_uses (k : Int) : g_impl_uses (k, ()) = some (usesF k) := by
  unfold g_impl_uses usesF
  simp only [w_bnd, w_br, decide_eq_true_eq]
  split
  · rfl
  · split
    · rfl
    · split <;> rfl

theorem p_impl_ValidDeal (d : Deal) : g_impl_ValidDeal (d, ()) = some (okDeal d, ()) := by
  unfold g_impl_ValidDeal okDeal
  simp only [w_bnd, w_chk, w_br, w_cal, w_jn, p_impl_isBookDay, p_impl_uses, p_impl_ValidDeal_1, Option.bind_some, ite_and, ite_or]
  cases h0 : inR d.1 0 100000
  · simp
  · by_cases h1 : d.2.1 = 1
    · simp [h1, usesF]
    · by_cases h2 : d.2.1 = 2
      · simp [h2, usesF]
      · by_cases h3 : d.2.1 = 3
        · simp [h3, usesF]
        · by_cases h4 : d.2.1 = 4
          · simp [h4, usesF]
          · have : (decide (d.2.1 < 1) || decide (d.2.1 > 4)) = true := by simp; omega
            simp only [Bool.or_eq_true, decide_eq_true_eq] at this
            simp [h1, h2, h3, h4]
            omega

theorem p_spec_l07Deals (ds : List Deal) (h : ds.length ≤ 1048576) : g_spec_l07Deals (ds, ()) = some (ds.all okDeal, ()) := by
  unfold g_spec_l07Deals
  simp only [w_bnd, w_chk, w_br, w_cal, w_jn, w_out, w_lop, p_spec_l07Deal, Option.bind_some]
  refine (loop_all (xs := ds) (st := fun i => (ds, ((i : Int), ()))) okDeal (false, ()) (true, ()) (fun i hi => ?_) (by simp)).trans (by cases hx : ds.all okDeal <;> simp [hx])
  cases hb : okDeal ds[i] <;> simp [hi, hb, wrap64 (n := (i : Int) + 1) (by omega) (by omega)]
theorem p_impl_areDeals (ds : List Deal) (h : ds.length ≤ 1048576) : g_impl_areDeals (ds, ()) = some (ds.all okDeal, ()) := by
  unfold g_impl_areDeals
  simp only [w_bnd, w_chk, w_br, w_cal, w_jn, w_out, w_lop, p_impl_ValidDeal, Option.bind_some]
  refine (loop_all (xs := ds) (st := fun i => (ds, ((ds.length : Int), ((i : Int), ())))) okDeal (false, ()) (true, ()) (fun i hi => ?_) (by simp)).trans (by cases hx : ds.all okDeal <;> simp [hx])
  cases hb : okDeal ds[i] <;> simp [hi, hb, wrap64 (n := (i : Int) + 1) (by omega) (by omega)]

def askedF (b : Book) (ds : List Deal) : Int := if okBook b = true ∧ ds.all okDeal = true then (if ds.length > 80 then 3 else 0) else 1
theorem p_spec_l07Asked (b : Book) (ds : List Deal) (hb : smallB b) (h : ds.length ≤ 1048576) : g_spec_l07Asked (b, (ds, ())) = some (askedF b ds, ()) := by
  unfold g_spec_l07Asked askedF
  simp only [w_bnd, w_chk, w_br, w_cal, w_jn, p_spec_l07Ok b hb.1 hb.2, p_spec_l07Deals ds h, Option.bind_some, ite_or]
  cases okBook b <;> cases ds.all okDeal <;> simp
  by_cases hc : 80 < ds.length
  · rw [if_pos hc, if_pos (by omega)]
  · rw [if_neg hc, if_neg (by omega)]
theorem p_impl_dealsCode (b : Book) (ds : List Deal) (hb : smallB b) (h : ds.length ≤ 1048576) : g_impl_dealsCode (b, (ds, ())) = some (askedF b ds, ()) := by
  unfold g_impl_dealsCode askedF
  simp only [w_bnd, w_chk, w_br, w_cal, w_jn, p_impl_ValidBook b hb.1 hb.2, p_impl_areDeals ds h, Option.bind_some, ite_or]
  cases okBook b <;> cases ds.all okDeal <;> simp
  by_cases hc : 80 < ds.length
  · rw [if_pos hc, if_pos (by omega)]
  · rw [if_neg hc, if_neg (by omega)]

/-! #### Copies -/
theorem p_spec_l07Copy (b : Book) (hb : smallB b) : g_spec_l07Copy (b, ()) = some b := by
  unfold g_spec_l07Copy
  simp only [w_bnd, w_chk]
  rw [if_pos (by simp; unfold smallB at hb; omega), if_pos (by simp; unfold smallB at hb; omega)]
theorem p_slices_Clone_int64 (xs : List Int) (h : xs.length ≤ 1048576) : g_slices_Clone_int64 (xs, ()) = some (xs, ()) := by
  unfold g_slices_Clone_int64
  simp only [w_bnd, w_chk, w_br]
  cases xs with
  | nil => simp [w_amb]
  | cons x r =>
    rw [if_neg (by simp)]
    simp only [decide_eq_true_eq]
    rw [if_pos (by omega)]
theorem p_slices_Clone_impl_Tally (xs : List Tal) (h : xs.length ≤ 1048576) : g_slices_Clone_impl_Tally (xs, ()) = some (xs, ()) := by
  unfold g_slices_Clone_impl_Tally
  simp only [w_bnd, w_chk, w_br]
  cases xs with
  | nil => simp [w_amb]
  | cons x r =>
    rw [if_neg (by simp)]
    simp only [decide_eq_true_eq]
    rw [if_pos (by omega)]
theorem p_impl_ownBook (b : Book) (hb : smallB b) : g_impl_ownBook (b, ()) = some b := by
  unfold g_impl_ownBook
  simp only [w_cal, p_slices_Clone_int64 _ hb.1, p_slices_Clone_impl_Tally _ hb.2, Option.bind_some]

/-! #### Equal books -/
theorem list_all_eq {α : Type} [DecidableEq α] : ∀ (xs ys : List α), xs.length = ys.length → ((List.range xs.length).all (fun i => decide (xs[i]? = ys[i]?)) = decide (xs = ys)) := by
  intro xs ys hl
  rw [Bool.eq_iff_iff]
  simp only [List.all_eq_true, List.mem_range, decide_eq_true_eq]
  constructor
  · intro h
    apply List.ext_getElem?
    intro i
    by_cases hi : i < xs.length
    · exact h i hi
    · rw [List.getElem?_eq_none (by omega), List.getElem?_eq_none (by omega)]
  · rintro rfl i _; rfl

theorem eqD_Tally (x y : Tal) : eqD kd_impl_Tally x y = decide (x = y) := by
  rw [Bool.eq_iff_iff]
  simp [eqD, Prod.ext_iff]

theorem p_spec_l00Same (xs ys : List Int) (h : xs.length ≤ 1048576) (h2 : ys.length ≤ 9223372036854775807) : g_spec_l00Same (xs, (ys, ())) = some (decide (xs = ys), ()) := by
  unfold g_spec_l00Same
  simp only [w_bnd, w_chk, w_br, w_cal, w_jn, w_out, w_lop]
  by_cases hl : xs.length = ys.length
  · rw [if_neg (by simp; omega)]
    refine (loop_all (xs := List.range xs.length) (st := fun i => (xs, (ys, ((i : Int), ())))) (fun i => decide (xs[i]? = ys[i]?)) (false, ()) (true, ()) (fun i hi => ?_) (by simp)).trans (by rw [list_all_eq xs ys hl]; by_cases hx : xs = ys <;> simp [hx])
    have h1 : i < xs.length := by simpa using hi
    have h2 : i < ys.length := by omega
    have hw := wrap64 (n := (i : Int) + 1) (by omega) (by omega)
    by_cases hq : xs[i] = ys[i] <;> simp [h1, h2, hq, hw]
  · rw [if_pos (by simp; omega)]
    have : xs ≠ ys := fun e => hl (by rw [e])
    simp [this]
theorem p_slices_Equal_int64 (xs ys : List Int) (h : xs.length ≤ 1048576) : g_slices_Equal_int64 (xs, (ys, ())) = some (decide (xs = ys), ()) := by
  unfold g_slices_Equal_int64
  simp only [w_bnd, w_chk, w_br, w_cal, w_jn, w_out, w_lop]
  by_cases hl : xs.length = ys.length
  · rw [if_neg (by simp; omega)]
    refine (loop_all (xs := List.range xs.length) (st := fun i => (xs, (ys, ((xs.length : Int), ((i : Int), ()))))) (fun i => decide (xs[i]? = ys[i]?)) (false, ()) (true, ()) (fun i hi => ?_) (by simp)).trans (by rw [list_all_eq xs ys hl]; by_cases hx : xs = ys <;> simp [hx])
    have h1 : i < xs.length := by simpa using hi
    have h2 : i < ys.length := by omega
    have hw := wrap64 (n := (i : Int) + 1) (by omega) (by omega)
    by_cases hq : xs[i] = ys[i] <;> simp [h1, h2, hq, hw]
  · rw [if_pos (by simp; omega)]
    have : xs ≠ ys := fun e => hl (by rw [e])
    simp [this]
theorem p_slices_Equal_impl_Tally (xs ys : List Tal) (h : xs.length ≤ 1048576) : g_slices_Equal_impl_Tally (xs, (ys, ())) = some (decide (xs = ys), ()) := by
  unfold g_slices_Equal_impl_Tally
  simp only [w_bnd, w_chk, w_br, w_cal, w_jn, w_out, w_lop, eqD_Tally]
  by_cases hl : xs.length = ys.length
  · rw [if_neg (by simp; omega)]
    refine (loop_all (xs := List.range xs.length) (st := fun i => (xs, (ys, ((xs.length : Int), ((i : Int), ()))))) (fun i => decide (xs[i]? = ys[i]?)) (false, ()) (true, ()) (fun i hi => ?_) (by simp)).trans (by rw [list_all_eq xs ys hl]; by_cases hx : xs = ys <;> simp [hx])
    have h1 : i < xs.length := by simpa using hi
    have h2 : i < ys.length := by omega
    have hw := wrap64 (n := (i : Int) + 1) (by omega) (by omega)
    by_cases hq : xs[i] = ys[i] <;> simp [h1, h2, hq, hw]
  · rw [if_pos (by simp; omega)]
    have : xs ≠ ys := fun e => hl (by rw [e])
    simp [this]

def sameB (a b : Book) : Bool := decide (a.1 = b.1) && (decide (a.2.1 = b.2.1) && decide (a.2.2.1 = b.2.2.1))
theorem sameB_comm (a b : Book) : sameB a b = sameB b a := by
  unfold sameB
  rw [show decide (a.1 = b.1) = decide (b.1 = a.1) from by rw [Bool.eq_iff_iff]; simp only [decide_eq_true_eq]; exact eq_comm, show decide (a.2.1 = b.2.1) = decide (b.2.1 = a.2.1) from by rw [Bool.eq_iff_iff]; simp only [decide_eq_true_eq]; exact eq_comm, show decide (a.2.2.1 = b.2.2.1) = decide (b.2.2.1 = a.2.2.1) from by rw [Bool.eq_iff_iff]; simp only [decide_eq_true_eq]; exact eq_comm]

theorem p_impl_SameBook (a b : Book) (ha : smallB a) : g_impl_SameBook (a, (b, ())) = some (sameB a b, ()) := by
  unfold g_impl_SameBook
  simp only [w_bnd, w_br, w_cal, w_jn, p_slices_Equal_int64 _ _ ha.1, p_slices_Equal_impl_Tally _ _ ha.2, Option.bind_some, ite_and]
  rfl
theorem p_spec_l07Same (a b : Book) (ha : smallB a) (hb : b.2.1.length ≤ 9223372036854775807) : g_spec_l07Same (a, (b, ())) = some (sameB a b, ()) := by
  obtain ⟨a1, a2, a3, u⟩ := a
  obtain ⟨b1, b2, b3, v⟩ := b
  cases u
  cases v
  have h3 : a3.length ≤ 1048576 := ha.2
  have h4 := p_spec_l00Same a2 b2 ha.1 hb
  unfold g_spec_l07Same
  clear hb ha
  simp only [w_bnd, w_chk, w_br, w_cal, w_jn, w_out, w_lop, h4, Option.bind_some, ite_or, eqD_Tally]
  by_cases hc : (decide (a1 ≠ b1) || ((!decide (a2 = b2)) || decide ((a3.length : Int) ≠ b3.length))) = true
  · rw [if_pos hc]
    simp only [Bool.or_eq_true, decide_eq_true_eq, Bool.not_eq_true', decide_eq_false_iff_not] at hc
    have : sameB (a1, a2, a3, ()) (b1, b2, b3, ()) = false := by
      cases hq : sameB (a1, a2, a3, ()) (b1, b2, b3, ()) with
      | false => rfl
      | true =>
        simp only [sameB, Bool.and_eq_true, decide_eq_true_eq] at hq
        obtain ⟨e1, e2, e3⟩ := hq
        subst e1 e2 e3
        simp at hc
    rw [this]
  · rw [if_neg hc]
    simp only [Bool.or_eq_true, decide_eq_true_eq, Bool.not_eq_true', decide_eq_false_iff_not, not_or, Decidable.not_not, ne_eq] at hc
    obtain ⟨e1, e2, e3⟩ := hc
    subst e1 e2
    have hl : a3.length = b3.length := by omega
    refine (loop_all (xs := List.range a3.length) (st := fun i => ((a1, (a2, (a3, ()))), ((a1, (a2, (b3, ()))), ((i : Int), ())))) (fun i => decide (a3[i]? = b3[i]?)) (false, ()) (true, ()) (fun i hi => ?_) (by simp)).trans (by rw [list_all_eq a3 b3 hl]; by_cases hx : a3 = b3 <;> simp [hx, sameB])
    have h1 : i < a3.length := by simpa using hi
    have h2 : i < b3.length := by omega
    have hw := wrap64 (n := (i : Int) + 1) (by omega) (by omega)
    by_cases hq : a3[i] = b3[i] <;> simp [h1, h2, hq, hw]
end Go.Proofs.Ytjnfbibaldbjhaa
