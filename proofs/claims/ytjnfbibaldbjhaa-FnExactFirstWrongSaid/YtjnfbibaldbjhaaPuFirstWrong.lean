/- FirstWrong: the program and its reference answer alike; so the law answers true. -/
import Derived.Test.YtjnfbibaldbjhaaPuBooks
set_option linter.unusedVariables false
set_option linter.unusedSimpArgs false
namespace Go.Proofs.Ytjnfbibaldbjhaa
open Go.Vm

def wrongF (out : List Book) (i : Nat) (c : Book) (_ : Unit) : Unit ⊕ (Int × Int × Unit) :=
  if (decide (i ≥ out.length) || !sameB (out.getD i (dz kd_impl_Book)) c) = true then .inr ((i : Int), ((0 : Int), ())) else .inl ()
def firstW (out claims : List Book) : Int × Int × Unit := runL (wrongF out) (fun _ => ((0 : Int), ((6 : Int), ()))) 0 claims ()

def firstWrongF (b : Book) (ds : List Deal) (claims : List Book) : Int × Int × Unit :=
  if askedF b ds ≠ 0 then (0, askedF b ds, ()) else if (runB b ds).2 ≠ 0 then (0, (runB b ds).2, ()) else firstW (runB b ds).1 claims

theorem asked_ok {b : Book} {ds : List Deal} (h : ¬ askedF b ds ≠ 0) : okBook b = true ∧ ds.all okDeal = true := by
  unfold askedF at h
  by_cases hc : okBook b = true ∧ ds.all okDeal = true
  · exact hc
  · rw [if_neg hc] at h
    exact absurd (by decide) h

theorem p_spec_FirstWrong (b : Book) (ds : List Deal) (cs : List Book) (hb : smallB b) (hl : ds.length ≤ 1048576) (hc : cs.length ≤ 1048576) (hcs : ∀ c ∈ cs, smallB c) :
    g_spec_FirstWrong (b, (ds, (cs, ()))) = some (firstWrongF b ds cs) := by
  unfold g_spec_FirstWrong firstWrongF
  simp only [w_bnd, w_chk, w_br, w_cal, w_jn, w_out, w_lop, p_spec_l07Asked b ds hb hl, Option.bind_some, decide_eq_true_eq]
  by_cases ha : askedF b ds ≠ 0
  · rw [if_pos ha, if_pos ha]
  · rw [if_neg ha, if_neg ha]
    obtain ⟨h1, h2⟩ := asked_ok ha
    rw [p_spec_l07All b ds h1 h2 hl]
    simp only [Option.bind_some]
    by_cases hr : (runB b ds).2 ≠ 0
    · rw [if_pos hr, if_pos hr]
    · rw [if_neg hr, if_neg hr]
      have hr' : (runB b ds).2 = 0 := by omega
      rw [if_pos hr']
      have hsm := runB_small ds b h1 h2
      have hln := runB_len ds b
      generalize (runB b ds).1 = out at *
      refine (loop_run (σ := Unit) (xs := cs) (st := fun i _ => (cs, ((i : Int), (out, ())))) (fun _ _ => True) (wrongF out) (fun _ => ((0 : Int), ((6 : Int), ()))) (fun i hi a _ => ⟨?_, fun _ _ => trivial⟩) (fun a _ => by simp) (a := ()) trivial)
      have hw := wrap64 (n := (i : Int) + 1) (by omega) (by omega)
      dsimp only
      rw [if_pos (by simp [hi])]
      unfold wrongF
      by_cases q : i < out.length
      · have hs := p_spec_l07Same out[i] cs[i] (okBook_ok (hsm _ (List.getElem_mem q))).small (by have := (hcs _ (List.getElem_mem hi)).1; omega)
        have g1 : out.getD ((i : Int)).toNat (dz kd_impl_Book) = out[i] := by simp [q]
        have g1' : out.getD i (dz kd_impl_Book) = out[i] := by simp [q]
        have g2 : cs.getD ((i : Int)).toNat (dz kd_impl_Book) = cs[i] := by simp [hi]
        rw [if_neg (by omega), if_pos (by simp [q]), if_pos (by simp [hi]), g1, g2, hs, g1']
        simp only [Option.bind_some]
        cases sameB out[i] cs[i]
        · have : (decide (i ≥ out.length) || !false) = true := by simp
          rw [if_pos this]
          simp
        · have : ¬ (decide (i ≥ out.length) || !true) = true := by simp; omega
          rw [if_neg this]
          simp [hw]
      · have : (decide (i ≥ out.length) || !sameB (out.getD i (dz kd_impl_Book)) cs[i]) = true := by simp; left; omega
        rw [if_pos this, if_pos (by omega)]
        simp

theorem p_impl_FirstWrong (b : Book) (ds : List Deal) (cs : List Book) (hb : smallB b) (hl : ds.length ≤ 1048576) (hc : cs.length ≤ 1048576) (hcs : ∀ c ∈ cs, smallB c) :
    g_impl_FirstWrong (b, (ds, (cs, ()))) = some (firstWrongF b ds cs) := by
  unfold g_impl_FirstWrong firstWrongF
  simp only [w_bnd, w_chk, w_br, w_cal, w_jn, w_out, w_lop, p_impl_dealsCode b ds hb hl, Option.bind_some, decide_eq_true_eq]
  by_cases ha : askedF b ds ≠ 0
  · rw [if_pos ha, if_pos ha]
  · rw [if_neg ha, if_neg ha]
    obtain ⟨h1, h2⟩ := asked_ok ha
    rw [p_impl_books b ds h1 h2 hl]
    simp only [Option.bind_some]
    by_cases hr : (runB b ds).2 ≠ 0
    · rw [if_pos hr, if_pos hr]
    · rw [if_neg hr, if_neg hr]
      have hsm := runB_small ds b h1 h2
      have hln := runB_len ds b
      generalize (runB b ds).1 = out at *
      refine (loop_run (σ := Unit) (xs := cs) (st := fun i _ => (cs, ((cs.length : Int), ((i : Int), (out, ()))))) (fun _ _ => True) (wrongF out) (fun _ => ((0 : Int), ((6 : Int), ()))) (fun i hi a _ => ⟨?_, fun _ _ => trivial⟩) (fun a _ => by simp) (a := ()) trivial)
      have hw := wrap64 (n := (i : Int) + 1) (by omega) (by omega)
      dsimp only
      rw [if_pos (by simp [hi]), if_pos (by simp [hi])]
      unfold wrongF
      have g2 : cs.getD ((i : Int)).toNat (dz kd_impl_Book) = cs[i] := by simp [hi]
      rw [g2]
      by_cases q : i < out.length
      · have hs := p_impl_SameBook cs[i] out[i] (hcs _ (List.getElem_mem hi))
        have g1 : out.getD ((i : Int)).toNat (dz kd_impl_Book) = out[i] := by simp [q]
        have g1' : out.getD i (dz kd_impl_Book) = out[i] := by simp [q]
        rw [if_neg (by omega), if_pos (by simp [q]), g1]
        generalize out[i] = o at *
        obtain ⟨o1, o2, o3, u⟩ := o
        cases u
        rw [hs, g1', sameB_comm]
        simp only [Option.bind_some]
        cases sameB (o1, o2, o3, PUnit.unit) cs[i]
        · have : (decide (i ≥ out.length) || !false) = true := by simp
          rw [if_pos this]
          simp
        · have : ¬ (decide (i ≥ out.length) || !true) = true := by simp; omega
          rw [if_neg this]
          simp [hw]
      · have : (decide (i ≥ out.length) || !sameB (out.getD i (dz kd_impl_Book)) cs[i]) = true := by simp; left; omega
        rw [if_pos this, if_pos (by omega)]
        simp

theorem law_FirstWrong (b : Book) (ds : List Deal) (cs : List Book) (hb1 : b.2.1.length ≤ maxLen) (hb2 : b.2.2.1.length ≤ maxLen) (hd : ds.length ≤ maxLen) (hc : cs.length ≤ maxLen) (hcs : ∀ c ∈ cs, c.2.1.length ≤ maxLen ∧ c.2.2.1.length ≤ maxLen) :
    g_laws_FnExactFirstWrong (b, (ds, (cs, ()))) = some (true, ()) := by
  unfold g_laws_FnExactFirstWrong
  simp only [w_bnd, w_chk, w_br, w_cal, w_jn, w_out, w_lop]
  obtain ⟨v1, e1, f1⟩ := p_laws_szBook b 1048576 hb1 hb2 (by decide) (by decide)
  rw [e1]
  simp only [Option.bind_some, decide_eq_true_eq]
  by_cases q1 : v1 < 0
  · rw [if_pos q1]
  rw [if_neg q1]
  have hv1 : 0 ≤ v1 ∧ v1 ≤ 1048576 ∧ smallB b := by rcases f1 with f | f; exact absurd f q1; exact f
  rw [p_laws_szDealS ds v1 hd hv1.1 hv1.2.1]
  simp only [Option.bind_some]
  by_cases q2 : v1 - ds.length < 0
  · rw [if_pos (by rw [if_pos q2]; decide)]
  rw [if_neg (by rw [if_neg q2]; exact q2), if_neg q2]
  obtain ⟨v3, e3, f3⟩ := p_laws_szBookS cs (v1 - ds.length) hc hcs (by omega) (by omega)
  rw [e3]
  simp only [Option.bind_some]
  by_cases q3 : v3 < 0
  · rw [if_pos q3]
  rw [if_neg q3]
  have hv3 : cs.length ≤ 1048576 ∧ ∀ c ∈ cs, smallB c := by rcases f3 with f | f; exact absurd f q3; exact f.2.2
  have hb := hv1.2.2
  have hdl : ds.length ≤ 1048576 := by omega
  have t1 := p_laws_toBook b (by have := hb.1; omega) (by have := hb.2; omega)
  have t2 := p_laws_toDealS ds (by omega)
  have t3 := p_laws_toBookS cs (by omega) (fun c h => by have := hv3.2 c h; unfold smallB at this; omega)
  have s1 := p_spec_FirstWrong b ds cs hb hdl hv3.1 hv3.2
  have s2 := p_impl_FirstWrong b ds cs hb hdl hv3.1 hv3.2
  have r1 := r_laws_eqBook b (by have := hb.1; omega) (by have := hb.2; omega)
  have r2 := r_laws_eqDealS ds (by omega)
  have r3 := r_laws_eqBookS cs (by omega) (fun c h => by have := hv3.2 c h; unfold smallB at this; omega)
  obtain ⟨b1, b2, b3, u⟩ := b
  cases u
  rw [t1, t2, t3]
  simp only [Option.bind_some]
  rw [s1, s2]
  simp only [Option.bind_some, ne_eq, not_true_eq_false, decide_false, Bool.false_eq_true, if_false]
  rw [r1]
  simp only [Option.bind_some, Bool.not_true, Bool.false_eq_true, if_false]
  rw [r2]
  simp only [Option.bind_some, Bool.not_true, Bool.false_eq_true, if_false]
  rw [r3]
  simp only [Option.bind_some, Bool.not_true, Bool.false_eq_true, if_false]

theorem pure_FnExactFirstWrong (x0 : dn kd_laws_Book) (x1 : List (dn kd_impl_Deal)) (x2 : List (dn kd_laws_Book)) (w0 : wfD kd_laws_Book x0) (w1 : x1.length ≤ maxLen ∧ ∀ x ∈ x1, wfD kd_impl_Deal x) (w2 : x2.length ≤ maxLen ∧ ∀ x ∈ x2, wfD kd_laws_Book x) :
    g_laws_FnExactFirstWrong (x0, (x1, (x2, ()))) = some (true, ()) :=
  law_FirstWrong x0 x1 x2 w0.2.1.1 w0.2.2.1.1 w1.1 w2.1 (fun c hc => ⟨(w2.2 c hc).2.1.1, (w2.2 c hc).2.2.1.1⟩)
end Go.Proofs.Ytjnfbibaldbjhaa
