/- DoDeals: the law answers true. -/
import Derived.Test.YtjnfbibaldbjhaaPuDoDeals
set_option linter.unusedVariables false
set_option linter.unusedSimpArgs false
namespace Go.Proofs.Ytjnfbibaldbjhaa
open Go.Vm

theorem p_markBook (d k : Int) (c : List Int) (t : List Tal) (hc : c.length ≤ 1048576) (ht : t.length ≤ 1048576) (h0 : 0 ≤ k) (h1 : k ≤ 1048576) :
    g_laws_markBook (d, (k, (c, (t, ())))) = some (k + c.length + 5 * t.length, (d, (mI k c.length, (mT (k + c.length) t.length, ())))) := by
  unfold g_laws_markBook
  simp only [w_cal]
  rw [p_markInt64S k c hc h0 (by omega)]
  simp only [Option.bind_some]
  rw [p_markTallyS _ t ht (by omega) (by omega)]
  rfl

theorem p_heldBook (d k : Int) (n m : Nat) (hn : n ≤ 1048576) (hm : m ≤ 1048576) (h0 : 0 ≤ k) (h1 : k ≤ 1048576) :
    g_laws_heldBook ((d, (mI k n, (mT (k + n) m, ()))), (k, ())) = some (k + n + 5 * m, ()) := by
  unfold g_laws_heldBook
  simp only [w_cal, w_bnd, w_br, decide_eq_true_eq]
  rw [p_heldInt64S k n hn h0 (by omega)]
  simp only [Option.bind_some]
  rw [if_neg (by omega), p_heldTallyS _ m hm (by omega) (by omega)]
  simp only [Option.bind_some]
  rw [if_neg (by omega)]

theorem law_DoDeals (b : Book) (ds : List Deal) (hb1 : b.2.1.length ≤ maxLen) (hb2 : b.2.2.1.length ≤ maxLen) (hd : ds.length ≤ maxLen) :
    g_laws_FnExactDoDeals (b, (ds, ())) = some (true, ()) := by
  unfold g_laws_FnExactDoDeals
  simp only [w_bnd, w_chk, w_br, w_cal, w_jn, w_out, w_lop]
  obtain ⟨v1, e1, f1⟩ := p_laws_szBook b 1048576 hb1 hb2 (by decide) (by decide)
  rw [e1]
  simp only [Option.bind_some, decide_eq_true_eq]
  by_cases q1 : v1 < 0
  · rw [if_pos q1]
  rw [if_neg q1]
  have hv1 : 0 ≤ v1 ∧ v1 ≤ 1048576 ∧ smallB b := by rcases f1 with f | f; exact absurd f q1; exact f
  rw [p_laws_szDealS ds v1 hd hv1.1 hv1.2.1]
  simp only [Option.bind_some]
  by_cases q2 : v1 - ds.length < 0
  · rw [if_pos (by rw [if_pos q2]; decide)]
  rw [if_neg (by rw [if_neg q2]; exact q2)]
  have hb := hv1.2.2
  have hdl : ds.length ≤ 1048576 := by omega
  have t1 := p_laws_toBook b (by have := hb.1; omega) (by have := hb.2; omega)
  have t2 := p_laws_toDealS ds (by omega)
  have s1 := p_spec_DoDeals b ds hb hdl
  have s2 := p_impl_DoDeals b ds hb hdl
  obtain ⟨z1, z2⟩ := doDealsF_small b ds hb
  have r1 := r_laws_eqBook b (by have := hb.1; omega) (by have := hb.2; omega)
  have r2 := r_laws_eqDealS ds (by omega)
  have m1 := p_markBook b.1 1 b.2.1 b.2.2.1 hb.1 hb.2 (by decide) (by decide)
  obtain ⟨l', m2⟩ := p_markDealS (1 + b.2.1.length + 5 * b.2.2.1.length) ds hdl (by omega) (by have := hb.1; have := hb.2; omega)
  obtain ⟨b1, b2, b3, u⟩ := b
  cases u
  generalize doDealsF (b1, b2, b3, ()) ds = R at *
  obtain ⟨R1, R2, R3, R4, u⟩ := R
  cases u
  have r3 := r_laws_eqBook (R1, (R3, (R4, ()))) (by dsimp only at z1 ⊢; omega) (by dsimp only at z2 ⊢; omega)
  have m3 := p_markBook R1 1 R3 R4 z1 z2 (by decide) (by decide)
  have m4 := p_heldBook R1 1 R3.length R4.length z1 z2 (by decide) (by decide)
  dsimp only at m1 m2 hb z1 z2
  rw [t1, t2]
  simp only [Option.bind_some]
  rw [s1, s2]
  simp only [Option.bind_some]
  rw [r3]
  simp only [Option.bind_some, Bool.not_true, Bool.false_eq_true, if_false, ne_eq, not_true_eq_false, decide_false]
  rw [r1]
  simp only [Option.bind_some, Bool.not_true, Bool.false_eq_true, if_false]
  rw [r2]
  simp only [Option.bind_some, Bool.not_true, Bool.false_eq_true, if_false]
  rw [m1]
  simp only [Option.bind_some]
  rw [m2]
  simp only [Option.bind_some]
  rw [if_neg (by omega)]
  simp only [Option.bind_some, Bool.false_eq_true, if_false]
  rw [m3]
  simp only [Option.bind_some]
  rw [m4]
  simp only [Option.bind_some, not_true_eq_false, if_false]
  rw [if_neg (by omega)]
  rw [if_neg (by omega)]

theorem pure_FnExactDoDeals (x0 : dn kd_laws_Book) (x1 : List (dn kd_impl_Deal)) (w0 : wfD kd_laws_Book x0) (w1 : x1.length ≤ maxLen ∧ ∀ x ∈ x1, wfD kd_impl_Deal x) :
    g_laws_FnExactDoDeals (x0, (x1, ())) = some (true, ()) :=
  law_DoDeals x0 x1 w0.2.1.1 w0.2.2.1.1 w1.1
end Go.Proofs.Ytjnfbibaldbjhaa
