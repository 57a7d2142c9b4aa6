/- DoDeals: the program and its reference answer alike; so the law answers true. -/
import Derived.Test.YtjnfbibaldbjhaaPuMarks
set_option linter.unusedVariables false
set_option linter.unusedSimpArgs false
namespace Go.Proofs.Ytjnfbibaldbjhaa
open Go.Vm

theorem loop_ex {σ D β : Type} {step : D → Option (D ⊕ β)} {n : Nat} {st : Nat → σ → D} (P : σ → Prop) (fin : σ → β)
    (hs : ∀ i, i < n → ∀ a, P a → ∃ a', P a' ∧ step (st i a) = some (.inl (st (i + 1) a'))) (he : ∀ a, P a → step (st n a) = some (.inr (fin a))) {a : σ} (h0 : P a) : ∃ a', P a' ∧ loopW step (st 0 a) = some (fin a') := by
  have gen : ∀ (m i : Nat) (a : σ), i + m = n → P a → ∃ a', P a' ∧ loopW step (st i a) = some (fin a') := by
    intro m
    induction m with
    | zero => intro i a hi hp; have : i = n := by omega
              subst this; exact ⟨a, hp, loopW_inr (he a hp)⟩
    | succ m ih =>
      intro i a hi hp
      obtain ⟨a1, h1, h2⟩ := hs i (by omega) a hp
      obtain ⟨a', h3, h4⟩ := ih (i + 1) a1 (by omega) h1
      exact ⟨a', h3, loopW_inl h2 h4⟩
  exact gen n 0 a (by omega) h0

theorem p_markDealS (k : Int) (l : List Deal) (h : l.length ≤ 1048576) (h0 : 0 ≤ k) (h1 : k ≤ 1073741824) : ∃ l', g_laws_markDealS (k, (l, ())) = some (k + 6 * l.length, (l', ())) := by
  unfold g_laws_markDealS
  simp only [w_bnd, w_chk, w_br, w_cal, w_jn, w_out, w_lop, decide_eq_true_eq]
  have key := fun step hs he => loop_ex (step := step) (n := l.length) (st := fun (i : Nat) (a : List Deal) => (k + 6 * (i : Int), ((i : Int), (a, ())))) (fun a => a.length = l.length) (fun a => (k + 6 * (l.length : Int), (a, ()))) hs he (a := l) rfl
  have h5 : (k, ((0 : Int), (l, ()))) = (k + 6 * ((0 : Nat) : Int), (((0 : Nat) : Int), (l, ()))) := by simp
  rw [h5]
  refine (fun ⟨a', _, h6⟩ => ⟨a', h6⟩ : (∃ a' : List Deal, a'.length = l.length ∧ _ = some (k + 6 * (l.length : Int), (a', ()))) → _) (key _ (fun i hi a ha => ?_) (fun a ha => ?_))
  · have e1 := wrap64 (n := k + 6 * (i : Int) + 1) (by omega) (by omega)
    have e2 := wrap64 (n := k + 6 * (i : Int) + 1 + 1) (by omega) (by omega)
    have e3 := wrap64 (n := k + 6 * (i : Int) + 1 + 1 + 1) (by omega) (by omega)
    have e4 := wrap64 (n := k + 6 * (i : Int) + 1 + 1 + 1 + 1) (by omega) (by omega)
    have e5 := wrap64 (n := k + 6 * (i : Int) + 1 + 1 + 1 + 1 + 1) (by omega) (by omega)
    have e6 := wrap64 (n := k + 6 * (i : Int) + 1 + 1 + 1 + 1 + 1 + 1) (by omega) (by omega)
    have e7 := wrap64 (n := (i : Int) + 1) (by omega) (by omega)
    have hb : (0 : Int) ≤ (i : Int) ∧ (i : Int) < (a.length : Int) := by omega
    have e8 : k + 6 * (i : Int) + 1 + 1 + 1 + 1 + 1 + 1 = k + 6 * ((i + 1 : Nat) : Int) := by push_cast; omega
    have e9 : (i : Int) + 1 = ((i + 1 : Nat) : Int) := by push_cast; rfl
    dsimp only
    rw [if_pos hb.2]
    simp only [if_pos hb, e1, e2, e3, e4, e5, e6, e7, List.length_set]
    rw [e8, e9]
    exact ⟨_, by simp only [List.length_set]; exact ha, rfl⟩
  · dsimp only
    rw [if_neg (by omega)]
    rfl

theorem asked_ok' {b : Book} {ds : List Deal} (h : ¬ askedF b ds ≠ 0) : okBook b = true ∧ ds.all okDeal = true := by
  unfold askedF at h
  by_cases hc : okBook b = true ∧ ds.all okDeal = true
  · exact hc
  · rw [if_neg hc] at h
    exact absurd (by decide) h

def lastB (b : Book) (ds : List Deal) : Book := if (runB b ds).1.length = 0 then b else (runB b ds).1.getD ((runB b ds).1.length - 1) (dz kd_impl_Book)
def behindF (b : Book) (ds : List Deal) : Int × Book :=
  if (runB b ds).2 ≠ 0 then ((0 : Int), ((runB b ds).2, ([], ([], ())))) else ((lastB b ds).1, ((0 : Int), ((lastB b ds).2.1, ((lastB b ds).2.2.1, ()))))
def doDealsF (b : Book) (ds : List Deal) : Int × Book := if askedF b ds ≠ 0 then ((0 : Int), (askedF b ds, ([], ([], ())))) else behindF b ds

theorem p_impl_behind (b : Book) (ds : List Deal) (hb : okBook b = true) (hd : ds.all okDeal = true) (hl : ds.length ≤ 1048576) : g_impl_behind (b, (ds, ())) = some (behindF b ds) := by
  unfold g_impl_behind behindF lastB
  simp only [w_bnd, w_chk, w_br, w_cal, w_jn, w_out, w_lop, p_impl_books b ds hb hd hl, Option.bind_some, decide_eq_true_eq]
  by_cases hr : (runB b ds).2 ≠ 0
  · rw [if_pos hr, if_pos hr]; rfl
  · rw [if_neg hr, if_neg hr]
    have hln := runB_len ds b
    by_cases h0 : (runB b ds).1.length = 0
    · rw [if_pos (by omega), p_impl_ownBook b (okBook_ok hb).small, if_pos h0]
      rfl
    · have e1 := wrap64 (n := ((runB b ds).1.length : Int) - 1) (by omega) (by omega)
      have e2 : (((runB b ds).1.length : Int) - 1).toNat = (runB b ds).1.length - 1 := by omega
      rw [if_neg (by omega), e1, if_pos (by omega), e2, if_neg h0]

theorem p_impl_DoDeals (b : Book) (ds : List Deal) (hb : smallB b) (hl : ds.length ≤ 1048576) : g_impl_DoDeals (b, (ds, ())) = some (doDealsF b ds) := by
  unfold g_impl_DoDeals doDealsF
  simp only [w_bnd, w_chk, w_br, w_cal, w_jn, w_out, w_lop, p_impl_dealsCode b ds hb hl, Option.bind_some, decide_eq_true_eq]
  by_cases ha : askedF b ds ≠ 0
  · rw [if_pos ha, if_pos ha]; rfl
  · rw [if_neg ha, if_neg ha]
    obtain ⟨h1, h2⟩ := asked_ok' ha
    rw [p_impl_behind b ds h1 h2 hl]
    rfl

theorem p_spec_DoDeals (b : Book) (ds : List Deal) (hb : smallB b) (hl : ds.length ≤ 1048576) : g_spec_DoDeals (b, (ds, ())) = some (doDealsF b ds) := by
  unfold g_spec_DoDeals doDealsF behindF lastB
  simp only [w_bnd, w_chk, w_br, w_cal, w_jn, w_out, w_lop, p_spec_l07Asked b ds hb hl, Option.bind_some, decide_eq_true_eq]
  by_cases ha : askedF b ds ≠ 0
  · rw [if_pos ha, if_pos ha]; rfl
  · rw [if_neg ha, if_neg ha]
    obtain ⟨h1, h2⟩ := asked_ok' ha
    rw [p_spec_l07All b ds h1 h2 hl]
    simp only [Option.bind_some]
    by_cases hr : (runB b ds).2 ≠ 0
    · rw [if_pos hr, if_pos hr]; rfl
    · rw [if_neg hr, if_neg hr]
      have hr' : (runB b ds).2 = 0 := by omega
      rw [if_pos hr']
      have hsm := runB_small ds b h1 h2
      have hln := runB_len ds b
      by_cases h0 : (runB b ds).1.length = 0
      · rw [if_pos (by omega), p_spec_l07Copy b hb, if_pos h0]
        rfl
      · have e1 := wrap64 (n := ((runB b ds).1.length : Int) - 1) (by omega) (by omega)
        have e2 : (((runB b ds).1.length : Int) - 1).toNat = (runB b ds).1.length - 1 := by omega
        rw [if_neg (by omega), e1, if_pos (by omega), e2, if_neg h0]
        have hlt : (runB b ds).1.length - 1 < (runB b ds).1.length := by omega
        rw [p_spec_l07Copy _ (by rw [getD_in hlt]; exact (okBook_ok (hsm _ (List.getElem_mem hlt))).small)]
        rfl

theorem doDealsF_small (b : Book) (ds : List Deal) (hb : smallB b) : (doDealsF b ds).2.2.1.length ≤ 1048576 ∧ (doDealsF b ds).2.2.2.1.length ≤ 1048576 := by
  unfold doDealsF
  by_cases ha : askedF b ds ≠ 0
  · rw [if_pos ha]; simp
  · rw [if_neg ha]
    obtain ⟨h1, h2⟩ := asked_ok' ha
    unfold behindF
    by_cases hr : (runB b ds).2 ≠ 0
    · rw [if_pos hr]; simp
    · rw [if_neg hr]
      have hl : smallB (lastB b ds) := by
        unfold lastB
        by_cases h0 : (runB b ds).1.length = 0
        · rw [if_pos h0]; exact hb
        · rw [if_neg h0]
          have hlt : (runB b ds).1.length - 1 < (runB b ds).1.length := by omega
          rw [getD_in hlt]
          exact (okBook_ok (runB_small ds b h1 h2 _ (List.getElem_mem hlt))).small
      exact ⟨hl.1, hl.2⟩

end Go.Proofs.Ytjnfbibaldbjhaa
