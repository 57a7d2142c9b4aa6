/- A deal that is done: the program and its reference. -/
import Derived.Test.YtjnfbibaldbjhaaPuBook2
set_option linter.unusedVariables false
set_option linter.unusedSimpArgs false
namespace Go.Proofs.Ytjnfbibaldbjhaa
open Go.Vm

theorem okTals_get {people day : Int} : ∀ {ts : List Tal} {before : Int}, okTals people day before ts = true → ∀ i (h : i < ts.length), ∃ a, okTal people day a ts[i] = true ∧ (0 ≤ before → 0 ≤ a) := by
  intro ts
  induction ts with
  | nil => intro before h i hi; simp at hi
  | cons t r ih =>
    intro before h i hi
    simp only [okTals, Bool.and_eq_true] at h
    cases i with
    | zero => exact ⟨before, h.1, id⟩
    | succ i =>
      obtain ⟨a, h1, h2⟩ := ih h.2 i (by simpa using hi)
      refine ⟨a, by simpa using h1, fun hb => h2 ?_⟩
      have := h.1
      simp only [okTal, inR, Bool.and_eq_true, decide_eq_true_eq] at this
      omega

structure TalOk (people : Int) (t : Tal) : Prop where
  d0 : 0 ≤ t.1
  d1 : t.1 < people
  h0 : 0 ≤ t.2.1
  h1 : t.2.1 < people
  a0 : 1 ≤ t.2.2.2.1
  a1 : t.2.2.2.1 ≤ 100000000
  l0 : 0 ≤ t.2.2.2.2.1
  l1 : t.2.2.2.2.1 ≤ t.2.2.2.1
  ne : t.1 = t.2.1 → t.2.2.2.2.1 = 0

theorem okTal_ok {people day a : Int} {t : Tal} (h : okTal people day a t = true) : TalOk people t := by
  simp only [okTal, inR, Bool.and_eq_true, decide_eq_true_eq, Bool.not_eq_true', Bool.and_eq_false_iff, decide_eq_false_iff_not] at h
  refine ⟨by omega, by omega, by omega, by omega, by omega, by omega, by omega, by omega, fun e => ?_⟩
  rcases h.2 with h2 | h2
  · exact absurd e h2
  · omega

structure BookOk (b : Book) : Prop where
  day0 : 0 ≤ b.1
  day1 : b.1 ≤ 100000
  n0 : 1 ≤ b.2.1.length
  n1 : b.2.1.length ≤ 16
  cash : ∀ i (h : i < b.2.1.length), 0 ≤ b.2.1[i] ∧ b.2.1[i] ≤ 100000000
  m : b.2.2.1.length ≤ 40
  tal : ∀ i (h : i < b.2.2.1.length), TalOk b.2.1.length b.2.2.1[i]

theorem okBook_ok {b : Book} (h : okBook b = true) : BookOk b := by
  simp only [okBook, okCash, inR, Bool.and_eq_true, decide_eq_true_eq, List.all_eq_true] at h
  obtain ⟨⟨⟨h1, h2, h3⟩, h4⟩, h5⟩ := h
  exact ⟨by omega, by omega, by omega, by omega, fun i hi => h3 _ (List.getElem_mem hi), h4, fun i hi => by obtain ⟨a, ha, _⟩ := okTals_get h5 i hi; exact okTal_ok ha⟩

theorem BookOk.small {b : Book} (h : BookOk b) : smallB b := ⟨by have := h.n1; omega, by have := h.m; omega⟩

def xT (ts : List Tal) (k : Int) : Tal := ts.getD k.toNat (dz kd_impl_Tally)
def refF (b : Book) (d : Deal) : Int :=
  if d.1 < b.1 then 4
  else if ¬ (0 ≤ d.2.2.2.1 ∧ d.2.2.2.1 < b.2.1.length) ∨ ¬ (0 ≤ d.2.2.2.2.1 ∧ d.2.2.2.2.1 < b.2.1.length) ∨ (d.2.1 ≠ 1 ∧ d.2.2.1 ≥ b.2.2.1.length) then 2
  else if d.2.1 = 1 then (if d.2.2.2.1 = d.2.2.2.2.1 then 4 else if b.2.2.1.length = 40 then 3 else 0)
  else if (d.2.1 = 2 ∧ d.2.2.2.1 = d.2.2.2.2.1) ∨ (d.2.1 ≠ 3 ∧ d.2.2.2.1 ≠ (xT b.2.2.1 d.2.2.1).2.1) ∨ (xT b.2.2.1 d.2.2.1).2.2.2.2.1 = 0 ∨ d.2.2.2.2.2.1 > (xT b.2.2.1 d.2.2.1).2.2.2.2.1 then 4
  else if d.2.1 = 3 ∧ b.2.1.getD (xT b.2.2.1 d.2.2.1).1.toNat 0 < d.2.2.2.2.2.1 then 8
  else if d.2.1 = 3 ∧ b.2.1.getD (xT b.2.2.1 d.2.2.1).2.1.toNat 0 + d.2.2.2.2.2.1 > 100000000 then 3
  else 0
def cashF (b : Book) (d : Deal) : List Int :=
  if d.2.1 = 3 then
    (b.2.1.set (xT b.2.2.1 d.2.2.1).1.toNat (b.2.1.getD (xT b.2.2.1 d.2.2.1).1.toNat 0 - d.2.2.2.2.2.1)).set (xT b.2.2.1 d.2.2.1).2.1.toNat (b.2.1.getD (xT b.2.2.1 d.2.2.1).2.1.toNat 0 + d.2.2.2.2.2.1)
  else b.2.1
def newT (t : Tal) (d : Deal) : Tal :=
  if d.2.1 = 2 then (t.1, d.2.2.2.2.1, t.2.2.1, t.2.2.2.1, (if d.2.2.2.2.1 = t.1 then 0 else t.2.2.2.2.1), ())
  else if d.2.1 = 3 then (t.1, t.2.1, t.2.2.1, t.2.2.2.1, t.2.2.2.2.1 - d.2.2.2.2.2.1, ())
  else (t.1, t.2.1, t.2.2.1, t.2.2.2.1, 0, ())
def talsF (b : Book) (d : Deal) : List Tal :=
  if d.2.1 = 1 then b.2.2.1 ++ [(d.2.2.2.1, d.2.2.2.2.1, d.1, d.2.2.2.2.2.1, d.2.2.2.2.2.1, ())]
  else b.2.2.1.set d.2.2.1.toNat (newT (xT b.2.2.1 d.2.2.1) d)
def doF (b : Book) (d : Deal) : Int × Int × List Int × List Tal × Unit :=
  if refF b d = 0 then (d.1, 0, cashF b d, talsF b d, ()) else (0, refF b d, [], [], ())

structure DealOk (d : Deal) : Prop where
  day : 0 ≤ d.1 ∧ d.1 ≤ 100000
  k : d.2.1 = 1 ∨ d.2.1 = 2 ∨ d.2.1 = 3 ∨ d.2.1 = 4
  c1 : d.2.1 = 1 → d.2.2.1 = 0 ∧ 0 ≤ d.2.2.2.1 ∧ 0 ≤ d.2.2.2.2.1 ∧ 1 ≤ d.2.2.2.2.2.1
  c2 : d.2.1 = 2 → 0 ≤ d.2.2.2.1 ∧ 0 ≤ d.2.2.2.2.1 ∧ d.2.2.2.2.2.1 = 0
  c3 : d.2.1 = 3 → d.2.2.2.1 = 0 ∧ d.2.2.2.2.1 = 0 ∧ 1 ≤ d.2.2.2.2.2.1
  c4 : d.2.1 = 4 → 0 ≤ d.2.2.2.1 ∧ d.2.2.2.2.1 = 0 ∧ d.2.2.2.2.2.1 = 0
  t : 0 ≤ d.2.2.1 ∧ d.2.2.1 ≤ 39
  am : d.2.2.2.2.2.1 ≤ 100000000

theorem okDeal_ok {d : Deal} (h : okDeal d = true) : DealOk d := by
  simp only [okDeal, inR, Bool.and_eq_true, decide_eq_true_eq] at h
  obtain ⟨h0, h⟩ := h
  by_cases k1 : d.2.1 = 1
  · rw [if_pos k1] at h
    simp only [Bool.and_eq_true, decide_eq_true_eq] at h
    exact ⟨by omega, .inl k1, fun _ => by omega, fun _ => by omega, fun _ => by omega, fun _ => by omega, by omega, by omega⟩
  · rw [if_neg k1] at h
    by_cases k2 : d.2.1 = 2
    · rw [if_pos k2] at h
      simp only [Bool.and_eq_true, decide_eq_true_eq] at h
      exact ⟨by omega, by omega, fun _ => by omega, fun _ => by omega, fun _ => by omega, fun _ => by omega, by omega, by omega⟩
    · rw [if_neg k2] at h
      by_cases k3 : d.2.1 = 3
      · rw [if_pos k3] at h
        simp only [Bool.and_eq_true, decide_eq_true_eq] at h
        exact ⟨by omega, by omega, fun _ => by omega, fun _ => by omega, fun _ => by omega, fun _ => by omega, by omega, by omega⟩
      · rw [if_neg k3] at h
        by_cases k4 : d.2.1 = 4
        · rw [if_pos k4] at h
          simp only [Bool.and_eq_true, decide_eq_true_eq] at h
          exact ⟨by omega, by omega, fun _ => by omega, fun _ => by omega, fun _ => by omega, fun _ => by omega, by omega, by omega⟩
        · rw [if_neg k4] at h; cases h

theorem getD_cash {c : List Int} {i : Int} {d : Int} (h0 : 0 ≤ i) (h1 : i < c.length) : c.getD i.toNat d = c.getD i.toNat 0 := by
  have : i.toNat < c.length := by omega
  simp [this]

theorem p_spec_l07Refused (b : Book) (d : Deal) (hb : BookOk b) (hd : DealOk d) : g_spec_l07Refused (b, (d, ())) = some (refF b d, ()) := by
  obtain ⟨bd, c, ts, u⟩ := b
  obtain ⟨dd, k, tl, fr, to, am, v⟩ := d
  cases u
  cases v
  obtain ⟨b1, b2, b3, b4, b5, b6, b7⟩ := hb
  obtain ⟨⟨d1, d2⟩, hk, c1, c2, c3, c4, ⟨t1, t2⟩, a2⟩ := hd
  dsimp only at *
  have e1 := p_spec_l02Person (c.length : Int) fr (by omega) (by omega)
  have e2 := p_spec_l02Person (c.length : Int) to (by omega) (by omega)
  unfold g_spec_l07Refused refF
  simp only [w_bnd, w_chk, w_br, w_cal, w_jn, e1, e2, Option.bind_some, ite_or, ite_and, decide_eq_true_eq]
  by_cases h1 : dd < bd
  · rw [if_pos h1, if_pos h1]
  · rw [if_neg h1, if_neg h1]
    have e3 : (if k ≠ 1 then some (decide (tl ≥ (ts.length : Int))) else some false) = some (decide (k ≠ 1) && decide (tl ≥ (ts.length : Int))) := by
      by_cases hh : k ≠ 1 <;> simp [hh]
    try simp only [e3, ite_or, Option.bind_some]
    by_cases h2 : ¬ (0 ≤ fr ∧ fr < c.length) ∨ ¬ (0 ≤ to ∧ to < c.length) ∨ (k ≠ 1 ∧ tl ≥ ts.length)
    · rw [if_pos h2, if_pos]
      simp only [inR, Bool.or_eq_true, Bool.not_eq_true', Bool.and_eq_false_iff, Bool.and_eq_true, decide_eq_true_eq, decide_eq_false_iff_not]
      omega
    · rw [if_neg h2, if_neg]
      rotate_left
      · simp only [inR, Bool.or_eq_true, Bool.not_eq_true', Bool.and_eq_false_iff, Bool.and_eq_true, decide_eq_true_eq, decide_eq_false_iff_not]
        omega
      by_cases k1 : k = 1
      · rw [if_pos k1, if_pos k1]
        by_cases h3 : fr = to
        · rw [if_pos h3, if_pos h3]
        · rw [if_neg h3, if_neg h3]
          by_cases h4 : ts.length = 40
          · rw [if_pos (by omega), if_pos h4]
          · rw [if_neg (by omega), if_neg h4]
      · rw [if_neg k1, if_neg k1]
        have htl : tl.toNat < ts.length := by omega
        rw [if_pos (by omega)]
        have hx : ts.getD tl.toNat (dz kd_impl_Tally) = ts[tl.toNat] := by simp [htl]
        have hX : xT ts tl = ts[tl.toNat] := hx
        rw [hX, hx]
        obtain ⟨x1, x2, x3, x4, x5, x6, x7, x8, x9⟩ := b7 tl.toNat htl
        generalize ts[tl.toNat] = x at *
        have g1 : c.getD x.1.toNat (dz (.int .i64)) = c.getD x.1.toNat 0 := rfl
        have g2 : c.getD x.2.1.toNat (dz (.int .i64)) = c.getD x.2.1.toNat 0 := rfl
        have n1 : x.2.1.toNat < c.length := by omega
        have q1 : 0 ≤ c.getD x.2.1.toNat 0 ∧ c.getD x.2.1.toNat 0 ≤ 100000000 := by
          have := b5 x.2.1.toNat n1
          simpa [n1] using this
        have hw : Go.IntKind.wrap .i64 (c.getD x.2.1.toNat 0 + am) = c.getD x.2.1.toNat 0 + am := by
          refine wrap64 ?_ ?_
          · rcases hk with hk | hk | hk | hk <;> omega
          · omega
        have c5 : (if k = 2 then (if fr = to then some true else if k ≠ 3 then some (decide (fr ≠ x.2.1) || (decide (x.2.2.2.2.1 = 0) || decide (am > x.2.2.2.2.1))) else some (decide (x.2.2.2.2.1 = 0) || decide (am > x.2.2.2.2.1)))
            else if k ≠ 3 then some (decide (fr ≠ x.2.1) || (decide (x.2.2.2.2.1 = 0) || decide (am > x.2.2.2.2.1))) else some (decide (x.2.2.2.2.1 = 0) || decide (am > x.2.2.2.2.1))) =
            some (decide ((k = 2 ∧ fr = to) ∨ (k ≠ 3 ∧ fr ≠ x.2.1) ∨ x.2.2.2.2.1 = 0 ∨ am > x.2.2.2.2.1)) := by
          clear hw q1 g1 g2 hX hx
          (repeat' split) <;> (congr 1; rw [Bool.eq_iff_iff]; simp only [Bool.or_eq_true, decide_eq_true_eq, eq_self, true_iff]; omega)
        rw [c5]
        simp only [Option.bind_some, decide_eq_true_eq]
        by_cases h5 : (k = 2 ∧ fr = to) ∨ (k ≠ 3 ∧ fr ≠ x.2.1) ∨ x.2.2.2.2.1 = 0 ∨ am > x.2.2.2.2.1
        · rw [if_pos h5, if_pos h5]
        · rw [if_neg h5, if_neg h5]
          rw [g1, g2, hw]
          by_cases k3 : k = 3
          · have m1 : 0 ≤ x.1 ∧ x.1 < (c.length : Int) := ⟨x1, x2⟩
            have m2 : 0 ≤ x.2.1 ∧ x.2.1 < (c.length : Int) := ⟨x3, x4⟩
            rw [if_pos k3, if_pos m1]
            simp only [Option.bind_some, decide_eq_true_eq]
            by_cases h6 : c.getD x.1.toNat 0 < am
            · rw [if_pos h6, if_pos ⟨k3, h6⟩]
            · rw [if_neg h6, if_neg (show ¬ (k = 3 ∧ c.getD x.1.toNat 0 < am) from fun h => h6 h.2)]
              rw [if_pos k3, if_pos m2]
              simp only [Option.bind_some, decide_eq_true_eq]
              by_cases h7 : c.getD x.2.1.toNat 0 + am > 100000000
              · rw [if_pos h7, if_pos ⟨k3, h7⟩]
              · rw [if_neg h7, if_neg (show ¬ (k = 3 ∧ c.getD x.2.1.toNat 0 + am > 100000000) from fun h => h7 h.2)]
          · simp [k3]

theorem set_getD_self {α : Type} {xs : List α} {k : Nat} {v d : α} (h : k < xs.length) : (xs.set k v).getD k d = v := by simp [h]
theorem set_getD_ne {α : Type} {xs : List α} {k j : Nat} {v d : α} (h : k ≠ j) : (xs.set k v).getD j d = xs.getD j d := by simp [List.getD, List.getElem?_set_ne h]

theorem p_spec_l07Do (b : Book) (d : Deal) (hb : BookOk b) (hd : DealOk d) : g_spec_l07Do (b, (d, ())) = some (doF b d) := by
  have hr := p_spec_l07Refused b d hb hd
  have hc := p_spec_l07Copy b hb.small
  unfold g_spec_l07Do doF
  simp only [w_bnd, w_chk, w_br, w_cal, w_jn, hr, hc, Option.bind_some, decide_eq_true_eq]
  by_cases h0 : refF b d = 0
  · rw [if_neg (by omega), if_pos h0]
    obtain ⟨bd, c, ts, u⟩ := b
    obtain ⟨dd, k, tl, fr, to, am, v⟩ := d
    cases u
    cases v
    obtain ⟨b1, b2, b3, b4, b5, b6, b7⟩ := hb
    obtain ⟨⟨d1, d2⟩, hk, c1, c2, c3, c4, ⟨t1, t2⟩, a2⟩ := hd
    unfold refF at h0
    dsimp only at *
    by_cases k1 : k = 1
    · subst k1
      rw [if_pos rfl, if_pos (by simp; omega)]
      simp [cashF, talsF]
    · rw [if_neg k1]
      have htl : tl.toNat < ts.length := by
        split at h0
        · cases h0
        · split at h0
          · cases h0
          · omega
      rw [if_pos (by omega)]
      have hx : ts.getD tl.toNat (dz kd_impl_Tally) = ts[tl.toNat] := by simp [htl]
      have hX : xT ts tl = ts[tl.toNat] := hx
      obtain ⟨x1, x2, x3, x4, x5, x6, x7, x8, x9⟩ := b7 tl.toNat htl
      simp only [cashF, talsF, newT, hX]
      rw [hX] at h0
      rw [hx]
      rw [if_neg k1]
      generalize ts[tl.toNat] = x at *
      by_cases k2 : k = 2
      · subst k2
        simp only [reduceIte, Int.reduceEq]
        rw [set_getD_self htl]
        dsimp only
        by_cases hq : to = x.1
        · rw [if_pos hq, if_pos hq, List.set_set]
        · rw [if_neg hq, if_neg hq]
      · rw [if_neg k2, if_neg k2]
        by_cases k3 : k = 3
        · subst k3
          simp only [reduceIte, Int.reduceEq]
          have n1 : x.1.toNat < c.length := by omega
          have n2 : x.2.1.toNat < c.length := by omega
          have hne : x.1.toNat ≠ x.2.1.toNat := by
            intro e
            have := x9 (by omega)
            simp [this] at h0
            omega
          have q1 := b5 x.1.toNat n1
          have q2 := b5 x.2.1.toNat n2
          have g1 : c.getD x.1.toNat (dz (.int .i64)) = c[x.1.toNat] := by simp [n1]
          have g1' : c.getD x.1.toNat 0 = c[x.1.toNat] := by simp [n1]
          have g2' : c.getD x.2.1.toNat 0 = c[x.2.1.toNat] := by simp [n2]
          rw [if_pos (by omega), if_pos (by omega), if_pos (by simp; omega), if_pos (by simp; omega)]
          rw [g1, set_getD_ne hne, show c.getD x.2.1.toNat (dz (.int .i64)) = c[x.2.1.toNat] from by simp [n2], g1', g2']
          rw [wrap64 (n := c[x.1.toNat] - am) (by omega) (by omega), wrap64 (n := c[x.2.1.toNat] + am) (by omega) (by omega), wrap64 (n := x.2.2.2.2.1 - am) (by omega) (by omega)]
        · have k4 : k = 4 := by omega
          subst k4
          simp only [reduceIte, Int.reduceEq]
  · rw [if_pos h0, if_neg h0]
    rfl
end Go.Proofs.Ytjnfbibaldbjhaa
