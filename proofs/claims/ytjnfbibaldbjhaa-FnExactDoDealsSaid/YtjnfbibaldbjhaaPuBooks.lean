/- The books behind deals: the program and its reference. -/
import Derived.Test.YtjnfbibaldbjhaaPuDo2
set_option linter.unusedVariables false
set_option linter.unusedSimpArgs false
namespace Go.Proofs.Ytjnfbibaldbjhaa
open Go.Vm

/-! #### A book stays valid -/
theorem okTal_day {people day day' a : Int} {t : Tal} (h : okTal people day a t = true) (hd : day ≤ day') : okTal people day' a t = true := by
  simp only [okTal, inR, Bool.and_eq_true, decide_eq_true_eq] at h ⊢
  exact ⟨⟨⟨⟨h.1.1.1.1, h.1.1.1.2.1, by omega⟩, h.1.1.2⟩, h.1.2⟩, h.2⟩
theorem okTals_day {people day day' : Int} (hd : day ≤ day') : ∀ {ts : List Tal} {a : Int}, okTals people day a ts = true → okTals people day' a ts = true := by
  intro ts
  induction ts with
  | nil => intro a _; rfl
  | cons t r ih =>
    intro a h
    simp only [okTals, Bool.and_eq_true] at h ⊢
    exact ⟨okTal_day h.1 hd, ih h.2⟩
theorem okTals_append {people day : Int} {t : Tal} (ht : ∀ a, a ≤ t.2.2.1 → okTal people day a t = true) (hd : t.2.2.1 = day) : ∀ {ts : List Tal} {a : Int}, a ≤ day → okTals people day a ts = true → okTals people day a (ts ++ [t]) = true := by
  intro ts
  induction ts with
  | nil => intro a ha _; simp [okTals, ht a (by omega)]
  | cons x r ih =>
    intro a ha h
    simp only [okTals, List.cons_append, Bool.and_eq_true] at h ⊢
    refine ⟨h.1, ih ?_ h.2⟩
    have := h.1
    simp only [okTal, inR, Bool.and_eq_true, decide_eq_true_eq] at this
    omega
theorem okTals_set {people day : Int} {t : Tal} : ∀ {ts : List Tal} {k : Nat} {a : Int} (hk : k < ts.length), (∀ b, okTal people day b ts[k] = true → okTal people day b t = true) → t.2.2.1 = ts[k].2.2.1 → okTals people day a ts = true → okTals people day a (ts.set k t) = true := by
  intro ts
  induction ts with
  | nil => intro k a hk; simp at hk
  | cons x r ih =>
    intro k a hk h1 h2 h
    simp only [okTals, Bool.and_eq_true] at h
    cases k with
    | zero =>
      simp only [List.getElem_cons_zero] at h1 h2
      simp only [List.set_cons_zero, okTals, Bool.and_eq_true]
      exact ⟨h1 a h.1, by rw [h2]; exact h.2⟩
    | succ k =>
      simp only [List.getElem_cons_succ] at h1 h2
      simp only [List.set_cons_succ, okTals, Bool.and_eq_true]
      exact ⟨h.1, ih (by simpa using hk) h1 h2 h.2⟩

def nextB (b : Book) (d : Deal) : Book := (d.1, cashF b d, talsF b d, ())

theorem all_set {c : List Int} {p : Int → Bool} {k : Nat} {v : Int} (h : c.all p = true) (hv : p v = true) : (c.set k v).all p = true := by
  simp only [List.all_eq_true] at h ⊢
  intro x hx
  rcases List.mem_or_eq_of_mem_set hx with hx | rfl
  · exact h x hx
  · exact hv

theorem next_ok {b : Book} {d : Deal} (hb : okBook b = true) (hd : okDeal d = true) (hr : refF b d = 0) : okBook (nextB b d) = true := by
  have hB := okBook_ok hb
  have hD := okDeal_ok hd
  obtain ⟨bd, c, ts, u⟩ := b
  obtain ⟨dd, k, tl, fr, to, am, v⟩ := d
  cases u
  cases v
  simp only [okBook, okCash, Bool.and_eq_true, decide_eq_true_eq] at hb
  obtain ⟨⟨⟨p1, p2, p3⟩, p4⟩, p5⟩ := hb
  obtain ⟨b1, b2, b3, b4, b5, b6, b7⟩ := hB
  obtain ⟨⟨d1, d2⟩, hk, c1, c2, c3, c4, ⟨t1, t2⟩, a2⟩ := hD
  unfold refF at hr
  dsimp only at *
  have hdd : inR dd 0 100000 = true := by simp only [inR, Bool.and_eq_true, decide_eq_true_eq]; omega
  by_cases h1 : dd < bd
  · rw [if_pos h1] at hr; cases hr
  rw [if_neg h1] at hr
  split at hr
  · cases hr
  rename_i h2
  have p5' : okTals c.length dd 0 ts = true := okTals_day (by omega) p5
  by_cases k1 : k = 1
  · subst k1
    rw [if_pos rfl] at hr
    by_cases f3 : fr = to
    · rw [if_pos f3] at hr; cases hr
    rw [if_neg f3] at hr
    by_cases f4 : ts.length = 40
    · rw [if_pos f4] at hr; cases hr
    have hc : cashF (bd, c, ts, ()) (dd, 1, tl, fr, to, am, ()) = c := by unfold cashF; rfl
    have ht : talsF (bd, c, ts, ()) (dd, 1, tl, fr, to, am, ()) = ts ++ [(fr, to, dd, am, am, ())] := by unfold talsF; rfl
    simp only [nextB, hc, ht, okBook, okCash, Bool.and_eq_true, decide_eq_true_eq]
    refine ⟨⟨⟨hdd, p2, p3⟩, by simp; omega⟩, okTals_append (t := (fr, to, dd, am, am, ())) (day := dd) (fun a ha => ?_) rfl d1 p5'⟩
    simp only [okTal, inR, Bool.and_eq_true, decide_eq_true_eq, Bool.not_eq_true', Bool.and_eq_false_iff, decide_eq_false_iff_not]
    dsimp only at ha
    omega
  · rw [if_neg k1] at hr
    have htl : tl.toNat < ts.length := by omega
    have hX : xT ts tl = ts[tl.toNat] := by simp [xT, htl]
    rw [hX] at hr
    obtain ⟨x1, x2, x3, x4, x5, x6, x7, x8, x9⟩ := b7 tl.toNat htl
    have ht : talsF (bd, c, ts, ()) (dd, k, tl, fr, to, am, ()) = ts.set tl.toNat (newT ts[tl.toNat] (dd, k, tl, fr, to, am, ())) := by unfold talsF; dsimp only; rw [if_neg k1, hX]
    have hcl : (cashF (bd, c, ts, ()) (dd, k, tl, fr, to, am, ())).length = c.length := by unfold cashF; dsimp only; split <;> simp
    have hca : (cashF (bd, c, ts, ()) (dd, k, tl, fr, to, am, ())).all (fun n => inR n 0 100000000) = true := by
      unfold cashF
      dsimp only
      rw [hX]
      split
      · rename_i k3
        have n1 : ts[tl.toNat].1.toNat < c.length := by omega
        have n2 : ts[tl.toNat].2.1.toNat < c.length := by omega
        have q1 := b5 _ n1
        have q2 := b5 _ n2
        have g1' : c.getD ts[tl.toNat].1.toNat 0 = c[ts[tl.toNat].1.toNat] := by simp [n1]
        have g2' : c.getD ts[tl.toNat].2.1.toNat 0 = c[ts[tl.toNat].2.1.toNat] := by simp [n2]
        rw [g1', g2'] at hr
        rw [g1', g2']
        have hr2 : ¬ (k = 3 ∧ c[ts[tl.toNat].1.toNat] < am) ∧ ¬ (k = 3 ∧ c[ts[tl.toNat].2.1.toNat] + am > 100000000) := by
          split at hr
          · cases hr
          · split at hr
            · cases hr
            · split at hr
              · cases hr
              · exact ⟨by assumption, by assumption⟩
        obtain ⟨r1, r2⟩ := hr2
        have r1' : ¬ c[ts[tl.toNat].1.toNat] < am := fun h => r1 ⟨k3, h⟩
        have r2' : ¬ c[ts[tl.toNat].2.1.toNat] + am > 100000000 := fun h => r2 ⟨k3, h⟩
        have := c3 k3
        exact all_set (all_set p3 (by simp only [inR, Bool.and_eq_true, decide_eq_true_eq]; omega)) (by simp only [inR, Bool.and_eq_true, decide_eq_true_eq]; omega)
      · exact p3
    simp only [nextB, ht, okBook, okCash, Bool.and_eq_true, decide_eq_true_eq, hcl]
    refine ⟨⟨⟨hdd, p2, hca⟩, by simpa using p4⟩, okTals_set htl (fun b hok => ?_) ?_ p5'⟩
    · have hs : ¬ ((k = 2 ∧ fr = to) ∨ (k ≠ 3 ∧ fr ≠ ts[tl.toNat].2.1) ∨ ts[tl.toNat].2.2.2.2.1 = 0 ∨ am > ts[tl.toNat].2.2.2.2.1) := by
        split at hr
        · cases hr
        · assumption
      generalize ts[tl.toNat] = x at *
      unfold newT
      dsimp only
      simp only [okTal, inR, Bool.and_eq_true, decide_eq_true_eq, Bool.not_eq_true', Bool.and_eq_false_iff, decide_eq_false_iff_not] at hok
      by_cases k2 : k = 2
      · rw [if_pos k2]
        have := c2 k2
        simp only [okTal, inR, Bool.and_eq_true, decide_eq_true_eq, Bool.not_eq_true', Bool.and_eq_false_iff, decide_eq_false_iff_not]
        by_cases q3 : to = x.1
        · rw [if_pos q3]; omega
        · rw [if_neg q3]; omega
      · rw [if_neg k2]
        by_cases k3 : k = 3
        · rw [if_pos k3]
          have := c3 k3
          simp only [okTal, inR, Bool.and_eq_true, decide_eq_true_eq, Bool.not_eq_true', Bool.and_eq_false_iff, decide_eq_false_iff_not]
          omega
        · rw [if_neg k3]
          simp only [okTal, inR, Bool.and_eq_true, decide_eq_true_eq, Bool.not_eq_true', Bool.and_eq_false_iff, decide_eq_false_iff_not]
          omega
    · unfold newT
      dsimp only
      split
      · rfl
      · split <;> rfl

/-! #### Deals one after another -/
/-- The books behind deals, up to the first that is refused; its code. -/
def runB : Book → List Deal → List Book × Int
  | _, [] => ([], 0)
  | b, d :: r => if refF b d = 0 then (nextB b d :: (runB (nextB b d) r).1, (runB (nextB b d) r).2) else ([], refF b d)

theorem runB_len : ∀ (ds : List Deal) (b : Book), (runB b ds).1.length ≤ ds.length := by
  intro ds
  induction ds with
  | nil => intro b; simp [runB]
  | cons d r ih => intro b; simp only [runB]; split <;> simp; exact ih _

theorem runB_small : ∀ (ds : List Deal) (b : Book), okBook b = true → ds.all okDeal = true → ∀ x ∈ (runB b ds).1, okBook x = true := by
  intro ds
  induction ds with
  | nil => intro b _ _ x hx; simp [runB] at hx
  | cons d r ih =>
    intro b hb hd x hx
    simp only [List.all_cons, Bool.and_eq_true] at hd
    simp only [runB] at hx
    split at hx
    · rename_i h0
      have hn := next_ok hb hd.1 h0
      rcases List.mem_cons.1 hx with rfl | hx
      · exact hn
      · exact ih _ hn hd.2 x hx
    · simp at hx

/-- The program's loop. -/
theorem p_impl_books (b : Book) (ds : List Deal) (hb : okBook b = true) (hd : ds.all okDeal = true) (hl : ds.length ≤ 1048576) : g_impl_books (b, (ds, ())) = some ((runB b ds).2, ((runB b ds).1, ())) := by
  unfold g_impl_books
  simp only [w_bnd, w_chk, w_br, w_cal, w_jn, w_out, w_lop]
  refine (loop_run (σ := Book × List Book) (xs := ds) (st := fun i a => (ds, ((ds.length : Int), ((i : Int), (a.1.1, (a.1.2.1, (a.1.2.2.1, (a.2, ())))))))) (fun i a => okBook a.1 = true ∧ a.2.length = i)
    (fun _ d a => if refF a.1 d = 0 then .inl (nextB a.1 d, a.2 ++ [nextB a.1 d]) else .inr (refF a.1 d, (a.2, ()))) (fun a => ((0 : Int), (a.2, ()))) (fun i hi a ha => ?_) (fun a ha => by simp) (a := (b, [])) ⟨hb, rfl⟩).trans ?_
  · obtain ⟨⟨bd, c, ts, u⟩, out⟩ := a
    cases u
    obtain ⟨ha1, ha2⟩ := ha
    dsimp only at ha1 ha2
    have hdi : okDeal ds[i] = true := by
      simp only [List.all_eq_true] at hd
      exact hd _ (List.getElem_mem hi)
    have hdo := p_impl_do (bd, c, ts, ()) ds[i] (okBook_ok ha1) (okDeal_ok hdi)
    have hg : ds.getD ((i : Int)).toNat (dz kd_impl_Deal) = ds[i] := by simp [hi]
    have hw := wrap64 (n := (i : Int) + 1) (by omega) (by omega)
    constructor
    · dsimp only
      rw [if_pos (by simp [hi]), if_pos (by simp [hi]), hg, hdo]
      simp only [Option.bind_some, doF]
      by_cases h0 : refF (bd, c, ts, ()) ds[i] = 0
      · rw [if_pos h0]
        dsimp only
        rw [if_neg (by simp), if_pos (by simp [ha2]; omega), hw, if_pos h0]
        rfl
      · rw [if_neg h0]
        dsimp only
        rw [if_pos (by simpa using h0), if_neg h0]
        rfl
    · intro a' ha'
      dsimp only at ha'
      split at ha'
      · rename_i h0
        injection ha' with ha'
        subst ha'
        exact ⟨next_ok ha1 hdi h0, by simp [ha2]⟩
      · cases ha'
  · congr 1
    have gen : ∀ (ds : List Deal) (i : Nat) (b : Book) (out : List Book), runL (β := Int × List Book × Unit) (fun _ d (a : Book × List Book) => if refF a.1 d = 0 then .inl (nextB a.1 d, a.2 ++ [nextB a.1 d]) else .inr (refF a.1 d, (a.2, ()))) (fun a => ((0 : Int), (a.2, ()))) i ds (b, out) = ((runB b ds).2, (out ++ (runB b ds).1, ())) := by
      intro ds
      induction ds with
      | nil => intro i b out; simp [runL, runB]
      | cons d r ih =>
        intro i b out
        simp only [runL, runB]
        by_cases h0 : refF b d = 0
        · simp only [if_pos h0, ih, List.append_assoc, List.singleton_append]
        · simp only [if_neg h0, List.append_nil]
    rw [gen]
    simp

/-- The reference's loop. -/
theorem p_spec_l07All (b : Book) (ds : List Deal) (hb : okBook b = true) (hd : ds.all okDeal = true) (hl : ds.length ≤ 1048576) :
    g_spec_l07All (b, (ds, ())) = some ((runB b ds).2, ((if (runB b ds).2 = 0 then 0 else ((runB b ds).1.length : Int)), ((if (runB b ds).2 = 0 then (runB b ds).1 else []), ()))) := by
  have hcp := p_spec_l07Copy b (okBook_ok hb).small
  unfold g_spec_l07All
  simp only [w_bnd, w_chk, w_br, w_cal, w_jn, w_out, w_lop, hcp, Option.bind_some]
  refine (loop_run (σ := Book × List Book) (xs := ds) (st := fun i a => (ds, ((i : Int), (a.2, a.1)))) (fun i a => okBook a.1 = true ∧ a.2.length = i)
    (fun i d a => if refF a.1 d = 0 then .inl (nextB a.1 d, a.2 ++ [nextB a.1 d]) else .inr (refF a.1 d, ((i : Int), ([], ())))) (fun a => ((0 : Int), ((0 : Int), (a.2, ())))) (fun i hi a ha => ?_) (fun a ha => by simp) (a := (b, [])) ⟨hb, rfl⟩).trans ?_
  · obtain ⟨⟨bd, c, ts, u⟩, out⟩ := a
    cases u
    obtain ⟨ha1, ha2⟩ := ha
    dsimp only at ha1 ha2
    have hdi : okDeal ds[i] = true := by
      simp only [List.all_eq_true] at hd
      exact hd _ (List.getElem_mem hi)
    have hdo := p_spec_l07Do (bd, c, ts, ()) ds[i] (okBook_ok ha1) (okDeal_ok hdi)
    have hg : ds.getD ((i : Int)).toNat (dz kd_impl_Deal) = ds[i] := by simp [hi]
    have hw := wrap64 (n := (i : Int) + 1) (by omega) (by omega)
    constructor
    · dsimp only
      rw [if_pos (by simp [hi]), if_pos (by simp [hi]), hg, hdo]
      simp only [Option.bind_some, doF]
      by_cases h0 : refF (bd, c, ts, ()) ds[i] = 0
      · rw [if_pos h0]
        dsimp only
        rw [if_neg (by simp), if_pos (by simp [ha2]; omega), hw, if_pos h0]
        rfl
      · rw [if_neg h0]
        dsimp only
        rw [if_pos (by simpa using h0), if_neg h0]
        rfl
    · intro a' ha'
      dsimp only at ha'
      split at ha'
      · rename_i h0
        injection ha' with ha'
        subst ha'
        exact ⟨next_ok ha1 hdi h0, by simp [ha2]⟩
      · cases ha'
  · congr 1
    have gen : ∀ (ds : List Deal) (i : Nat) (b : Book) (out : List Book), runL (β := Int × Int × List Book × Unit) (fun i d (a : Book × List Book) => if refF a.1 d = 0 then .inl (nextB a.1 d, a.2 ++ [nextB a.1 d]) else .inr (refF a.1 d, ((i : Int), ([], ())))) (fun a => ((0 : Int), ((0 : Int), (a.2, ())))) i ds (b, out) =
        ((runB b ds).2, ((if (runB b ds).2 = 0 then 0 else ((i + (runB b ds).1.length : Nat) : Int)), ((if (runB b ds).2 = 0 then out ++ (runB b ds).1 else []), ()))) := by
      intro ds
      induction ds with
      | nil => intro i b out; simp [runL, runB]
      | cons d r ih =>
        intro i b out
        simp only [runL, runB]
        by_cases h0 : refF b d = 0
        · simp only [if_pos h0, ih, List.append_assoc, List.singleton_append, List.length_cons, Nat.add_assoc, Nat.add_comm 1]
        · simp only [if_neg h0, List.length_nil, Nat.add_zero]
    rw [gen]
    simp
end Go.Proofs.Ytjnfbibaldbjhaa
