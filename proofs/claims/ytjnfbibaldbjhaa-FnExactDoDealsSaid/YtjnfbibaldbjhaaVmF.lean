/- The value machine, joined: what is proved here holds for every loaded program; no condition but those that each theorem states. -/
import Derived.Test.YtjnfbibaldbjhaaVmE
/- The value machine, part 39: DrOk. -/
set_option linter.unusedVariables false
set_option linter.unusedSimpArgs false
namespace Go.Vm

section
variable {P : Program} {T : Nat → K} {E : Nat → Option Ent} {w w' : World} {w0 : W0} {F N : Nat → Prop} {g g' : G} {s : St} {a : Act} {base : Nat} {β : Type}

/-- The operations from lo on, ahead of i, have been worked out. -/
structure Good (P : Program) (F : Nat → Prop) (w0 : W0) (ops : Array Oper) (ms : List Nat) (nx0 lo i : Nat) (s : St) (A : List Item) : Prop where
  cov : ∀ j, lo ≤ j → j < i → ∃ it ∈ A, it.i = j
  nx : nx0 ≤ s.nx
  rng : ∀ it ∈ A, lo ≤ it.i ∧ it.i < i ∧ nx0 ≤ it.b ∧ it.b ≤ it.e ∧ it.e ≤ s.nx
  pw : A.Pairwise Apart
  obs : ∀ it ∈ A, ∀ n o, lk it.obs n = some o → it.b ≤ n ∧ n < it.e
  does : ∀ it ∈ A, ∃ o, ops[it.i]? = some o ∧ it.dst = o.dst ∧ FreeD s o.dst ∧ DoesG P F w0 ops o (view s A (msk ms it.i) (hid ops ms lo it.i)) it

theorem good_nil {ops : Array Oper} {ms : List Nat} {lo : Nat} : Good P F w0 ops ms s.nx lo lo s [] :=
  ⟨fun j h1 h2 => by omega, Nat.le_refl _, fun it h => (by cases h), List.Pairwise.nil, fun it h => (by cases h), fun it h => (by cases h)⟩

theorem tmI_congr {m m' : Nat → Bool} : ∀ {A : List Item}, (∀ it ∈ A, m it.i = m' it.i) → tmI m A = tmI m' A := by
  intro A
  induction A with
  | nil => intro _; rfl
  | cons x r ih => intro h; simp only [tmI, h x List.mem_cons_self, ih fun it hi => h it (List.mem_cons_of_mem _ hi)]
theorem obI_congr {m m' : Nat → Bool} : ∀ {A : List Item}, (∀ it ∈ A, m it.i = m' it.i) → obI m A = obI m' A := by
  intro A
  induction A with
  | nil => intro _; rfl
  | cons x r ih => intro h; simp only [obI, h x List.mem_cons_self, ih fun it hi => h it (List.mem_cons_of_mem _ hi)]

theorem does_congr {ops : Array Oper} {o : Oper} {V V' : St} {it : Item} (h1 : V'.nf = V.nf) (h2 : V'.tm = V.tm) (h3 : V'.ob = V.ob) (h : DoesG P F w0 ops o V it) : DoesG P F w0 ops o V' it := by
  intro N g a w Q K hn I hK
  exact h N g a w Q K hn (inv_sub I (fun t v hl => by rw [h2]; exact hl) (fun n ob hl => by rw [h3]; exact hl) h1.symm) hK

theorem good_step {ops : Array Oper} {ms : List Nat} (hd : dstsOk ops = true) (hm : ∀ i k, i < ops.size → (ms.getD i 0).testBit k = true → k < i) {nx0 lo i : Nat} {A : List Item} {it : Item} {o : Oper} (h : Good P F w0 ops ms nx0 lo i s A) (hlo : lo ≤ i) (ho : ops[i]? = some o) (hi : it.i = i) (hdst : it.dst = o.dst)
    (hnt : FreeD s o.dst) (hb : it.b = s.nx) (hbe : it.b ≤ it.e) (hobs : ∀ n ob, lk it.obs n = some ob → it.b ≤ n ∧ n < it.e) (hG : DoesG P F w0 ops o (view s A (msk ms i) (hid ops ms lo i)) it) :
    Good P F w0 ops ms nx0 lo (i + 1) { s with nx := it.e } (it :: A) := by
  have hsz : i < ops.size := (Array.getElem?_eq_some_iff.1 ho).1
  -- masks do not tell of the new item
  have ext : ∀ {j : Nat}, j ≤ i → tmI (msk ms j) (it :: A) = tmI (msk ms j) A ∧ obI (msk ms j) (it :: A) = obI (msk ms j) A := by
    intro j hj
    have : msk ms j it.i = false := by
      rw [hi]
      cases hc : msk ms j i with
      | false => rfl
      | true => have := hm j i (by omega) hc; omega
    exact ⟨by simp only [tmI, this, Bool.false_eq_true, if_false], by simp only [obI, this, Bool.false_eq_true, if_false]⟩
  refine ⟨fun j h1 h2 => ?_, by have := h.nx; dsimp only; omega, fun x hx => ?_, ?_, fun x hx => ?_, fun x hx => ?_⟩
  · by_cases hj : j = i
    · exact ⟨it, List.mem_cons_self, by omega⟩
    · obtain ⟨x, hx, hxi⟩ := h.cov j h1 (by omega)
      exact ⟨x, List.mem_cons_of_mem _ hx, hxi⟩
  · dsimp only
    rcases List.mem_cons.1 hx with rfl | hx
    · have := h.nx; exact ⟨by omega, by omega, by omega, hbe, Nat.le_refl _⟩
    · obtain ⟨q1, q2, q3, q4, q5⟩ := h.rng x hx
      exact ⟨q1, by omega, q3, q4, by omega⟩
  · refine List.pairwise_cons.2 ⟨fun y hy => ?_, h.pw⟩
    obtain ⟨q1, q2, q3, q4, q5⟩ := h.rng y hy
    obtain ⟨oy, r1, r2, _⟩ := h.does y hy
    refine ⟨by omega, by omega, fun t h1 h2 => ?_⟩
    have := dsts_inj hd ho r1 (hdst ▸ h1) (r2 ▸ h2)
    omega
  · rcases List.mem_cons.1 hx with rfl | hx
    · exact hobs
    · exact h.obs x hx
  · rcases List.mem_cons.1 hx with rfl | hx
    · refine ⟨o, by rw [hi]; exact ho, hdst, hnt, ?_⟩
      rw [hi]
      exact does_congr (V := view s A (msk ms i) (hid ops ms lo i)) rfl (by simp only [view]; rw [(ext (Nat.le_refl i)).1]) (by simp only [view]; rw [(ext (Nat.le_refl i)).2]) hG
    · obtain ⟨ox, r1, r2, r3, r4⟩ := h.does x hx
      have hxi := (h.rng x hx).2.1
      exact ⟨ox, r1, r2, r3, does_congr (V := view s A (msk ms x.i) (hid ops ms lo x.i)) rfl (by simp only [view]; rw [(ext (Nat.le_of_lt hxi)).1]) (by simp only [view]; rw [(ext (Nat.le_of_lt hxi)).2]) r4⟩

theorem does_nb2 {ops : Array Oper} {o : Oper} {V V' : St} {it : Item} (h1 : nbL V'.tm = nbL V.tm) (h2 : V'.ob = V.ob) (h3 : V'.nf = V.nf) (hG : DoesG P F w0 ops o V' it) : DoesG P F w0 ops o V it := by
  intro N g a w Q K hn I hK
  exact hG N g a w Q K hn (inv_nb I h1 h2 h3) hK

theorem mem_nbI {A A' : List Item} (h : A'.map nbI = A.map nbI) {x : Item} (hx : x ∈ A') : ∃ y ∈ A, nbI y = nbI x := by
  have : nbI x ∈ A'.map nbI := List.mem_map.2 ⟨x, hx, rfl⟩
  rw [h] at this
  exact List.mem_map.1 this

theorem good_eqv {ops : Array Oper} {ms : List Nat} {nx0 lo i : Nat} {s2 : St} {A A2 : List Item} (h : Good P F w0 ops ms nx0 lo i s A) (q : Eqv s s2 A A2) : Good P F w0 ops ms nx0 lo i s2 A2 := by
  have fld : ∀ {x y : Item}, nbI y = nbI x → x.i = y.i ∧ x.dst = y.dst ∧ x.obs = y.obs ∧ x.b = y.b ∧ x.e = y.e ∧ nb x.v = nb y.v := by
    intro x y h
    simp only [nbI, Item.mk.injEq] at h
    exact ⟨h.1.symm, h.2.1.symm, h.2.2.2.1.symm, h.2.2.2.2.1.symm, h.2.2.2.2.2.symm, h.2.2.1.symm⟩
  refine ⟨fun j h1 h2 => ?_, by rw [q.nx]; exact h.nx, fun x hx => ?_, ?_, fun x hx => ?_, fun x hx => ?_⟩
  · obtain ⟨y, hy, hyi⟩ := h.cov j h1 h2
    obtain ⟨x, hx, hxy⟩ := mem_nbI q.A.symm hy
    exact ⟨x, hx, (fld hxy.symm).1.trans hyi⟩
  · obtain ⟨y, hy, hxy⟩ := mem_nbI q.A hx
    obtain ⟨f1, f2, f3, f4, f5, _⟩ := fld hxy
    rw [f1, f4, f5, q.nx]
    exact h.rng y hy
  · have hp : (A2.map nbI).Pairwise Apart := by
      rw [q.A]
      exact List.pairwise_map.2 (h.pw.imp fun h => h)
    exact (List.pairwise_map.1 hp).imp fun h => h
  · obtain ⟨y, hy, hxy⟩ := mem_nbI q.A hx
    obtain ⟨f1, f2, f3, f4, f5, _⟩ := fld hxy
    rw [f3, f4, f5]
    exact h.obs y hy
  · obtain ⟨y, hy, hxy⟩ := mem_nbI q.A hx
    obtain ⟨f1, f2, f3, f4, f5, f6⟩ := fld hxy
    obtain ⟨o, r1, r2, r3, r4⟩ := h.does y hy
    refine ⟨o, by rw [f1]; exact r1, f2.trans r2, r3.of_nf q.nt, ?_⟩
    rw [f1]
    obtain ⟨v1, v2, v3⟩ := q.view (msk ms y.i) (hid ops ms lo y.i)
    refine does_nb2 v1.symm v2.symm v3.symm ?_
    intro N g a w Q K hn I hK
    rw [f1]
    refine r4 N g a w Q K (fun n h1 h2 => hn n (by omega) (by omega)) I (fun u w' g' hM hV hN => hK u w' g' ?_ (VT_nb.1 (f6 ▸ VT_nb.2 hV)) ?_)
    · rw [f3, f4, f5]; exact hM
    · rw [f4, f5]; exact nms_nb.1 (f6 ▸ nms_nb.2 hN)

/-- What goes on behind a run of operations of open order. -/
def Cont (T : Nat → K) (E : Nat → Option Ent) (ops : Array Oper) (ms : List Nat) (hi : Nat) (s : St) (A : List Item) (k : St → Option β) (r : β) : Prop :=
  (hi = ops.size ∧ k (flush s A) = some r) ∨
  (hi < ops.size ∧ isCut ms ops.size hi = true ∧ vops std T E ops [hi] (flush s A) (fun s => frcS s fun s => vdr std T E ops ms (List.range' (hi + 1) (ops.size - (hi + 1))) (hi + 1) s [] k) = some r)

theorem seg (hT : TOk P T) (hE : EOk P E) {ops : Array Oper} {ms : List Nat} (hd : dstsOk ops = true) (hm : MsOk ops ms) {lo nx0 : Nat} {k : St → Option β} {r : β} : ∀ (m i : Nat) (s : St) (A : List Item), i + m = ops.size → lo ≤ i →
    vdr std T E ops ms (List.range' i m) lo s A k = some r → Good P F w0 ops ms nx0 lo i s A →
    ∃ hi s' A', i ≤ hi ∧ hi ≤ ops.size ∧ Good P F w0 ops ms nx0 lo hi s' A' ∧ Cont T E ops ms hi s' A' k r ∧ s'.nf = s.nf ∧ nbL s'.tm = nbL s.tm ∧ s'.ob = s.ob := by
  intro m
  induction m with
  | zero =>
    intro i s A hn hlo h hG
    rw [List.range'_zero] at h
    unfold vdr at h
    exact ⟨i, s, A, Nat.le_refl _, by omega, hG, .inl ⟨by omega, h⟩, rfl, rfl, rfl⟩
  | succ m ih =>
    intro i s A hn hlo h hG
    rw [List.range'_succ] at h
    cases hc : isCut ms ops.size i with
    | true =>
      unfold vdr at h
      rw [if_pos hc] at h
      have : m = ops.size - (i + 1) := by omega
      rw [this] at h
      exact ⟨i, s, A, Nat.le_refl _, by omega, hG, .inr ⟨by omega, hc, h⟩, rfl, rfl, rfl⟩
    | false =>
      unfold vdr at h
      rw [if_neg (by simp [hc])] at h
      split at h
      · cases h
      rename_i o h1
      obtain ⟨s2, A2, it, q, h2, h3, h4, h5, h6, h7, h8, h9⟩ := vst_step (F := F) (w0 := w0) hT hE h1 h
      obtain ⟨v1, v2, v3⟩ := q.view (msk ms i) (hid ops ms lo i)
      obtain ⟨hi, s', A', q1, q2, q3, q4, q5, q6, q7⟩ := ih (i + 1) { s2 with nx := it.e } (it :: A2) (by omega) (by omega) h9 (good_step hd hm.lt (good_eqv hG q) hlo h1 h2 h3 (h4.of_nf q.nt) (by rw [q.nx]; exact h5) h6 h7 (does_nb2 v1.symm v2.symm v3.symm h8))
      exact ⟨hi, s', A', by omega, q2, q3, q4, q5.trans q.nt, q6.trans q.tm, q7.trans q.ob⟩

/-- Which operations have come. -/
@[reducible] def Lb (l : Array Bool) : Nat → Bool := fun j => l.getD j false

theorem Lb_set (l : Array Bool) (i j : Nat) : Lb (l.setIfInBounds i true) j = (decide (j = i ∧ i < l.size) || Lb l j) := by
  simp only [Lb, Array.getD_eq_getD_getElem?]
  by_cases h : j = i
  · subst h
    by_cases hl : j < l.size
    · simp [hl]
    · simp [hl]
  · rw [Array.getElem?_setIfInBounds_ne (fun e => h e.symm)]
    simp [h]

/-- Between operations: those that are listed have been done. -/
structure Ph (P : Program) (T : Nat → K) (E : Nat → Option Ent) (F : Nat → Prop) (w0 : W0) (ops : Array Oper) (ms : List Nat) (k : St → Option β) (r : β) (l : Array Bool) (a : Act) (w : World) (nx0 lo hi : Nat) (s : St) (A : List Item) : Prop where
  lohi : lo ≤ hi
  hin : hi ≤ ops.size
  sz : l.size = ops.size
  good : Good P F w0 ops ms nx0 lo hi s A
  below : ∀ j, j < lo → Lb l j = true
  above : ∀ j, hi ≤ j → Lb l j = false
  clo : ∀ j, Lb l j = true → ∀ q, (ms.getD j 0).testBit q = true → Lb l q = true
  cont : Cont T E ops ms hi s A k r
  obn : ∀ n o, lk s.ob n = some o → n < nx0
  inv : ∃ g, Inv F w0 (fun n => n < nx0 ∨ ∃ it ∈ A, Lb l it.i = true ∧ it.b ≤ n ∧ n < it.e) { s with tm := tmI (Lb l) A ++ s.tm, ob := obI (Lb l) A ++ s.ob } a w g

theorem ph_start (hT : TOk P T) (hE : EOk P E) {ops : Array Oper} {ms : List Nat} (hd : dstsOk ops = true) (hm : MsOk ops ms) {k : St → Option β} {r : β} {l : Array Bool} {lo : Nat} (hlo : lo ≤ ops.size) (hsz : l.size = ops.size)
    (h : vdr std T E ops ms (List.range' lo (ops.size - lo)) lo s [] k = some r) (hs : SI F w0 s a w) (hb : ∀ j, j < lo → Lb l j = true) (ha : ∀ j, lo ≤ j → Lb l j = false) :
    ∃ nx0 hi s' A, Ph P T E F w0 ops ms k r l a w nx0 lo hi s' A := by
  obtain ⟨hi, s', A', q1, q2, q3, q4, q5, q6, q7⟩ := seg (F := F) (w0 := w0) hT hE hd hm (ops.size - lo) lo s [] (by omega) (Nat.le_refl _) h good_nil
  obtain ⟨g, I⟩ := hs
  have hno : ∀ it ∈ A', Lb l it.i = false := fun it hi => ha it.i (q3.rng it hi).1
  have e1 : tmI (Lb l) A' = [] := by
    rw [tmI_congr (m' := fun _ => false) hno]
    clear q3 hno q4
    induction A' with
    | nil => rfl
    | cons x r ih => simpa [tmI] using ih
  have e2 : obI (Lb l) A' = [] := by
    rw [obI_congr (m' := fun _ => false) hno]
    clear q3 hno q4 e1
    induction A' with
    | nil => rfl
    | cons x r ih => simpa [obI] using ih
  refine ⟨s.nx, hi, s', A', q1, q2, hsz, q3, hb, fun j hj => ha j (by omega), fun j hj q hq => ?_, q4, fun n o h => (I.nmO n o (by rw [← q7]; exact h)).1, g, ?_⟩
  · have hjl : j < lo := by
      rcases Nat.lt_or_ge j lo with h | h
      · exact h
      · rw [ha j h] at hj; cases hj
    have := hm.lt j q (by omega) hq
    exact hb q (by omega)
  · rw [e1, e2]
    exact inv_nms (inv_nb (s' := { s' with tm := [] ++ s'.tm, ob := [] ++ s'.ob }) I (by simpa using q6) (by simpa using q7) q5) (fun n hn => .inl hn)

theorem ph_step {ops : Array Oper} {ms : List Nat} {k : St → Option β} {r : β} {l : Array Bool} {nx0 lo hi i : Nat} {A : List Item} {Q : Exit → Act → World → Prop} {K : Act → World → Prop}
    (h : Ph P T E F w0 ops ms k r l a w nx0 lo hi s A) (h1 : lo ≤ i) (h2 : i < hi) (hl : Lb l i = false) (hr : ∀ q, (ms.getD i 0).testBit q = true → Lb l q = true)
    (hK : ∀ a' w', Ph P T E F w0 ops ms k r (l.setIfInBounds i true) a' w' nx0 lo hi s A → K a' w') : wpOp P ops Q i K a w := by
  obtain ⟨it, hit, hii⟩ := h.good.cov i h1 h2
  obtain ⟨o, ho, hdst, hnt, hG⟩ := h.good.does it hit
  obtain ⟨g, I⟩ := h.inv
  have hisz : i < ops.size := by have := h.hin; omega
  have hnotin : ∀ x ∈ A, Lb l x.i = true → x.i ≠ it.i := fun x hx hl' he => by rw [he, hii, hl] at hl'; cases hl'
  -- names of the item are free
  have hfree : ∀ n, it.b ≤ n → n < it.e → ¬ (n < nx0 ∨ ∃ x ∈ A, Lb l x.i = true ∧ x.b ≤ n ∧ n < x.e) := by
    rintro n hn1 hn2 (hn | ⟨x, hx, hxl, hx1, hx2⟩)
    · have := (h.good.rng it hit).2.2.1; omega
    · have := apart_nm h.good.pw x hx it hit (hnotin x hx hxl)
      omega
  -- the view is told by the machine
  have hV : Inv F w0 (fun n => n < nx0 ∨ ∃ x ∈ A, Lb l x.i = true ∧ x.b ≤ n ∧ n < x.e) (view s A (msk ms it.i) (hid ops ms lo it.i)) a w g := by
    refine inv_sub I (fun t v hl' => ?_) (fun n ob hl' => ?_) rfl
    · simp only [view, lk_append] at hl' ⊢
      split at hl'
      · rename_i v' hv'
        simp only [Option.some.injEq] at hl'
        subst hl'
        obtain ⟨x, hx, hxm, hxd, hxv⟩ := lk_tmI_some hv'
        have := lk_tmI_of (m := Lb l) h.good.pw hx (hr x.i (by rw [← hii]; exact hxm)) hxd
        rw [this, hxv]
      · rename_i hnone
        obtain ⟨hh, hs⟩ := lk_hideT hl'
        cases hc : lk (tmI (Lb l) A) t with
        | none => exact hs
        | some v' =>
          exfalso
          obtain ⟨x, hx, hxl, hxd, _⟩ := lk_tmI_some hc
          obtain ⟨ox, hox, hoxd, _⟩ := h.good.does x hx
          by_cases hmx : msk ms it.i x.i = true
          · have := lk_tmI_of (m := msk ms it.i) h.good.pw hx hmx hxd
            rw [this] at hnone
            cases hnone
          · have hback : (ms.getD x.i 0).testBit it.i = false := by
              cases hb : (ms.getD x.i 0).testBit it.i with
              | false => rfl
              | true => have := h.clo x.i hxl it.i hb; rw [hii, hl] at this; cases this
            have hmem : t ∈ hid ops ms lo it.i := by
              refine List.mem_filterMap.2 ⟨x.i, List.mem_range.2 (Array.getElem?_eq_some_iff.1 hox).1, ?_⟩
              have q1 := (h.good.rng x hx).1
              have q2 := hnotin x hx hxl
              rw [if_pos]
              · rw [hox]; simp only [Option.bind_some]; rw [← hoxd]; exact hxd
              · simp only [Bool.and_eq_true, decide_eq_true_eq, Bool.not_eq_true']
                exact ⟨⟨⟨q1, q2⟩, Bool.eq_false_iff.2 hmx⟩, hback⟩
            rw [List.contains_iff_mem.2 hmem] at hh
            cases hh
    · simp only [view, lk_append] at hl' ⊢
      split at hl'
      · rename_i o' ho'
        simp only [Option.some.injEq] at hl'
        subst hl'
        obtain ⟨x, hx, hxm, hxo⟩ := lk_obI_some ho'
        rw [lk_obI_of (m := Lb l) h.good.pw h.good.obs hx (hr x.i (by rw [← hii]; exact hxm)) hxo]
      · cases hc : lk (obI (Lb l) A) n with
        | none => exact hl'
        | some o' =>
          exfalso
          obtain ⟨x, hx, hxl, hxo⟩ := lk_obI_some hc
          have q1 := h.good.obs x hx n o' hxo
          have q3 := (h.good.rng x hx).2.2.1
          have q2 := h.obn n ob hl'
          omega
  rw [← hii]
  refine hG _ g a w Q K hfree hV fun u w' g' hM hVT hnm => hK _ _ ?_
  have I2 := inv_madeL I hfree hM
  have I3 := inv_put (d := o.dst) I2 hVT hnm (fun t ht => hnt t ht)
  have hset : ∀ j, Lb (l.setIfInBounds i true) j = (decide (j = i) || Lb l j) := by
    intro j
    rw [Lb_set]
    have : i < l.size := by rw [h.sz]; exact hisz
    simp [this]
  refine ⟨h.lohi, h.hin, by simp [h.sz], h.good, fun j hj => by rw [hset, h.below j hj, Bool.or_true], fun j hj => by rw [hset, h.above j hj]; simp; omega, fun j hj q hq => ?_, h.cont, h.obn, g', ?_⟩
  · rw [hset] at hj ⊢
    simp only [Bool.or_eq_true, decide_eq_true_eq] at hj ⊢
    rcases hj with rfl | hj
    · exact .inr (hr q hq)
    · exact .inr (h.clo j hj q hq)
  · refine inv_nms (inv_sub I3 (fun t v hl' => ?_) (fun n ob hl' => ?_) ?_) (fun n hn => ?_)
    · have htm : (o.dst = some t ∧ v = it.v) ∨ (o.dst ≠ some t ∧ lk (tmI (Lb l) A ++ s.tm) t = some v) := by
        by_cases hdt : o.dst = some t
        · left
          refine ⟨hdt, ?_⟩
          have := lk_tmI_of (m := Lb (l.setIfInBounds i true)) h.good.pw hit (by rw [hset]; simp [hii]) (hdst.trans hdt)
          simp only [lk_append, this, Option.some.injEq] at hl'
          exact hl'.symm
        · right
          refine ⟨hdt, ?_⟩
          simp only [lk_append] at hl' ⊢
          split at hl'
          · rename_i v' hv'
            simp only [Option.some.injEq] at hl'
            subst hl'
            obtain ⟨x, hx, hxm, hxd, hxv⟩ := lk_tmI_some hv'
            have hxi : x.i ≠ i := fun he => by
              have := apart_eq h.good.pw x hx it hit (by omega)
              subst this
              exact hdt (hdst.symm.trans hxd)
            rw [hset] at hxm
            rw [lk_tmI_of (m := Lb l) h.good.pw hx (by simpa [hxi] using hxm) hxd, hxv]
          · rename_i hnone
            cases hc : lk (tmI (Lb l) A) t with
            | none => exact hl'
            | some v' =>
              exfalso
              obtain ⟨x, hx, hxl, hxd, _⟩ := lk_tmI_some hc
              rw [lk_tmI_of (m := Lb (l.setIfInBounds i true)) h.good.pw hx (by rw [hset, hxl, Bool.or_true]) hxd] at hnone
              cases hnone
      rcases htm with ⟨h1, h2⟩ | ⟨h1, h2⟩
      · simp only [h1, St.put, lk_cons, if_true, h2]
      · cases hdd : o.dst with
        | none => exact h2
        | some d =>
          simp only [St.put, lk_cons]
          rw [if_neg (by rintro rfl; exact h1 hdd)]
          exact h2
    · have hgoal : lk (it.obs ++ (obI (Lb l) A ++ s.ob)) n = some ob := by
        simp only [lk_append] at hl' ⊢
        split at hl'
        · rename_i o' ho'
          simp only [Option.some.injEq] at hl'
          subst hl'
          obtain ⟨x, hx, hxm, hxo⟩ := lk_obI_some ho'
          by_cases hxi : x.i = i
          · have := apart_eq h.good.pw x hx it hit (by omega)
            subst this
            rw [hxo]
          · rw [hset] at hxm
            have hni : lk it.obs n = none := by
              cases hc : lk it.obs n with
              | none => rfl
              | some o2 =>
                exfalso
                have q1 := h.good.obs x hx n _ hxo
                have q2 := h.good.obs it hit n _ hc
                have := apart_nm h.good.pw x hx it hit (by omega)
                omega
            rw [hni, lk_obI_of (m := Lb l) h.good.pw h.good.obs hx (by simpa [hxi] using hxm) hxo]
        · rename_i hnone
          have hn1 : ∀ x ∈ A, (Lb (l.setIfInBounds i true)) x.i = true → lk x.obs n = none := fun x hx hxl => by
            cases hc : lk x.obs n with
            | none => rfl
            | some o2 =>
              exfalso
              rw [lk_obI_of (m := Lb (l.setIfInBounds i true)) h.good.pw h.good.obs hx hxl hc] at hnone
              cases hnone
          rw [hn1 it hit (by rw [hset]; simp [hii])]
          cases hc : lk (obI (Lb l) A) n with
          | none => exact hl'
          | some o' =>
            exfalso
            obtain ⟨x, hx, hxl, hxo⟩ := lk_obI_some hc
            rw [hn1 x hx (by rw [hset, hxl, Bool.or_true])] at hxo
            cases hxo
      cases o.dst <;> exact hgoal
    · cases o.dst <;> rfl
    · rcases hn with (hn | ⟨x, hx, hxl, hx1⟩) | hn
      · exact .inl hn
      · exact .inr ⟨x, hx, by rw [hset, hxl, Bool.or_true], hx1⟩
      · exact .inr ⟨it, hit, by rw [hset]; simp [hii], hn⟩

end
end Go.Vm

/- The value machine, part 40: DrOk, proved. -/
set_option linter.unusedVariables false
set_option linter.unusedSimpArgs false
namespace Go.Vm

section
variable {P : Program} {T : Nat → K} {E : Nat → Option Ent} {w w' : World} {w0 : W0} {F N : Nat → Prop} {g g' : G} {s : St} {a : Act} {base : Nat} {β : Type}

theorem isCut_spec {ms : List Nat} {n k : Nat} (h : isCut ms n k = true) : (∀ j, j < k → (ms.getD k 0).testBit j = true) ∧ ∀ j, k < j → j < n → (ms.getD j 0).testBit k = true := by
  simp only [isCut, Bool.and_eq_true, decide_eq_true_eq, List.all_eq_true, List.mem_range, Bool.or_eq_true] at h
  refine ⟨fun j hj => ?_, fun j h1 h2 => ?_⟩
  · rw [h.1, Nat.testBit_two_pow_sub_one]; simpa using hj
  · rcases h.2 j h2 with h3 | h3
    · omega
    · exact h3

theorem ph_run (hT : TOk P T) (hE : EOk P E) {ops : Array Oper} {ms : List Nat} (hd : dstsOk ops = true) (hm : MsOk ops ms) {k : St → Option β} {r : β} {Q : Exit → Act → World → Prop}
    (hQ : ∀ s' a' w', SI F w0 s' a' w' → k s' = some r → Q .normal a' w') : ∀ (fuel : Nat) (l : Array Bool) (a : Act) (w : World) (U : List Nat), U.length ≤ fuel → (∀ j, j < ops.size → Lb l j = false → j ∈ U) →
    (∃ nx0 lo hi s A, Ph P T E F w0 ops ms k r l a w nx0 lo hi s A) → wpAny P .any ops Q fuel l a w := by
  intro fuel
  -- where all have come
  have fin : ∀ (l : Array Bool) (a : Act) (w : World), Region.ready .any ops l = [] → (∃ nx0 lo hi s A, Ph P T E F w0 ops ms k r l a w nx0 lo hi s A) → Q .normal a w := by
    rintro l a w hr ⟨nx0, lo, hi, s, A, h⟩
    -- the least that has not come would be ready
    have hall : ∀ j, j < ops.size → Lb l j = true := by
      intro j
      induction j using Nat.strongRecOn with
      | _ j ih =>
        intro hj
        cases hc : Lb l j with
        | true => rfl
        | false =>
          exfalso
          have hmem : j ∈ Region.ready .any ops l := by
            refine mem_ready.2 ⟨?_, _, Array.getElem?_eq_getElem hj, fun e he hb => ?_⟩
            · have hsz : j < l.size := by rw [h.sz]; exact hj
              simp only [Lb, Array.getD_eq_getD_getElem?, Array.getElem?_eq_getElem hsz, Option.getD_some] at hc ⊢
              exact hc
            · have := hm.back j _ (Array.getElem?_eq_getElem hj) e he hb
              exact ih e.on this (by omega)
          rw [hr] at hmem
          cases hmem
    rcases h.cont with ⟨hhi, hk⟩ | ⟨hlt, _⟩
    · refine hQ (flush s A) a w ?_ hk
      obtain ⟨g, I⟩ := h.inv
      have hL : ∀ it ∈ A, Lb l it.i = (fun _ => true) it.i := fun it hi' => hall it.i (by have := (h.good.rng it hi').2.1; omega)
      rw [tmI_congr (m' := fun _ => true) hL, obI_congr (m' := fun _ => true) hL] at I
      refine ⟨g, inv_nms I fun n hn => ?_⟩
      simp only [Nm, flush]
      rcases hn with hn | ⟨it, hi', _, _, h2⟩
      · have := h.good.nx; omega
      · have := (h.good.rng it hi').2.2.2.2; omega
    · have := h.above hi (Nat.le_refl _)
      rw [hall hi hlt] at this
      cases this
  induction fuel with
  | zero =>
    intro l a w U hU hmem hp
    have hU0 : U = [] := List.length_eq_zero_iff.1 (by omega)
    subst hU0
    have hr : Region.ready .any ops l = [] := by
      refine List.eq_nil_iff_forall_not_mem.2 fun j hj => ?_
      obtain ⟨h1, o, h2, _⟩ := mem_ready.1 hj
      obtain ⟨nx0, lo, hi, s, A, h⟩ := hp
      have hlt := (Array.getElem?_eq_some_iff.1 h2).1
      have : Lb l j = false := by
        have hsz : j < l.size := by rw [h.sz]; exact hlt
        simp only [Lb, Array.getD_eq_getD_getElem?, Array.getElem?_eq_getElem hsz, Option.getD_some] at h1 ⊢
        exact h1
      exact absurd (hmem j hlt this) (by simp)
    exact ⟨hr, fin l a w hr hp⟩
  | succ fuel ih =>
    intro l a w U hU hmem hp
    refine ⟨fun hr => fin l a w hr hp, fun i hi' => ?_⟩
    obtain ⟨h1, o, ho, hbe⟩ := mem_ready.1 hi'
    obtain ⟨nx0, lo, hi, s, A, h⟩ := hp
    have hlt := (Array.getElem?_eq_some_iff.1 ho).1
    have hsz : i < l.size := by rw [h.sz]; exact hlt
    have hli : Lb l i = false := by
      simp only [Lb, Array.getD_eq_getD_getElem?, Array.getElem?_eq_getElem hsz, Option.getD_some] at h1 ⊢
      exact h1
    have hall : ∀ q, (ms.getD i 0).testBit q = true → Lb l q = true := fun q hq => by
      obtain ⟨e, he, hb, hq⟩ := (hm.bits i o ho q).1 hq
      have := hbe e he hb
      rcases hq with rfl | hq
      · exact this
      · exact h.clo e.on this q hq
    have hset : ∀ j, Lb (l.setIfInBounds i true) j = (decide (j = i) || Lb l j) := by
      intro j
      rw [Lb_set]
      simp [hsz]
    have hU2 : (U.erase i).length ≤ fuel := by
      rw [List.length_erase_of_mem (hmem i hlt hli)]
      omega
    have hmem2 : ∀ j, j < ops.size → Lb (l.setIfInBounds i true) j = false → j ∈ U.erase i := fun j hj hl => by
      rw [hset] at hl
      simp only [Bool.or_eq_false_iff, decide_eq_false_iff_not] at hl
      exact (List.mem_erase_of_ne hl.1).2 (hmem j hj hl.2)
    have hlo : lo ≤ i := by
      rcases Nat.lt_or_ge i lo with hx | hx
      · rw [h.below i hx] at hli; cases hli
      · exact hx
    rcases Nat.lt_trichotomy i hi with hx | hx | hx
    · exact ph_step h hlo hx hli hall fun a' w' hp' => ih _ a' w' (U.erase i) hU2 hmem2 ⟨_, _, _, _, _, hp'⟩
    · subst hx
      rcases h.cont with ⟨hhi, _⟩ | ⟨_, hc, hv⟩
      · omega
      · obtain ⟨c1, c2⟩ := isCut_spec hc
        obtain ⟨g, I⟩ := h.inv
        have hL : ∀ it ∈ A, Lb l it.i = (fun _ => true) it.i := fun it hi' => hall it.i (c1 it.i (h.good.rng it hi').2.1)
        rw [tmI_congr (m' := fun _ => true) hL, obI_congr (m' := fun _ => true) hL] at I
        have hs : SI F w0 (flush s A) a w := by
          refine ⟨g, inv_nms I fun n hn => ?_⟩
          simp only [Nm, flush]
          rcases hn with hn | ⟨it, hi', _, _, h2⟩
          · have := h.good.nx; omega
          · have := (h.good.rng it hi').2.2.2.2; omega
        refine wpOp_mono (fun a' w' hq => ?_) (vops1_sound hT hE (Q := Q) hv hs)
        obtain ⟨s', hs', hv'⟩ := hq
        rw [frcS_eq] at hv'
        have hb' : ∀ j, j < i + 1 → Lb (l.setIfInBounds i true) j = true := fun j hj => by
          rw [hset]
          by_cases hji : j = i
          · simp [hji]
          · rw [hall j (c1 j (by omega)), Bool.or_true]
        have ha' : ∀ j, i + 1 ≤ j → Lb (l.setIfInBounds i true) j = false := fun j hj => by
          rw [hset, h.above j (by omega)]
          simp
          omega
        exact ih _ a' w' (U.erase i) hU2 hmem2 (by
          obtain ⟨nx0', hi', s2, A2, hp'⟩ := ph_start (P := P) hT hE hd hm (l := l.setIfInBounds i true) (lo := i + 1) (by omega) (by simp [h.sz]) hv' hs' hb' ha'
          exact ⟨_, _, _, _, _, hp'⟩)
    · exfalso
      rcases h.cont with ⟨hhi, _⟩ | ⟨_, hc, _⟩
      · omega
      · have := hall hi ((isCut_spec hc).2 i hx hlt)
        rw [h.above hi (Nat.le_refl _)] at this
        cases this

theorem drOk (hT : TOk P T) (hE : EOk P E) : DrOk P T E := by
  intro F w0 ops ms β s k r Q a w hd hm h hs hk
  have hms := okMs_ok hm
  have hl : ∀ j, Lb (Array.replicate ops.size false) j = false := fun j => by
    simp only [Lb, Array.getD_eq_getD_getElem?, Array.getElem?_replicate]
    split <;> rfl
  refine ph_run hT hE hd hms hk ops.size (Array.replicate ops.size false) a w (List.range ops.size) (by simp) (fun j hj _ => List.mem_range.2 hj) ?_
  rw [List.range_eq_range'] at h
  obtain ⟨nx0, hi, s', A, hp⟩ := ph_start (P := P) (F := F) (w0 := w0) hT hE hd hms (l := Array.replicate ops.size false) (lo := 0) (by omega) (by simp) (by simpa using h) hs (fun j hj => by omega) (fun j _ => hl j)
  exact ⟨_, _, _, _, _, hp⟩

end
end Go.Vm

/- The value machine, part 41: regions that make but a bool. -/
set_option linter.unusedVariables false
set_option linter.unusedSimpArgs false
namespace Go.Vm

section
variable {P : Program} {T : Nat → K} {E : Nat → Option Ent} {w w' : World} {w0 : W0} {F N : Nat → Prop} {g g' : G} {s : St} {a : Act} {base : Nat} {β : Type}

theorem segJ (hT : TOk P T) (hE : EOk P E) {ops : Array Oper} {qs0 : List Ri} (hd : dstsOk ops = true) (hlt : ∀ (i k : Nat), i < ops.size → (List.getD (qs0.map (Ri.m)) i 0).testBit k = true → k < i)
    (hh : ∀ (i : Nat), i < ops.size → (qs0.map (·.h))[i]? = some (hid ops (qs0.map (·.m)) 0 i)) {nx0 : Nat} {k : St → List Item → Option β} {r : β} : ∀ (os : List Oper) (qs : List Ri) (i : Nat) (s : St) (A : List Item), i + os.length = ops.size → qs.length = os.length →
    (∀ j, os[j]? = ops[i + j]?) → (∀ j, qs[j]? = qs0[i + j]?) → vjL std T E ops (mkEnts i os qs) s A k = some r → Good P F w0 ops (qs0.map (·.m)) nx0 0 i s A →
    ∃ s' A', Good P F w0 ops (qs0.map (·.m)) nx0 0 ops.size s' A' ∧ k s' A' = some r ∧ s'.nf = s.nf ∧ nbL s'.tm = nbL s.tm ∧ s'.ob = s.ob := by
  intro os
  induction os with
  | nil =>
    intro qs i s A hn hq h1 h2 h hG
    cases qs with
    | nil =>
      have hi : i = ops.size := by simpa using hn
      subst hi
      exact ⟨s, A, hG, h, rfl, rfl, rfl⟩
    | cons _ _ => simp at hq
  | cons o os ih =>
    intro qs i s A hn hq h1 h2 h hG
    cases qs with
    | nil => simp at hq
    | cons q qs =>
      have h0 := h1 0
      simp only [List.getElem?_cons_zero, Nat.add_zero] at h0
      have q0 := h2 0
      simp only [List.getElem?_cons_zero, Nat.add_zero] at q0
      have hi : i < ops.size := (Array.getElem?_eq_some_iff.1 h0.symm).1
      have hm : (qs0.map (·.m)).getD i 0 = q.m := by rw [List.getD_eq_getElem?_getD, List.getElem?_map, ← q0]; rfl
      have hqh : q.h = hid ops (qs0.map (·.m)) 0 i := by
        have := hh i hi
        rw [List.getElem?_map, ← q0] at this
        simpa using this
      simp only [mkEnts, vjL] at h
      obtain ⟨s2, A2, it, q9, t2, t3, t4, t5, t6, t7, t8, t9⟩ := vst_step (F := F) (w0 := w0) hT hE h0.symm h
      have hmm : msk (qs0.map (·.m)) i = fun j => q.m.testBit j := by funext j; simp only [msk, hm]
      obtain ⟨v1, v2, v3⟩ := q9.view (fun j => q.m.testBit j) q.h
      have t8' : DoesG P F w0 ops o (view s2 A2 (msk (qs0.map (·.m)) i) (hid ops (qs0.map (·.m)) 0 i)) it := by
        rw [hmm, ← hqh]
        exact does_nb2 v1.symm v2.symm v3.symm t8
      obtain ⟨s', A', r1, r2, r3, r4, r5⟩ := ih qs (i + 1) { s2 with nx := it.e } (it :: A2) (by simp at hn; omega) (by simpa using hq) (fun j => (by have := h1 (j + 1); simp only [List.getElem?_cons_succ] at this; rw [this]; congr 1; omega)) (fun j => (by have := h2 (j + 1); simp only [List.getElem?_cons_succ] at this; rw [this]; congr 1; omega)) t9 (good_step hd hlt (good_eqv hG q9) (Nat.zero_le _) h0.symm t2 t3 (t4.of_nf q9.nt) (by rw [q9.nx]; exact t5) t6 t7 t8')
      exact ⟨s', A', r1, r2, r3.trans q9.nt, r4.trans q9.tm, r5.trans q9.ob⟩

theorem hid_dst {ops : Array Oper} {t : Nat} : t ∈ dstsOf ops ↔ ∃ (i : Nat) (o : Oper), ops[i]? = some o ∧ o.dst = some t := by
  simp only [dstsOf, List.mem_filterMap]
  constructor
  · rintro ⟨o, ho, h⟩
    obtain ⟨i, hi⟩ := List.getElem?_of_mem ho
    exact ⟨i, o, by simpa using hi, h⟩
  · rintro ⟨i, o, hi, h⟩
    exact ⟨o, List.mem_of_getElem? (i := i) (by simpa using hi), h⟩

/-- Behind the region: the bool, and what was there before. -/
theorem jn_fin {ops : Array Oper} {ms : List Nat} {s s' : St} {A : List Item} {t : Nat} {e b : Bool} (hG : Good P F w0 ops ms s.nx 0 ops.size s' A) (h1 : s'.nf = s.nf) (h2' : nbL s'.tm = nbL s.tm) (h3 : s'.ob = s.ob) (ht : t < s.nt)
    (hb : lk (tmI (fun _ => true) A) t = some (.sc e .bool b)) {g0 : G} {a0 : Act} {w1 : World} (I0 : Inv F w0 (Nm s) s a0 w1 g0) (hs : SI F w0 (flush s' A) a w) :
    SI F w0 { s with tm := (t, .sc true .bool b) :: hideT (dstsOf ops) s.tm } a w := by
  obtain ⟨g, I0'⟩ := hs
  have I := inv_nb (s' := flush { s' with tm := s.tm } A) I0' (by simp only [flush, nbL_append, h2']) rfl rfl
  have I1 : Inv F w0 (Nm (flush s' A)) { s with tm := hideT (dstsOf ops) s.tm } a w g := by
    refine inv_sub I (fun t' v h => ?_) (fun n o h => ?_) h1.symm
    · obtain ⟨hc, hl⟩ := lk_hideT h
      simp only [flush, lk_append]
      cases hx : lk (tmI (fun _ => true) A) t' with
      | none => exact hl
      | some v' =>
        exfalso
        obtain ⟨x, hx1, _, hxd, _⟩ := lk_tmI_some hx
        obtain ⟨o, ho, hod, _⟩ := hG.does x hx1
        have : t' ∈ dstsOf ops := hid_dst.2 ⟨x.i, o, ho, hod ▸ hxd⟩
        rw [List.contains_iff_mem.2 this] at hc
        cases hc
    · simp only [flush, lk_append, h3]
      cases hx : lk (obI (fun _ => true) A) n with
      | none => exact h
      | some o' =>
        exfalso
        obtain ⟨x, hx1, _, hxo⟩ := lk_obI_some hx
        have q1 := hG.obs x hx1 n o' hxo
        have q2 := (hG.rng x hx1).2.2.1
        have q3 := (I0.nmO n o h).1
        simp only [Nm] at q3
        omega
  refine ⟨g, ⟨I1.ob, I1.dis, I1.inF, I1.bxF, fun t' v h => ?_, fun t' v h => ?_, fun n o h => I0.nmO n o h, I1.nt, I1.df, I1.big, I1.kept⟩⟩
  · simp only [lk] at h
    split at h
    · rename_i he
      subst he
      simp only [Option.some.injEq] at h
      subst h
      obtain ⟨u, q1, q2⟩ := I.tm t' (.sc e .bool b) (by simp only [flush, lk_append, hb])
      have := VT_bool q2
      subst this
      exact ⟨_, q1, rfl⟩
    · exact I1.tm t' v h
  · simp only [lk] at h
    split at h
    · simp only [Option.some.injEq] at h; subst h; trivial
    · exact I0.nmT t' v (lk_hideT h).2

theorem mask_lt {ops : Array Oper} {qs : List Ri} (hl : qs.length = ops.size) (h : seqMs qs = true) : ∀ i k : Nat, i < ops.size → (List.getD (qs.map (Ri.m)) i 0).testBit k = true → k < i := by
  intro i k hi hk
  simp only [seqMs, List.all_eq_true, List.mem_range, decide_eq_true_eq] at h
  rw [h i (by omega), Nat.testBit_two_pow_sub_one] at hk
  simpa using hk

theorem ph0 {ops : Array Oper} {ms : List Nat} (hm : ∀ i k : Nat, i < ops.size → (ms.getD i 0).testBit k = true → k < i) {s s' : St} {A : List Item} (hG : Good P F w0 ops ms s.nx 0 ops.size s' A) (h1 : s'.nf = s.nf) (h2 : nbL s'.tm = nbL s.tm) (h3 : s'.ob = s.ob)
    {g : G} (I : Inv F w0 (Nm s) s a w g) {k : St → Option β} {r : β} (hk : k (flush s' A) = some r) :
    Ph P T E F w0 ops ms k r (Array.replicate ops.size false) a w s.nx 0 ops.size s' A := by
  have hl : ∀ j, Lb (Array.replicate ops.size false) j = false := fun j => by
    simp only [Lb, Array.getD_eq_getD_getElem?, Array.getElem?_replicate]
    split <;> rfl
  have hno : ∀ it ∈ A, Lb (Array.replicate ops.size false) it.i = false := fun it hi => hl it.i
  have e1 : tmI (Lb (Array.replicate ops.size false)) A = [] := by
    rw [tmI_congr (m' := fun _ => false) hno]
    clear hG hno hk
    induction A with
    | nil => rfl
    | cons x r ih => simpa [tmI] using ih
  have e2 : obI (Lb (Array.replicate ops.size false)) A = [] := by
    rw [obI_congr (m' := fun _ => false) hno]
    clear hG hno hk e1
    induction A with
    | nil => rfl
    | cons x r ih => simpa [obI] using ih
  refine ⟨Nat.zero_le _, Nat.le_refl _, by simp, hG, fun j hj => by omega, fun j _ => hl j, fun j hj q hq => (by rw [hl j] at hj; cases hj), .inl ⟨rfl, hk⟩, fun n o h => (I.nmO n o (by rw [← h3]; exact h)).1, g, ?_⟩
  rw [e1, e2]
  exact inv_nms (inv_nb (s' := { s' with tm := [] ++ s'.tm, ob := [] ++ s'.ob }) I (by simpa using h2) (by simpa using h3) h1) (fun n hn => .inl hn)

/-- One after another. -/
theorem ph_seq {ops : Array Oper} {ms : List Nat} (hms : ∀ i k : Nat, i < ops.size → ((ms.getD i 0).testBit k = true ↔ k < i)) {k : St → Option β} {r : β} {Q : Exit → Act → World → Prop} {nx0 : Nat} {s : St} {A : List Item}
    (hQ : ∀ a' w', SI F w0 (flush s A) a' w' → Q .normal a' w') : ∀ (m i : Nat) (l : Array Bool) (a : Act) (w : World), i + m = ops.size → Ph P T E F w0 ops ms k r l a w nx0 0 ops.size s A → (∀ j, j < i → Lb l j = true) → (∀ j, i ≤ j → Lb l j = false) →
    wpOps P ops Q (List.range' i m) a w := by
  intro m
  induction m with
  | zero =>
    intro i l a w hn h hb ha
    rw [List.range'_zero]
    simp only [wpOps]
    refine hQ a w ?_
    obtain ⟨g, I⟩ := h.inv
    have hL : ∀ it ∈ A, Lb l it.i = (fun _ => true) it.i := fun it hi' => hb it.i (by have := (h.good.rng it hi').2.1; omega)
    rw [tmI_congr (m' := fun _ => true) hL, obI_congr (m' := fun _ => true) hL] at I
    refine ⟨g, inv_nms I fun n hn => ?_⟩
    simp only [Nm, flush]
    rcases hn with hn | ⟨it, hi', _, _, h2⟩
    · have := h.good.nx; omega
    · have := (h.good.rng it hi').2.2.2.2; omega
  | succ m ih =>
    intro i l a w hn h hb ha
    rw [List.range'_succ, wpOps_cons]
    have hi : i < ops.size := by omega
    refine ph_step h (Nat.zero_le _) hi (ha i (Nat.le_refl _)) (fun q hq => hb q ((hms i q hi).1 hq)) fun a' w' hp => ?_
    have hset : ∀ j, Lb (l.setIfInBounds i true) j = (decide (j = i) || Lb l j) := by
      intro j
      rw [Lb_set]
      have : i < l.size := by rw [h.sz]; exact hi
      simp [this]
    refine ih (i + 1) _ a' w' (by omega) hp (fun j hj => ?_) (fun j hj => ?_)
    · rw [hset]
      by_cases hji : j = i
      · simp [hji]
      · rw [hb j (by omega), Bool.or_true]
    · rw [hset, ha j (by omega)]
      simp
      omega

open Classical in
theorem jnOk_all (hT : TOk P T) (hE : EOk P E) : JnOk P T E := by
  intro F w0 ops qs draw s t er b Q a w her hok ht h hs hQ
  simp only [jnOk, Bool.and_eq_true, decide_eq_true_eq, List.all_eq_true, List.mem_range] at hok
  obtain ⟨⟨⟨hd, hlen⟩, hm⟩, hh⟩ := hok
  have hlt : ∀ i k : Nat, i < ops.size → (List.getD (qs.map (Ri.m)) i 0).testBit k = true → k < i := by
    cases draw with
    | true => exact (okMs_ok (by simpa using hm)).lt
    | false => exact mask_lt hlen (by simpa using hm)
  obtain ⟨g, I⟩ := hs
  obtain ⟨s', A, hG, hk, h1, h2, h3⟩ := segJ (F := F) (w0 := w0) (nx0 := s.nx) hT hE hd hlt hh ops.toList qs 0 s [] (by simp) (by simpa using hlen) (fun j => by simp) (fun j => by simp) h good_nil
  obtain ⟨e, hbl⟩ : ∃ e, lk (tmI (fun _ => true) A) t = some (.sc e .bool b) := by
    split at hk
    · rename_i e' b' hl
      simp only [Option.some.injEq] at hk
      subst hk
      exact ⟨_, hl⟩
    · rw [her] at hk; cases hk
  have fin : ∀ a' w', SI F w0 (flush s' A) a' w' → Q .normal a' w' := fun a' w' hs' => hQ a' w' (jn_fin hG h1 h2 h3 ht.1 hbl I hs')
  let k : St → Option Unit := fun x => if x = flush s' A then some () else none
  have hp := ph0 (T := T) (E := E) hlt hG h1 h2 h3 I (k := k) (r := ()) (by simp [k])
  cases draw with
  | true =>
    simp only [if_true]
    refine ph_run hT hE hd (okMs_ok (by simpa using hm)) (k := k) (r := ()) (fun x a' w' hs' hx => ?_) ops.size (Array.replicate ops.size false) a w (List.range ops.size) (by simp) (fun j hj _ => List.mem_range.2 hj) ⟨_, _, _, _, _, hp⟩
    have : x = flush s' A := by
      by_cases hc : x = flush s' A
      · exact hc
      · simp [k, hc] at hx
    subst this
    exact fin a' w' hs'
  | false =>
    simp only [Bool.false_eq_true, if_false]
    rw [List.range_eq_range']
    refine ph_seq (k := k) (r := ()) (fun i j hi => ?_) fin ops.size 0 (Array.replicate ops.size false) a w (by omega) hp (fun j hj => by omega) (fun j _ => ?_)
    · simp only [Bool.false_eq_true, if_false, seqMs, List.all_eq_true, List.mem_range, decide_eq_true_eq] at hm
      rw [hm i (by omega), Nat.testBit_two_pow_sub_one]
      simp
    · simp only [Lb, Array.getD_eq_getD_getElem?, Array.getElem?_replicate]
      split <;> rfl

end
end Go.Vm
