/- The value machine, joined: what is proved here holds for every loaded program; no condition but those that each theorem states. -/
import Derived.Test.YtjnfbibaldbjhaaVmC
/- The value machine, part 27p: what lies in a row that is told no more becomes rows of its own. -/
set_option linter.unusedVariables false
set_option linter.unusedSimpArgs false
namespace Go.Vm

/-- A path of fields alone, by their numbers. -/
def pf : List Stp → Option (List Nat)
  | [] => some []
  | .fld f _ :: r => (pf r).map fun l => f :: l
  | .ix _ _ _ :: _ => none

section
variable {P : Program} {T : Nat → K} {w w' : World} {w0 : W0} {F N : Nat → Prop} {g g' : G} {s : St} {a : Act} {base : Nat}

/-- What is owned, taken apart into its slices. -/
theorem O_leaves : ∀ {k : K} {x : dn k} {cs : List Value} {f : Nat → Prop}, O w k x cs f → ∃ ff : List Nat → Nat → Prop,
    (∀ path p e' k' (y : dn (.sl e' k')), pf path = some p → navD k path x = some ⟨.sl e' k', y⟩ → ∃ v, cs[pOff path]? = some v ∧ OL w e' k'.sz (O w k') y v (ff p)) ∧
    (∀ p b, ff p b → f b) ∧ (∀ p q b, p ≠ q → ff p b → ff q b → False) := by
  intro k
  have none : ∀ {k : K} {x : dn k} {cs : List Value} {f : Nat → Prop}, (∀ path p e' k' (y : dn (.sl e' k')), pf path = some p → navD k path x = some ⟨.sl e' k', y⟩ → False) →
      ∃ ff : List Nat → Nat → Prop, (∀ path p e' k' (y : dn (.sl e' k')), pf path = some p → navD k path x = some ⟨.sl e' k', y⟩ → ∃ v, cs[pOff path]? = some v ∧ OL w e' k'.sz (O w k') y v (ff p)) ∧
        (∀ p b, ff p b → f b) ∧ (∀ p q b, p ≠ q → ff p b → ff q b → False) := fun hno =>
    ⟨fun _ _ => False, fun path p e' k' y h1 h2 => (hno path p e' k' y h1 h2).elim, fun _ _ h => h.elim, fun _ _ _ _ h => h.elim⟩
  induction k with
  | sl e k ih =>
    intro x cs f h
    obtain ⟨v, rfl, h⟩ := h
    refine ⟨fun p b => p = [] ∧ f b, fun path p e' k' y hp hn => ?_, fun p b hb => hb.2, fun p q b hne h1 h2 => hne (h1.1.trans h2.1.symm)⟩
    cases path with
    | nil =>
      simp only [pf, Option.some.injEq] at hp
      subst hp
      simp only [navD, Option.some.injEq, Sigma.mk.injEq] at hn
      obtain ⟨hk, hy⟩ := hn
      injection hk with he hk
      subst he hk
      have hy := eq_of_heq hy
      subst hy
      refine ⟨v, by simp [pOff], ?_⟩
      have : (fun b => ([] : List Nat) = [] ∧ f b) = f := by funext b; simp
      show OL w e k.sz (O w k) x v (fun b => ([] : List Nat) = [] ∧ f b)
      rw [this]
      exact h
    | cons st r =>
      cases st with
      | fld i o => simp [navD, fldO] at hn
      | ix i st m => simp [pf] at hp
  | pr ka kb iha ihb =>
    intro x cs f h
    obtain ⟨c1, c2, f1, f2, rfl, h1, h2, h3, h4⟩ := h
    obtain ⟨fa, a1, a2, a3⟩ := iha h1
    obtain ⟨fb, b1, b2, b3⟩ := ihb h2
    have hl1 := O_len h1
    refine ⟨fun p b => match p with | [] => False | 0 :: r => fa r b | (n + 1) :: r => fb (n :: r) b, fun path p e' k' y hp hn => ?_, fun p b hb => ?_, fun p q b hne hp hq => ?_⟩
    · cases path with
      | nil => simp only [navD, Option.some.injEq, Sigma.mk.injEq] at hn; exact absurd hn.1 (by simp)
      | cons st r =>
        cases st with
        | ix i st m => simp [pf] at hp
        | fld i o =>
          simp only [pf, Option.map_eq_some_iff] at hp
          obtain ⟨l, hl, rfl⟩ := hp
          cases i with
          | zero =>
            simp only [navD, fldO, fldD] at hn
            split at hn
            · rename_i ho
              simp only [Option.bind_some] at hn
              obtain ⟨v, q1, q2⟩ := a1 r l e' k' y hl hn
              refine ⟨v, ?_, q2⟩
              simp only [pOff, ← ho, Nat.zero_add]
              rw [List.getElem?_append_left (List.getElem?_eq_some_iff.1 q1).1]
              exact q1
            · cases hn
          | succ i =>
            simp only [navD, fldO, fldD] at hn
            split at hn
            · rename_i q hq
              simp only [Option.map_eq_some_iff] at hq
              obtain ⟨q', hq', rfl⟩ := hq
              split at hn
              · rename_i ho
                dsimp only at ho
                have hn' : navD kb (.fld i q'.1 :: r) x.2 = some ⟨.sl e' k', y⟩ := by
                  simp only [navD, hq', if_true]
                  exact hn
                obtain ⟨v, q1, q2⟩ := b1 (.fld i q'.1 :: r) (i :: l) e' k' y (by simp [pf, hl]) hn'
                refine ⟨v, ?_, q2⟩
                simp only [pOff] at q1 ⊢
                rw [List.getElem?_append_right (by omega), ← q1]
                congr 1
                omega
              · cases hn
            · cases hn
    · match p, hb with
      | 0 :: r, hb => exact (h4 b).2 (.inl (a2 r b hb))
      | (n + 1) :: r, hb => exact (h4 b).2 (.inr (b2 (n :: r) b hb))
    · match p, q, hp, hq, hne with
      | 0 :: r, 0 :: r', hp, hq, hne => exact a3 r r' b (fun e => hne (by rw [e])) hp hq
      | 0 :: r, (n + 1) :: r', hp, hq, hne => exact h3 b (a2 r b hp) (b2 (n :: r') b hq)
      | (n + 1) :: r, 0 :: r', hp, hq, hne => exact h3 b (a2 r' b hq) (b2 (n :: r) b hp)
      | (n + 1) :: r, (m + 1) :: r', hp, hq, hne =>
        refine b3 (n :: r) (m :: r') b (fun e => hne ?_) hp hq
        injection e with e1 e2
        rw [e1, e2]
  | arr n k ih =>
    intro x cs f h
    refine none fun path p e' k' y hp hn => ?_
    cases path with
    | nil => simp only [navD, Option.some.injEq, Sigma.mk.injEq] at hn; exact absurd hn.1 (by simp)
    | cons st r => cases st with
      | fld i o => simp [navD, fldO] at hn
      | ix i st m => simp [pf] at hp
  | _ =>
    intro x cs f h
    refine none fun path p e' k' y hp hn => ?_
    cases path with
    | nil => simp only [navD, Option.some.injEq, Sigma.mk.injEq] at hn; exact absurd hn.1 (by simp)
    | cons st r => cases st with
      | fld i o => simp [navD, fldO] at hn
      | ix i st m => simp [pf] at hp

/-- The footprint of what lies in the elements of a row, by the element's number and the path. -/
structure Lf (w : World) (F : Nat → Prop) (g : G) (n e : Nat) (k : K) (xs : List (dn k)) (L : Nat → List Nat → Nat → Prop) : Prop where
  ol : ∀ (b m c i : Nat) path p e' k' (y : dn (.sl e' k')) v, g.hd n = .slice (some ⟨b, 0, none⟩) m c → i < m → pf path = some p → navD k path (xs.getD i (dz k)) = some ⟨.sl e' k', y⟩ →
    w.cell? ⟨b, i * k.sz + pOff path, none⟩ = some v → OL w e' k'.sz (O w k') y v (L i p)
  fp : ∀ i p b, L i p b → g.fp n b
  dis : ∀ i j p q b, p ≠ q → L i p b → L j q b → False

theorem lf_of {n e : Nat} {k : K} {xs : List (dn k)} (h : OR w F g n (.ls e k true xs)) : ∃ L, Lf w F g n e k xs L := by
  obtain ⟨h1, h2⟩ := h
  rcases h1 with ⟨rfl, ⟨A, hA⟩, hf⟩ | ⟨b', c', cur, f, ds, hv, hg, h3, h4, h5, h6, h7, h8, h9⟩
  · refine ⟨fun _ _ _ => False, fun b m c i path p e' k' y v hh hi _ _ _ => ?_, fun _ _ _ h => h.elim, fun _ _ _ _ _ _ h => h.elim⟩
    rw [hh] at hA
    injection hA with _ hm _
    omega
  · have hch : ∀ j, ∃ ff : List Nat → Nat → Prop, ∀ hj : j < xs.length, (∀ path p e' k' (y : dn (.sl e' k')), pf path = some p → navD k path xs[j] = some ⟨.sl e' k', y⟩ → ∃ v, (ds j)[pOff path]? = some v ∧ OL w e' k'.sz (O w k') y v (ff p)) ∧
        (∀ p b, ff p b → f j b) ∧ (∀ p q b, p ≠ q → ff p b → ff q b → False) := by
      intro j
      by_cases hj : j < xs.length
      · obtain ⟨ff, q⟩ := O_leaves (show O w k xs[j] (ds j) (f j) by simpa [LR] using (h6 j hj).1)
        exact ⟨ff, fun _ => q⟩
      · exact ⟨fun _ _ => False, fun h => absurd h hj⟩
    let L : Nat → List Nat → Nat → Prop := fun j p b => j < xs.length ∧ Classical.choose (hch j) p b
    have hL : ∀ j, _ := fun j => Classical.choose_spec (hch j)
    refine ⟨L, fun b m c i path p e' k' y v hh hi hp hn hc => ?_, fun i p b hb => (h9 b).2 (.inr ⟨i, hb.1, (hL i hb.1).2.1 p b hb.2⟩), fun i j p q b hne hi hj => ?_⟩
    · rw [hh] at hv
      injection hv with hb hm _
      simp only [Option.some.injEq, Addr.mk.injEq] at hb
      obtain ⟨rfl, _⟩ := hb
      have hil : i < xs.length := by omega
      rw [getD_lt _ _ _ hil] at hn
      obtain ⟨v', q1, q2⟩ := (hL i hil).1 path p e' k' y hp hn
      have hlt := (List.getElem?_eq_some_iff.1 q1).1
      have hlen := (h6 i hil).2.1
      have hcell : w.cell? ⟨b, i * k.sz + pOff path, none⟩ = some v' := by
        rw [cell_of_row w b _ cur e (0, 0) hg, (h6 i hil).2.2 _ (by omega)]
        exact q1
      rw [hcell] at hc
      simp only [Option.some.injEq] at hc
      subst hc
      have : L i p = Classical.choose (hch i) p := by funext b; simp [L, hil]
      rw [this]
      exact q2
    · by_cases hij : i = j
      · subst hij
        exact (hL i hi.1).2.2 p q b hne hi.2 hj.2
      · exact h7 i j hi.1 hj.1 hij b ((hL i hi.1).2.1 p b hi.2) ((hL j hj.1).2.1 q b hj.2)

end

/-- What lies in rows is told as rows of its own: the value anew, the next name, the new rows, the places that they were in. -/
def pri (lo : Nat → Option Obj) : TSh → TV → Nat → TV × Nat × List (Nat × Obj) × List (Nat × List Nat)
  | .al c, .inn n i st path e k, nx =>
    match lo n with
    | some (.ls e0 k0 true xs) =>
      if st = k0.sz then
        match pf path, navD k0 path (xs.getD i (dz k0)) with
        | some p, some ⟨.sl e1 k1, y⟩ => (.al nx, nx + 1, [(nx, .ls e1 k1 true y)], [(n, p)])
        | _, _ => (.inn n i st path e k, nx, [], [])
      else (.inn n i st path e k, nx, [], [])
    | _ => (.inn n i st path e k, nx, [], [])
  | .pr a b, v, nx =>
    match split v with
    | some p => (.pr (pri lo a p.1 nx).1 (pri lo b p.2 (pri lo a p.1 nx).2.1).1, (pri lo b p.2 (pri lo a p.1 nx).2.1).2.1, (pri lo b p.2 (pri lo a p.1 nx).2.1).2.2.1 ++ (pri lo a p.1 nx).2.2.1,
        (pri lo a p.1 nx).2.2.2 ++ (pri lo b p.2 (pri lo a p.1 nx).2.1).2.2.2)
    | none => (v, nx, [], [])
  | _, v, nx => (v, nx, [], [])

def delL : List (Nat × List Nat) → List (Nat × Obj) → List (Nat × Obj)
  | [], l => l
  | (n, _) :: r, l => delL r (del n l)

def priTm : List (Nat × TSh) → St → St
  | [], s => s
  | (n, t) :: r, s =>
    priTm r (match lk s.tm n with
      | some v =>
        match (pri (lk s.ob) t v s.nx).2.2.2 with
        | [] => s
        | u :: us => if (u :: us).Nodup then { s with tm := (n, (pri (lk s.ob) t v s.nx).1) :: del n s.tm, nx := (pri (lk s.ob) t v s.nx).2.1, ob := (pri (lk s.ob) t v s.nx).2.2.1 ++ delL (u :: us) s.ob } else s
      | none => s)

section
variable {P : Program} {T : Nat → K} {w w' : World} {w0 : W0} {F N : Nat → Prop} {g g' : G} {s : St} {a : Act} {base : Nat}

theorem lk_delL : ∀ {us : List (Nat × List Nat)} {l : List (Nat × Obj)} {m : Nat} {o : Obj}, lk (delL us l) m = some o → lk l m = some o ∧ ∀ p, (m, p) ∉ us := by
  intro us
  induction us with
  | nil => intro l m o h; exact ⟨h, fun p h => by cases h⟩
  | cons u r ih =>
    intro l m o h
    obtain ⟨n, p⟩ := u
    obtain ⟨h1, h2⟩ := ih h
    rw [lk_del] at h1
    split at h1
    · cases h1
    · rename_i hne
      refine ⟨h1, fun q hq => ?_⟩
      rcases List.mem_cons.1 hq with hq | hq
      · injection hq with hq _; exact hne hq
      · exact h2 q hq

theorem pri_CT {ob : List (Nat × Obj)} {g0 : G} {n0 : Nat} {L : Nat → Nat → List Nat → Nat → Prop} (hL : ∀ n e k xs, lk ob n = some (.ls e k true xs) → n < n0 ∧ Lf w F g0 n e k xs (L n) ∧ ∀ b, g0.fp n b → ¬ g0.Bx b) :
    ∀ {t : TSh} {v : TV} {nx : Nat} {cs : List Value} {g : G}, n0 ≤ nx → (∀ n, n < n0 → g.hd n = g0.hd n ∧ g.fp n = g0.fp n) → g.Bx = g0.Bx → CT w F g v cs → v.nms (fun n => n < nx) →
    ∃ g' : G, (∀ n, n < nx → g'.hd n = g.hd n ∧ g'.fp n = g.fp n) ∧ g'.Bx = g.Bx ∧ CT w F g' (pri (lk ob) t v nx).1 cs ∧ (pri (lk ob) t v nx).1.nms (fun n => n < (pri (lk ob) t v nx).2.1) ∧ (pri (lk ob) t v nx).2.1 = nx + (pri (lk ob) t v nx).2.2.2.length ∧
      (∀ u ∈ (pri (lk ob) t v nx).2.2.2, ∃ e k xs, lk ob u.1 = some (.ls e k true xs)) ∧
      ∀ n o, lk (pri (lk ob) t v nx).2.2.1 n = some o → nx ≤ n ∧ OR w F g' n o ∧ o.nms (fun _ => False) ∧ ∃ u i, (pri (lk ob) t v nx).2.2.2[n - nx]? = some u ∧ g'.fp n = L u.1 i u.2 := by
  intro t
  have triv : ∀ {v : TV} {nx : Nat} {cs : List Value} {g : G}, CT w F g v cs → v.nms (fun n => n < nx) → ∃ g' : G, (∀ n, n < nx → g'.hd n = g.hd n ∧ g'.fp n = g.fp n) ∧ g'.Bx = g.Bx ∧ CT w F g' v cs ∧ v.nms (fun n => n < nx) ∧ nx = nx + ([] : List (Nat × List Nat)).length ∧
      (∀ u ∈ ([] : List (Nat × List Nat)), ∃ e k xs, lk ob u.1 = some (.ls e k true xs)) ∧
      ∀ n o, lk ([] : List (Nat × Obj)) n = some o → nx ≤ n ∧ OR w F g' n o ∧ o.nms (fun _ => False) ∧ ∃ u i, ([] : List (Nat × List Nat))[n - nx]? = some u ∧ g'.fp n = L u.1 i u.2 := by
    intro v nx cs g h hn
    exact ⟨g, fun _ _ => ⟨rfl, rfl⟩, rfl, h, hn, rfl, fun u hu => (by cases hu), fun n o h => by simp [lk] at h⟩
  induction t with
  | al c =>
    intro v nx cs g h0 hold hB h hn
    cases v with
    | inn n i st path e k =>
      simp only [pri]
      split
      · rename_i e0 k0 xs hlo
        split
        · rename_i hst
          split
          · rename_i p e1 k1 y hpf hnav
            obtain ⟨hn0, hLf, hbx⟩ := hL n e0 k0 xs hlo
            obtain ⟨b, m, c', v, q1, rfl, ⟨A, m', c2, rfl⟩, q3, ⟨q4, q5⟩, q6⟩ := h
            have q1' : g0.hd n = .slice (some ⟨b, 0, none⟩) m c' := by rw [← (hold n hn0).1]; exact q1
            rw [hst] at q6
            have hol := hLf.ol b m c' i path p e1 k1 y _ q1' q4 hpf hnav q6
            refine ⟨g.row nx (.slice A m' c2) (L n i p), fun n hn => ?_, rfl, ⟨by simp [G.row], A, m', c2, by simp [G.row]⟩, Nat.lt_succ_self _, rfl, fun u hu => ?_, fun q o hl => ?_⟩
            · simp only [G.row]; rw [if_neg (by omega), if_neg (by omega)]; exact ⟨rfl, rfl⟩
            · simp only [List.mem_cons, List.not_mem_nil, or_false] at hu; subst hu; exact ⟨_, _, _, hlo⟩
            · simp only [lk] at hl
              split at hl
              · rename_i hnn
                subst hnn
                simp only [Option.some.injEq] at hl
                subst hl
                refine ⟨Nat.le_refl _, ⟨?_, fun b' hb' => ?_⟩, trivial, (n, p), i, by simp, by simp [G.row]⟩
                · simp only [G.row, if_true]
                  refine OL_imp (fun _ _ => rfl) (fun x _ cs f _ hr => ?_) hol
                  simpa [LR] using hr
                · simp only [G.row, if_true] at hb' ⊢
                  rw [hB]
                  exact hbx b' (hLf.fp i p b' hb')
              · cases hl
          · exact triv h hn
        · exact triv h hn
      · exact triv h hn
    | _ => exact triv h hn
  | pr ta tb iha ihb =>
    intro v nx cs g h0 hold hB h hn
    simp only [pri]
    split
    · rename_i p hs
      obtain ⟨va, vb⟩ := p
      dsimp only
      obtain ⟨c1, c2, rfl, h1, h2⟩ := split_CT h hs
      have hnp : va.nms (fun n => n < nx) ∧ vb.nms (fun n => n < nx) := by
        cases v with
        | pr x y => simp only [split, Option.some.injEq, Prod.mk.injEq] at hs; obtain ⟨rfl, rfl⟩ := hs; exact hn
        | sc e k x =>
          cases k with
          | pr ka kb => simp only [split, Option.some.injEq, Prod.mk.injEq] at hs; obtain ⟨rfl, rfl⟩ := hs; exact ⟨trivial, trivial⟩
          | _ => simp [split] at hs
        | _ => simp [split] at hs
      obtain ⟨g1, p1, p2, p3, p4, p5, p6, p7⟩ := iha (nx := nx) h0 hold hB h1 hnp.1
      have h2' : CT w F g1 vb c2 := CT_turn (turn_same (N := fun n => n < nx) p2 (fun n hn => (p1 n hn).1)) hnp.2 vb.safe_none h2
      obtain ⟨g2, q1, q2, q3, q4, q5, q6, q7⟩ := ihb (nx := (pri (lk ob) ta va nx).2.1) (by omega) (fun n hn => ⟨(p1 n (by omega)).1.trans (hold n hn).1, (p1 n (by omega)).2.trans (hold n hn).2⟩) (p2.trans hB) h2' (TV.nms_mono (fun n hn => by omega) hnp.2)
      have t2 := turn_same (w := w) (F := F) (N := fun n => n < (pri (lk ob) ta va nx).2.1) q2 (fun n hn => (q1 n hn).1)
      refine ⟨g2, fun n hn => ?_, q2.trans p2, ⟨c1, c2, rfl, CT_turn t2 p4 (pri (lk ob) ta va nx).1.safe_none p3, q3⟩, ⟨TV.nms_mono (fun n hn => by omega) p4, q4⟩, by rw [q5, p5, List.length_append]; omega, fun u hu => ?_, fun n o hl => ?_⟩
      · obtain ⟨r1, r2⟩ := p1 n hn
        obtain ⟨r3, r4⟩ := q1 n (by omega)
        exact ⟨r3.trans r1, r4.trans r2⟩
      · rcases List.mem_append.1 hu with hu | hu
        · exact p6 u hu
        · exact q6 u hu
      · rw [lk_append] at hl
        split at hl
        · rename_i o' ho
          simp only [Option.some.injEq] at hl
          subst hl
          obtain ⟨r1, r2, r3, u, i, r4, r5⟩ := q7 n _ ho
          refine ⟨by omega, r2, r3, u, i, ?_, r5⟩
          rw [List.getElem?_append_right (by omega), ← r4]
          congr 1
          omega
        · obtain ⟨r1, r2, r3, u, i, r4, r5⟩ := p7 n o hl
          have hlt := (List.getElem?_eq_some_iff.1 r4).1
          have hn' : n < (pri (lk ob) ta va nx).2.1 := by omega
          obtain ⟨r6, r7⟩ := q1 n hn'
          refine ⟨r1, ?_, r3, u, i, ?_, by rw [r7]; exact r5⟩
          · exact OR_turn t2 hn' (Obj.nms_mono (fun _ h => h.elim) r3) o.safe_none (fun b _ h => h) (fun b => by rw [r7]) r2
          · rw [List.getElem?_append_left hlt]; exact r4
    · exact triv h hn
  | _ => intro v nx cs g h0 hold hB h hn; exact triv h hn

theorem pri_agg {lo : Nat → Option Obj} {t : TSh} {v : TV} {nx : Nat} : (pri lo t v nx).1 = v ∨ ((pri lo t v nx).1.agg = v.agg ∧ live (pri lo t v nx).1 = true ∧ live v = true) := by
  cases t with
  | al c =>
    cases v with
    | inn n i st path e k =>
      simp only [pri]
      split
      · split
        · split
          · exact .inr ⟨rfl, rfl, rfl⟩
          · exact .inl rfl
        · exact .inl rfl
      · exact .inl rfl
    | _ => exact .inl rfl
  | pr ta tb =>
    simp only [pri]
    split
    · rename_i p hs
      obtain ⟨h1, h2⟩ := split_agg hs
      exact .inr ⟨h1.symm, rfl, h2⟩
    · exact .inl rfl
  | _ => exact .inl rfl

theorem pri_inv {t : TSh} {v : TV} {n : Nat} (I : Inv F w0 (Nm s) s a w g) (hv : lk s.tm n = some v) (hnd : (pri (lk s.ob) t v s.nx).2.2.2.Nodup) :
    ∃ g', Inv F w0 (fun m => m < (pri (lk s.ob) t v s.nx).2.1) { s with tm := (n, (pri (lk s.ob) t v s.nx).1) :: del n s.tm, nx := (pri (lk s.ob) t v s.nx).2.1, ob := (pri (lk s.ob) t v s.nx).2.2.1 ++ delL (pri (lk s.ob) t v s.nx).2.2.2 s.ob } a w g' := by
  obtain ⟨u, hu, hV⟩ := I.tm n v hv
  have hn := I.nmT n v hv
  have hch : ∀ n, ∃ L : Nat → List Nat → Nat → Prop, ∀ e k xs, lk s.ob n = some (.ls e k true xs) → Lf w F g n e k xs L := by
    intro n
    by_cases h : ∃ e k xs, lk s.ob n = some (.ls e k true xs)
    · obtain ⟨e, k, xs, h⟩ := h
      obtain ⟨L, hL⟩ := lf_of (I.ob n _ h)
      refine ⟨L, fun e' k' xs' h' => ?_⟩
      rw [h] at h'
      simp only [Option.some.injEq, Obj.ls.injEq, true_and] at h'
      obtain ⟨rfl, rfl, h'⟩ := h'
      have h' := eq_of_heq h'
      subst h'
      exact hL
    · exact ⟨fun _ _ _ => False, fun e k xs h' => absurd ⟨e, k, xs, h'⟩ h⟩
  have hL : ∀ n e k xs, lk s.ob n = some (.ls e k true xs) → n < s.nx ∧ Lf w F g n e k xs (Classical.choose (hch n)) ∧ ∀ b, g.fp n b → ¬ g.Bx b := fun n e k xs h =>
    ⟨(I.nmO n _ h).1, Classical.choose_spec (hch n) e k xs h, (I.ob n _ h).2⟩
  generalize hLL : (fun n => Classical.choose (hch n)) = L at hL
  have hL : ∀ n e k xs, lk s.ob n = some (.ls e k true xs) → n < s.nx ∧ Lf w F g n e k xs (L n) ∧ ∀ b, g.fp n b → ¬ g.Bx b := by
    subst hLL; exact fun n e k xs h =>
    ⟨(I.nmO n _ h).1, Classical.choose_spec (hch n) e k xs h, (I.ob n _ h).2⟩
  have key : ∃ g' : G, (∀ m, m < s.nx → g'.hd m = g.hd m ∧ g'.fp m = g.fp m) ∧ g'.Bx = g.Bx ∧ VT w F g' (pri (lk s.ob) t v s.nx).1 u ∧ (pri (lk s.ob) t v s.nx).1.nms (fun m => m < (pri (lk s.ob) t v s.nx).2.1) ∧ (pri (lk s.ob) t v s.nx).2.1 = s.nx + (pri (lk s.ob) t v s.nx).2.2.2.length ∧
      (∀ u ∈ (pri (lk s.ob) t v s.nx).2.2.2, ∃ e k xs, lk s.ob u.1 = some (.ls e k true xs)) ∧
      ∀ m o, lk (pri (lk s.ob) t v s.nx).2.2.1 m = some o → s.nx ≤ m ∧ OR w F g' m o ∧ o.nms (fun _ => False) ∧ ∃ u i, (pri (lk s.ob) t v s.nx).2.2.2[m - s.nx]? = some u ∧ g'.fp m = L u.1 i u.2 := by
    by_cases hl : live v = true
    · cases ha : v.agg with
      | true =>
        obtain ⟨cs, rfl, hc⟩ := VT_agg hV ha
        obtain ⟨g', p1, p2, p3, p4⟩ := pri_CT hL (t := t) (Nat.le_refl _) (fun _ _ => ⟨rfl, rfl⟩) rfl hc hn
        refine ⟨g', p1, p2, ?_, p4⟩
        have hag : (pri (lk s.ob) t v s.nx).1.agg = true := by
          rcases pri_agg (lo := lk s.ob) (t := t) (v := v) (nx := s.nx) with h | h
          · rw [h]; exact ha
          · rw [h.1]; exact ha
        have := VT_of_CT p3 (fun hf => by rw [hag] at hf; cases hf)
        rw [hag] at this
        simpa [valOf] using this
      | false =>
        have hc := VT_leaf hV ha hl
        obtain ⟨g', p1, p2, p3, p4⟩ := pri_CT hL (t := t) (Nat.le_refl _) (fun _ _ => ⟨rfl, rfl⟩) rfl hc hn
        refine ⟨g', p1, p2, ?_, p4⟩
        have hag : (pri (lk s.ob) t v s.nx).1.agg = false := by
          rcases pri_agg (lo := lk s.ob) (t := t) (v := v) (nx := s.nx) with h | h
          · rw [h]; exact ha
          · rw [h.1]; exact ha
        have := VT_of_CT p3 (fun _ => rfl)
        rw [hag] at this
        simpa [valOf] using this
    · have hp : pri (lk s.ob) t v s.nx = (v, s.nx, [], []) := by
        cases t with
        | al c => cases v <;> first | rfl | simp [live] at hl
        | pr ta tb => cases v <;> first | rfl | simp [live] at hl
        | _ => rfl
      rw [hp]
      exact ⟨g, fun _ _ => ⟨rfl, rfl⟩, rfl, hV, hn, rfl, fun u hu => (by cases hu), fun m o h => by simp [lk] at h⟩
  obtain ⟨g', p1, p2, p3, p4, p5, p6, p7⟩ := key
  generalize hX : pri (lk s.ob) t v s.nx = X at *
  obtain ⟨v', nx', obs, us⟩ := X
  dsimp only at hnd p3 p4 p5 p6 p7 ⊢
  have t1 := turn_same (w := w) (F := F) (N := fun m => m < s.nx) p2 (fun m hm => (p1 m hm).1)
  have hob : ∀ m o, lk (obs ++ delL us s.ob) m = some o → lk obs m = some o ∨ (lk s.ob m = some o ∧ ∀ p, (m, p) ∉ us) := by
    intro m o h
    rw [lk_append] at h
    split at h
    · exact .inl (by rename_i h2; rw [h2]; exact h)
    · exact .inr (lk_delL h)
  have hold : ∀ m o, lk s.ob m = some o → OR w F g' m o ∧ g'.fp m = g.fp m ∧ m < s.nx := by
    intro m o h
    obtain ⟨h1, h2⟩ := I.nmO m o h
    exact ⟨OR_turn t1 h1 h2 o.safe_none (fun b _ h => h) (fun b => by rw [(p1 m h1).2]) (I.ob m o h), (p1 m h1).2, h1⟩
  have hnew : ∀ m o, lk obs m = some o → ∃ n p, us[m - s.nx]? = some (n, p) ∧ (∃ o', lk s.ob n = some o') ∧ (∀ b, g'.fp m b → g.fp n b) ∧ ∃ i, g'.fp m = L n i p := by
    intro m o h
    obtain ⟨r1, _, _, ⟨n, p⟩, i, r4, r5⟩ := p7 m o h
    obtain ⟨e, k, xs, hlk⟩ := p6 (n, p) (List.mem_of_getElem? r4)
    exact ⟨n, p, r4, ⟨_, hlk⟩, fun b hb => (hL n e k xs hlk).2.1.fp i p b (by rw [r5] at hb; exact hb), i, r5⟩
  refine ⟨g', ⟨fun m o h => ?_, fun m q o p b h1 h2 hne hb1 hb2 => ?_, fun m o b h hb => ?_, by rw [p2]; exact I.bxF, fun t' v' h => ?_, fun t' v' h => ?_, fun m o h => ?_, I.nt, I.df, I.big, I.kept⟩⟩
  · rcases hob m o h with h | h
    · exact (p7 m o h).2.1
    · exact (hold m o h.1).1
  · rcases hob m o h1 with h1 | ⟨h1, hm1⟩
    · obtain ⟨n1, q1, e1, ⟨o1, l1⟩, s1, i1, f1⟩ := hnew m o h1
      rcases hob q p h2 with h2 | ⟨h2, hm2⟩
      · obtain ⟨n2, q2, e2, ⟨o2, l2⟩, s2, i2, f2⟩ := hnew q p h2
        by_cases hn12 : n1 = n2
        · subst hn12
          have hq : q1 ≠ q2 := by
            intro hq
            subst hq
            have m1 := (p7 m o h1).1
            have m2 := (p7 q p h2).1
            have := (List.getElem?_inj (List.getElem?_eq_some_iff.1 e1).1 hnd).1 (e1.trans e2.symm)
            omega
          obtain ⟨e, k, xs, hlk⟩ := p6 (n1, q1) (List.mem_of_getElem? e1)
          rw [f1] at hb1
          rw [f2] at hb2
          exact (hL n1 e k xs hlk).2.1.dis i1 i2 q1 q2 b hq hb1 hb2
        · exact I.dis n1 n2 o1 o2 b l1 l2 hn12 (s1 b hb1) (s2 b hb2)
      · rw [(hold q p h2).2.1] at hb2
        have hne2 : n1 ≠ q := fun he => hm2 q1 (by rw [← he]; exact List.mem_of_getElem? e1)
        exact I.dis n1 q o1 p b l1 h2 hne2 (s1 b hb1) hb2
    · rw [(hold m o h1).2.1] at hb1
      rcases hob q p h2 with h2 | ⟨h2, hm2⟩
      · obtain ⟨n2, q2, e2, ⟨o2, l2⟩, s2, _⟩ := hnew q p h2
        have hne2 : n2 ≠ m := fun he => hm1 q2 (by rw [← he]; exact List.mem_of_getElem? e2)
        exact I.dis n2 m o2 o b l2 h1 hne2 (s2 b hb2) hb1
      · rw [(hold q p h2).2.1] at hb2
        exact I.dis m q o p b h1 h2 hne hb1 hb2
  · rcases hob m o h with h | h
    · obtain ⟨n1, q1, e1, ⟨o1, l1⟩, s1, _⟩ := hnew m o h
      exact I.inF n1 o1 b l1 (s1 b hb)
    · rw [(hold m o h.1).2.1] at hb
      exact I.inF m o b h.1 hb
  · rw [lk_put] at h
    split at h
    · rename_i he
      subst he
      simp only [Option.some.injEq] at h
      subst h
      exact ⟨u, hu, p3⟩
    · obtain ⟨u', q1, q2⟩ := I.tm t' v' h
      exact ⟨u', q1, VT_turn t1 (I.nmT t' v' h) (TV.safe_none _) q2⟩
  · rw [lk_put] at h
    split at h
    · simp only [Option.some.injEq] at h
      subst h
      exact p4
    · exact TV.nms_mono (fun m hm => by simp only [Nm] at hm; omega) (I.nmT t' _ h)
  · rcases hob m o h with h | h
    · obtain ⟨r1, r2, r3, u', i, r4, r5⟩ := p7 m o h
      have := (List.getElem?_eq_some_iff.1 r4).1
      exact ⟨by omega, Obj.nms_mono (fun _ h => h.elim) r3⟩
    · obtain ⟨h1, h2⟩ := I.nmO m o h.1
      exact ⟨by simp only [Nm] at h1; omega, Obj.nms_mono (fun m hm => by simp only [Nm] at hm; omega) h2⟩

theorem priTm_inv : ∀ {l : List (Nat × TSh)} {s : St} {g : G}, Inv F w0 (Nm s) s a w g → (priTm l s).nt = s.nt ∧ ∃ g', Inv F w0 (Nm (priTm l s)) (priTm l s) a w g' := by
  intro l
  induction l with
  | nil => intro s g I; exact ⟨rfl, g, I⟩
  | cons p r ih =>
    intro s g I
    obtain ⟨n, t⟩ := p
    simp only [priTm]
    split
    · rename_i v hv
      split
      · exact ih I
      · rename_i u us hus
        split
        · rename_i hnd
          obtain ⟨g', I'⟩ := pri_inv (t := t) I hv (by rw [hus]; exact hnd)
          rw [hus] at I'
          exact ih I'
        · exact ih I
    · exact ih I

end
end Go.Vm

/- The value machine, part 28: what a function is known to do, and a call of it. -/
set_option linter.unusedVariables false
set_option linter.unusedSimpArgs false
namespace Go.Vm

/-- What is known of a function that is handed variables and rows, and hands them back: the shape of its arguments (captured ones behind them); of its results and, behind them, of the arguments that it hands back; what it computes. -/
structure EntH where
  psh : Sh
  nargs : Nat
  rsh : Sh
  nres : Nat
  den : HL psh.ks → Option (HL rsh.ks)

/-- What is known of a function: the shapes of its arguments (told as read-only data), of its results, and what it computes. -/
structure Ent where
  pars : List (Nat × TSh)
  rsh : Sh
  den : HL (tmks pars []) → Option (HL rsh.ks)
  h : Option EntH

def G0 : G := { hd := fun _ => undef, fp := fun _ _ => False, Bx := fun _ => False }

/-- Blocks that a call has laid. -/
@[reducible] def Fr (w : World) : Nat → Prop := fun b => w.heap.size ≤ b

/-- The results, as one value's. -/
def resT : List (Nat × TV) → TV
  | [] => .tn
  | (_, v) :: r => .tc v (resT r)
def res1 : List (Nat × TV) → TV
  | [(_, v)] => v
  | l => resT l

def ArgsOk (w : World) : List (Nat × TV) → List Value → Prop
  | [], [] => True
  | (_, t) :: l, v :: r => VT w (Fr w) G0 t v ∧ ArgsOk w l r
  | _, _ => False

structure RetOk (w w' : World) (s : St) (v : Value) (g : G) : Prop where
  ob : ∀ n o, lk s.ob n = some o → OR w' (Fr w) g n o ∧ n < s.nx
  dis : ∀ n m o p b, lk s.ob n = some o → lk s.ob m = some p → n ≠ m → g.fp n b → g.fp m b → False
  inF : ∀ n o b, lk s.ob n = some o → g.fp n b → Fr w b
  res : VT w' (Fr w) g (res1 s.tm) v

def resVal (vs : List Value) : Value := match vs with | [v] => v | vs => .tuple vs.toArray
def HoldsH (P : Program) (f : Nat) (e : EntH) : Prop :=
  ∀ F w args x d, e.den x = some d → args.size = e.nargs → (∃ g, Inv F ⟨w, fun t => args[t]?⟩ (Nm (e.psh.fill args.size x)) (e.psh.fill args.size x) ⟨args, []⟩ w g) → Calls P f args w fun
    | .returned v, w' => ∃ vs : List Value, vs.length = e.nres ∧ v = resVal vs ∧ ∃ g, Inv F ⟨w, fun t => args[t]?⟩ (Nm (e.rsh.fill (e.nres + args.size) d)) (e.rsh.fill (e.nres + args.size) d) ⟨vs.toArray ++ args, []⟩ w' g
    | _, _ => False

def HoldsR (P : Program) (f : Nat) (e : Ent) : Prop :=
  ∀ w args x d, e.den x = some d → ArgsOk w (tmfill e.pars [] x).1 args.toList → Calls P f args w fun
    | .returned v, w' => Kept (Fr w) w w' ∧ ∃ g, RetOk w w' (e.rsh.fill 0 d) v g
    | _, _ => False

def Holds (P : Program) (f : Nat) (e : Ent) : Prop := HoldsR P f e ∧ ∀ eh, e.h = some eh → HoldsH P f eh

def Callable (P : Program) (f : Nat) : Prop := ∃ fn, P.funcs[f]? = some fn ∧ (fn.name == "runtime.NumGoroutine") = false ∧ fn.body.isNone = false

def EOk (P : Program) (E : Nat → Option Ent) : Prop := ∀ f e, E f = some e → Holds P f e ∧ Callable P f

/-! #### What a caller makes of the results -/
def TV.shift (b : Nat) : TV → TV
  | .al c => .al (b + c)
  | .pr x y => .pr (x.shift b) (y.shift b)
  | .tc x y => .tc (x.shift b) (y.shift b)
  | v => v
/-- Results that a caller can take over: rows of their own, data without slices. -/
def TSh.ret : TSh → Bool
  | .sc _ k => k.flat
  | .al _ => true
  | .pr a b => a.ret && b.ret
  | .un => true
  | .dead _ => true
  | _ => false
def OSh.ret : OSh → Bool
  | .ls _ _ deep => deep
  | .bx _ => false
def Sh.ret (h : Sh) : Bool := (h.tm.all fun q => q.2.ret) && h.ob.all fun q => q.2.ret && decide (q.1 < h.nx)
def shiftOb (b : Nat) : List (Nat × Obj) → List (Nat × Obj)
  | [] => []
  | (n, o) :: r => (b + n, o) :: shiftOb b r

/-- The data of an argument that is only read. -/
def rdP (lo : Nat → Option Obj) (k : K) : TV → Option (dn k)
  | .cp _ _ k' x => if h : k' = k then some (h ▸ x) else none
  | .ep n i st path =>
    match lo n with
    | some (.ls _ k0 _ xs) => if st = k0.sz then (navD k0 path (xs.getD i (dz k0))).bind fun y => if h : y.1 = k then some (h ▸ y.2) else none else none
    | _ => none
  | .bp n path =>
    match lo n with
    | some (.bx c) => (getP path c).bind fun v => rdT lo false k v
    | _ => none
  | _ => none
def mtP (lo : Nat → Option Obj) : (t : TSh) → TV → (r : List K) → HL r → Option (HL (t.ks r))
  | .sc _ k, v, _, y => (rdT lo false k v).map fun x => (x, y)
  | .cp _ _ k, v, _, y => (rdP lo k v).map fun x => (x, y)
  | .fn f .un, .fn f' .un, _, y => if f' = f then some y else none
  | _, _, _, _ => none
def mtA (lo : Nat → Option Obj) : (l : List (Nat × TSh)) → List TV → (r : List K) → HL r → Option (HL (tmks l r))
  | [], [], _, y => some y
  | (_, t) :: l, v :: vs, r, y => (mtA lo l vs r y).bind fun y' => mtP lo t v (tmks l r) y'
  | _, _, _, _ => none
def evl (lt : Nat → Option TV) : List Operand → Option (List TV)
  | [] => some []
  | x :: r => (evo lt x).bind fun v => (evl lt r).map fun vs => v :: vs

/-- The state behind a call, and the result. -/
def aft (e : Ent) (s : St) (d : HL e.rsh.ks) : St × TV :=
  ({ s with ob := shiftOb s.nx (e.rsh.fill 0 d).ob ++ s.ob, nx := s.nx + e.rsh.nx }, (res1 (e.rsh.fill 0 d).tm).shift s.nx)

section
variable {P : Program} {T : Nat → K} {w w' : World} {w0 : W0} {F N : Nat → Prop} {g g' : G} {s : St} {a : Act} {base : Nat}

theorem lk_shiftOb (b : Nat) (l : List (Nat × Obj)) (n : Nat) (o : Obj) (h : lk (shiftOb b l) n = some o) : ∃ c, n = b + c ∧ lk l c = some o := by
  induction l with
  | nil => simp [shiftOb, lk] at h
  | cons p r ih =>
    obtain ⟨m, x⟩ := p
    simp only [shiftOb, lk] at h
    split at h
    · rename_i he; exact ⟨m, he, by simp only [lk, if_true]; exact h⟩
    · rename_i he
      obtain ⟨c, h1, h2⟩ := ih h
      refine ⟨c, h1, ?_⟩
      simp only [lk]
      rw [if_neg (by rintro rfl; exact he h1)]
      exact h2

theorem obfill_ret : ∀ {l : List (Nat × OSh)} {r : List K} {y : HL (obks l r)} {n : Nat} {o : Obj} {m : Nat}, (l.all fun q => q.2.ret && decide (q.1 < m)) = true → lk (obfill l r y).1 n = some o →
    n < m ∧ ∃ e k xs, o = .ls e k true xs := by
  intro l
  induction l with
  | nil => intro r y n o m _ h; simp [obfill, lk] at h
  | cons p l ih =>
    intro r y n o m hr h
    obtain ⟨c, t⟩ := p
    simp only [List.all_cons, Bool.and_eq_true, decide_eq_true_eq] at hr
    simp only [obfill, lk] at h
    split at h
    · rename_i he
      subst he
      simp only [Option.some.injEq] at h
      cases t with
      | bx t => simp [OSh.ret] at hr
      | ls e k deep =>
        have hd : deep = true := hr.1.1
        subst hd
        exact ⟨hr.1.2, e, k, _, h.symm⟩
    · exact ih (by simpa using hr.2) h

theorem shift_agg {b : Nat} : ∀ {v : TV}, (v.shift b).agg = v.agg ∧ live (v.shift b) = live v := by
  intro v; cases v <;> exact ⟨rfl, rfl⟩

theorem CT_shift {F' : Nat → Prop} {b nx : Nat} (hh : ∀ c, c < nx → g.hd (b + c) = g'.hd c) : ∀ {t : TSh} {r : List K} {d : HL (t.ks r)} {cs : List Value}, t.ret = true → (t.fill r d).1.nms (fun c => c < nx) → CT w F' g' (t.fill r d).1 cs →
    CT w F g ((t.fill r d).1.shift b) cs ∧ ((t.fill r d).1.shift b).nms (fun n => n < b + nx) := by
  intro t
  induction t with
  | sc ext k => intro r d cs hr hn h; exact ⟨C_flat hr h, trivial⟩
  | al c =>
    intro r d cs hr hn h
    simp only [TSh.fill, CT, TV.shift, TV.nms] at hn h ⊢
    rw [hh c hn]
    exact ⟨h, by omega⟩
  | pr ta tb iha ihb =>
    intro r d cs hr hn h
    simp only [TSh.ret, Bool.and_eq_true] at hr
    obtain ⟨c1, c2, rfl, h1, h2⟩ := h
    obtain ⟨p1, p2⟩ := iha hr.1 hn.1 h1
    obtain ⟨q1, q2⟩ := ihb hr.2 hn.2 h2
    exact ⟨⟨c1, c2, rfl, p1, q1⟩, p2, q2⟩
  | un => intro r d cs hr hn h; exact ⟨h, trivial⟩
  | dead m => intro r d cs hr hn h; exact ⟨h, trivial⟩
  | _ => intro r d cs hr; simp [TSh.ret] at hr

end
end Go.Vm

/- The value machine, part 29: arguments of a call; the state behind it. -/
set_option linter.unusedVariables false
set_option linter.unusedSimpArgs false
namespace Go.Vm

section
variable {P : Program} {T : Nat → K} {w w' : World} {w0 : W0} {F N : Nat → Prop} {g g' : G} {s : St} {a : Act} {base : Nat}

/-- Data of the caller's, as the callee sees it. -/
theorem C_enter {ext : Bool} {k : K} {x : dn k} {cs : List Value} (h : C w (okt F g.Bx) k x cs) : C w (oks (Fr w) G0.Bx ext) k x cs :=
  C_imp (fun b bt e _ hbt => ⟨rfl, by
    have : ¬ Fr w b := by have := hbt.lt; simp only [Fr]; omega
    cases ext with
    | true => exact this
    | false => exact .inl this⟩) h

theorem cp_enter {ext : Bool} {e : Nat} {k : K} {x : dn k} {ad : Addr} {bt : Nat} {ds : List Value} (hbt : Bt w ad.block bt) (h : C w (okt F g.Bx) k x ds) (hc : ∀ j u, ds[j]? = some u → w.cell? (ad.add j) = some u) :
    VT w (Fr w) G0 (.cp ext e k x) (.pointer (some ad)) := by
  refine ⟨ad, bt, ds, rfl, hbt, ?_, C_enter h, hc⟩
  have : ¬ Fr w ad.block := by have := hbt.lt; simp only [Fr]; omega
  cases ext with
  | true => exact this
  | false => exact .inl this

theorem rdP_VT (I : Inv F w0 N s a w g) {ext : Bool} {e : Nat} {k : K} {v : TV} {u : Value} {x : dn k} (hv : VT w F g v u) (h : rdP (lk s.ob) k v = some x) : VT w (Fr w) G0 (.cp ext e k x) u := by
  cases v with
  | cp ext' e' k' x' =>
    simp only [rdP] at h
    split at h
    · rename_i hk
      subst hk
      simp only [Option.some.injEq] at h
      subst h
      obtain ⟨ad, bt, ds, h1, h2, h3, h4, h5⟩ := VT_leaf hv rfl rfl
      simp only [List.cons.injEq, and_true] at h1
      subst h1
      refine cp_enter (F := F) (g := g) h2 ?_ h5
      cases ext' with
      | true => exact C_true_false h4
      | false => exact h4
    · cases h
  | ep n i st path =>
    simp only [rdP] at h
    split at h
    · rename_i e' k0 deep xs hn
      split at h
      · rename_i hst
        simp only [Option.bind_eq_some_iff] at h
        obtain ⟨⟨k', y⟩, hnav, h⟩ := h
        split at h
        · rename_i hk
          dsimp only at hk
          subst hk
          simp only [Option.some.injEq] at h
          subst h
          obtain ⟨b, m, c, h1, ⟨hi, hpo⟩, h3⟩ := VT_leaf hv rfl rfl
          simp only [List.cons.injEq, and_true] at h3
          subst h3
          obtain ⟨hl, ds, hC, hdl, hcell⟩ := elem_C (I.ob n _ hn) h1 hi
          rw [getD_lt _ _ _ hl] at hnav
          have hCy := nav_C hC hnav hpo
          have hcell0 : ∀ j u, ds[j]? = some u → w.cell? ((⟨b, i * k0.sz, none⟩ : Addr).add j) = some u := by
            intro j u hu; rw [add_off]; exact hcell j u hu
          have hcs := sub_cells hcell0 (pOff path) k'.sz
          rw [add_off] at hcs
          subst hst
          obtain ⟨hm, hbx, hfb, cur, f, ds', hcur, _⟩ := row_of (I.ob n _ hn) h1 hi
          exact cp_enter (F := F) (g := g) (bt := e') ⟨cur, _, hcur⟩ hCy hcs
        · cases h
      · cases h
    · cases h
  | bp n path =>
    simp only [rdP] at h
    split at h
    · rename_i c hn
      simp only [Option.bind_eq_some_iff] at h
      obtain ⟨r, hg, hr⟩ := h
      obtain ⟨b, h1, h2, h3⟩ := VT_leaf hv rfl rfl
      simp only [List.cons.injEq, and_true] at h3
      subst h3
      obtain ⟨b', Tb, cur, h4, h5, h6, _⟩ := I.ob n _ hn
      rw [h1] at h4
      have hbb : b = b' := by simpa using h4
      subst hbb
      have hC := getP_CT h6 hg h2
      have hcell : ∀ j u, (sub cur.toList (pOff path) r.sz)[j]? = some u → w.cell? ((⟨b, pOff path, none⟩ : Addr).add j) = some u := by
        have := sub_cells (w := w) (ad := ⟨b, 0, none⟩) (ds := cur.toList) (fun j u hu => by rw [add_plain, cell_of_row w b j cur Tb (0, 0) h5]; simpa using hu) (pOff path) r.sz
        rwa [add_plain] at this
      exact cp_enter (F := F) (g := g) (bt := Tb) ⟨cur, _, h5⟩ (rdT_C (ext := false) I hC hr) hcell
    · cases h
  | _ => simp [rdP] at h

theorem mtP_VT (I : Inv F w0 N s a w g) {t : TSh} {v : TV} {r : List K} {y : HL r} {d : HL (t.ks r)} {u : Value} (hv : VT w F g v u) (h : mtP (lk s.ob) t v r y = some d) :
    VT w (Fr w) G0 (t.fill r d).1 u ∧ (t.fill r d).2 = y := by
  cases t with
  | sc ext k =>
    simp only [mtP, Option.map_eq_some_iff] at h
    obtain ⟨x, hx, rfl⟩ := h
    refine ⟨?_, rfl⟩
    obtain ⟨h1, h2⟩ := rdT_agg hx
    simp only [TSh.fill]
    cases ha : v.agg with
    | true =>
      obtain ⟨cs, rfl, hc⟩ := VT_agg hv ha
      have hC : C w (oks (Fr w) G0.Bx ext) k x cs := C_enter (rdT_C (ext := false) I hc hx)
      have := VT_of_CT (w := w) (F := Fr w) (g := G0) (v := .sc ext k x) hC (fun hf => by simp only [TV.agg] at hf; rw [← h1, ha] at hf; cases hf)
      have hag : (TV.sc ext k x).agg = true := by simp only [TV.agg]; rw [← h1, ha]
      rw [hag] at this
      simpa [valOf] using this
    | false =>
      have hc := VT_leaf hv ha h2
      have hC : C w (oks (Fr w) G0.Bx ext) k x [u] := C_enter (rdT_C (ext := false) I hc hx)
      have := VT_of_CT (w := w) (F := Fr w) (g := G0) (v := .sc ext k x) hC (fun _ => rfl)
      have hag : (TV.sc ext k x).agg = false := by simp only [TV.agg]; rw [← h1, ha]
      rw [hag] at this
      simpa [valOf] using this
  | cp ext e k =>
    simp only [mtP, Option.map_eq_some_iff] at h
    obtain ⟨x, hx, rfl⟩ := h
    exact ⟨rdP_VT I hv hx, rfl⟩
  | fn f c =>
    cases c with
    | un =>
      cases v with
      | fn f' v' =>
        cases v' with
        | un =>
          simp only [mtP] at h
          split at h
          · rename_i hf
            subst hf
            simp only [Option.some.injEq] at h
            subst h
            refine ⟨?_, rfl⟩
            obtain ⟨vs, h1, h2⟩ := VT_leaf hv rfl rfl
            exact ⟨vs, h1, h2⟩
          · cases h
        | _ => simp [mtP] at h
      | _ => simp [mtP] at h
    | _ => simp [mtP] at h
  | _ => simp [mtP] at h

theorem mtA_ok (I : Inv F w0 N s a w g) : ∀ {l : List (Nat × TSh)} {xs : List Operand} {vs : List TV} {r : List K} {y : HL r} {d : HL (tmks l r)}, evl (lk s.tm) xs = some vs → mtA (lk s.ob) l vs r y = some d →
    ArgsOk w (tmfill l r d).1 (xs.map a.eval) ∧ (tmfill l r d).2 = y := by
  intro l
  induction l with
  | nil =>
    intro xs vs r y d he h
    cases vs with
    | nil =>
      cases xs with
      | nil => simp only [mtA, Option.some.injEq] at h; subst h; exact ⟨trivial, rfl⟩
      | cons x xs => simp only [evl, Option.bind_eq_some_iff, Option.map_eq_some_iff] at he; obtain ⟨_, _, _, _, he⟩ := he; cases he
    | cons v vs => simp [mtA] at h
  | cons p l ih =>
    intro xs vs r y d he h
    obtain ⟨n, t⟩ := p
    cases vs with
    | nil => simp [mtA] at h
    | cons v vs =>
      simp only [mtA, Option.bind_eq_some_iff] at h
      obtain ⟨y', hy, hm⟩ := h
      cases xs with
      | nil => simp [evl] at he
      | cons x xs =>
        simp only [evl, Option.bind_eq_some_iff, Option.map_eq_some_iff] at he
        obtain ⟨v', hv', vs', hvs', he⟩ := he
        injection he with he1 he2
        subst he1 he2
        obtain ⟨q1, q2⟩ := ih hvs' hy
        obtain ⟨p1, p2⟩ := mtP_VT I (eval_VT I hv') hm
        simp only [tmfill]
        rw [p2]
        exact ⟨⟨p1, q1⟩, q2⟩

theorem tmfill_mem {P : TV → Prop} : ∀ {l : List (Nat × TSh)} {r : List K} {d : HL (tmks l r)}, (∀ n t r' d', (n, t) ∈ l → P (TSh.fill t r' d').1) → ∀ q ∈ (tmfill l r d).1, P q.2 := by
  intro l
  induction l with
  | nil => intro r d h q hq; simp [tmfill] at hq
  | cons p l ih =>
    intro r d h q hq
    obtain ⟨n, t⟩ := p
    simp only [tmfill, List.mem_cons] at hq
    rcases hq with rfl | hq
    · exact h n t _ _ List.mem_cons_self
    · exact ih (fun n t r' d' hm => h n t r' d' (List.mem_cons_of_mem _ hm)) q hq

theorem VT_shift {F' : Nat → Prop} {b nx : Nat} (hh : ∀ c, c < nx → g.hd (b + c) = g'.hd c) {t : TSh} {r : List K} {d : HL (t.ks r)} {u : Value} (hr : t.ret = true) (hn : (t.fill r d).1.nms (fun c => c < nx)) (h : VT w F' g' (t.fill r d).1 u) :
    VT w F g ((t.fill r d).1.shift b) u ∧ ((t.fill r d).1.shift b).nms (fun n => n < b + nx) := by
  obtain ⟨ha', hl'⟩ := shift_agg (b := b) (v := (t.fill r d).1)
  by_cases hl : live (t.fill r d).1 = true
  · cases ha : (t.fill r d).1.agg with
    | true =>
      obtain ⟨cs, rfl, hc⟩ := VT_agg h ha
      obtain ⟨p1, p2⟩ := CT_shift (g := g) (F := F) hh hr hn hc
      have := VT_of_CT p1 (fun hf => by rw [ha', ha] at hf; cases hf)
      rw [ha', ha] at this
      exact ⟨by simpa [valOf] using this, p2⟩
    | false =>
      have hc := VT_leaf h ha hl
      obtain ⟨p1, p2⟩ := CT_shift (g := g) (F := F) hh hr hn hc
      have := VT_of_CT p1 (fun _ => rfl)
      rw [ha', ha] at this
      exact ⟨by simpa [valOf] using this, p2⟩
  · cases t with
    | dead m => exact ⟨trivial, trivial⟩
    | _ => simp [TSh.fill, live] at hl

theorem resT_shift {F' : Nat → Prop} {b nx : Nat} (hh : ∀ c, c < nx → g.hd (b + c) = g'.hd c) : ∀ {l : List (Nat × TSh)} {r : List K} {d : HL (tmks l r)} {u : Value}, (l.all fun q => q.2.ret) = true → (∀ q ∈ (tmfill l r d).1, q.2.nms (fun c => c < nx)) →
    VT w F' g' (resT (tmfill l r d).1) u → VT w F g ((resT (tmfill l r d).1).shift b) u ∧ ((resT (tmfill l r d).1).shift b).nms (fun n => n < b + nx) := by
  intro l
  induction l with
  | nil => intro r d u _ _ h; exact ⟨h, trivial⟩
  | cons p l ih =>
    intro r d u hr hn h
    obtain ⟨n, t⟩ := p
    simp only [List.all_cons, Bool.and_eq_true] at hr
    simp only [tmfill, resT, TV.shift] at h ⊢
    obtain ⟨v1, vs, rfl, h1, h2⟩ := h
    obtain ⟨p1, p2⟩ := VT_shift (g := g) (F := F) hh hr.1 (hn (n, (t.fill (tmks l r) d).1) (by simp [tmfill])) h1
    obtain ⟨q1, q2⟩ := ih hr.2 (fun q hq => hn q (by simp [tmfill, hq])) h2
    exact ⟨⟨v1, vs, rfl, p1, q1⟩, p2, q2⟩

theorem res1_shift {F' : Nat → Prop} {b nx : Nat} (hh : ∀ c, c < nx → g.hd (b + c) = g'.hd c) {l : List (Nat × TSh)} {r : List K} {d : HL (tmks l r)} {u : Value} (hr : (l.all fun q => q.2.ret) = true) (hn : ∀ q ∈ (tmfill l r d).1, q.2.nms (fun c => c < nx))
    (h : VT w F' g' (res1 (tmfill l r d).1) u) : VT w F g ((res1 (tmfill l r d).1).shift b) u ∧ ((res1 (tmfill l r d).1).shift b).nms (fun n => n < b + nx) := by
  cases l with
  | nil => exact resT_shift (g := g) hh hr hn h
  | cons p l =>
    obtain ⟨n, t⟩ := p
    cases l with
    | nil =>
      simp only [List.all_cons, Bool.and_eq_true] at hr
      simp only [tmfill, res1] at h ⊢
      exact VT_shift (g := g) hh hr.1 (hn (n, (t.fill r d).1) (by simp [tmfill])) h
    | cons q l =>
      obtain ⟨m, t'⟩ := q
      have h' : res1 (tmfill ((n, t) :: (m, t') :: l) r d).1 = resT (tmfill ((n, t) :: (m, t') :: l) r d).1 := rfl
      rw [h'] at h ⊢
      exact resT_shift (g := g) hh hr hn h

/-- The names of a shape's slots are those of its objects. -/
def TSh.nmOk (m : Nat) : TSh → Bool
  | .al c | .bp c => decide (c < m)
  | .pr a b => a.nmOk m && b.nmOk m
  | .fn _ c => c.nmOk m
  | _ => true
theorem nmOk_fill {m : Nat} : ∀ {t : TSh} {r : List K} {d : HL (t.ks r)}, t.nmOk m = true → (t.fill r d).1.nms (fun c => c < m) := by
  intro t
  induction t with
  | al c => intro r d h; simpa [TSh.nmOk, TSh.fill, TV.nms] using h
  | bp c => intro r d h; simpa [TSh.nmOk, TSh.fill, TV.nms] using h
  | pr a b iha ihb => intro r d h; simp only [TSh.nmOk, Bool.and_eq_true] at h; exact ⟨iha h.1, ihb h.2⟩
  | fn f c ih => intro r d h; exact ih h
  | _ => intro r d h; trivial

def Sh.retOk (h : Sh) : Bool := h.ret && h.tm.all fun q => q.2.nmOk h.nx

theorem call_inv (I : Inv F w0 (Nm s) s a w g) {e : Ent} (hret : e.rsh.retOk = true) {d : HL e.rsh.ks} {v : Value} {g' : G} (hk : Kept (Fr w) w w') (hR : RetOk w w' (e.rsh.fill 0 d) v g') :
    ∃ g2, Inv F w0 (Nm (aft e s d).1) (aft e s d).1 a w' g2 ∧ VT w' F g2 (aft e s d).2 v ∧ (aft e s d).2.nms (Nm (aft e s d).1) := by
  simp only [Sh.retOk, Sh.ret, Bool.and_eq_true] at hret
  obtain ⟨⟨hrt, hro⟩, hrn⟩ := hret
  have hnew : ∀ b, Fr w b → F b := fun b hb => I.big b (Nat.le_trans I.kept.size hb)
  let g2 : G := { hd := fun n => if n < s.nx then g.hd n else g'.hd (n - s.nx), fp := fun n => if n < s.nx then g.fp n else g'.fp (n - s.nx), Bx := g.Bx }
  have turn : Turn (fun _ => False) (fun _ => False) True (Nm s) F g g2 w w' :=
    ⟨fun b hb _ => hk.block b hb (fun h => by simp only [Fr] at h; omega), fun _ h => h.elim, fun _ _ h => h.elim, fun _ _ h => h.elim, fun _ _ => Iff.rfl, fun n hn => by simp only [Nm] at hn; simp only [g2]; rw [if_pos hn]⟩
  have hhd : ∀ c, c < e.rsh.nx → g2.hd (s.nx + c) = g'.hd c := fun c _ => by simp only [g2]; rw [if_neg (by omega)]; congr 1; omega
  have hfp : ∀ c, g2.fp (s.nx + c) = g'.fp c := fun c => by simp only [g2]; rw [if_neg (by omega)]; congr 1; omega
  have hfpo : ∀ n, n < s.nx → g2.fp n = g.fp n := fun n hn => by simp only [g2]; rw [if_pos hn]
  have hob : ∀ n o, lk (shiftOb s.nx (e.rsh.fill 0 d).ob ++ s.ob) n = some o → (∃ c, n = s.nx + c ∧ lk (e.rsh.fill 0 d).ob c = some o) ∨ lk s.ob n = some o := by
    intro n o h
    rw [lk_append] at h
    split at h
    · rename_i x hx
      simp only [Option.some.injEq] at h
      subst h
      exact .inl (lk_shiftOb _ _ _ _ hx)
    · exact .inr h
  have hnewob : ∀ c o, lk (e.rsh.fill 0 d).ob c = some o → c < e.rsh.nx ∧ ∃ e' k xs, o = .ls e' k true xs := fun c o h => obfill_ret (l := e.rsh.ob) hro h
  have hold : ∀ n o, lk s.ob n = some o → OR w' F g2 n o ∧ n < s.nx := by
    intro n o h
    obtain ⟨h1, h2⟩ := I.nmO n o h
    exact ⟨OR_turn turn h1 h2 o.safe_none (fun b _ h => h) (fun b => by rw [hfpo n h1]) (I.ob n o h), h1⟩
  have I2 : Inv F w0 (Nm (aft e s d).1) (aft e s d).1 a w' g2 := by
    refine ⟨fun n o h => ?_, fun n m o p b h1 h2 hne hb1 hb2 => ?_, fun n o b h hb => ?_, fun b hb => ?_, fun t v h => ?_, fun t v h => ?_, fun n o h => ?_, I.nt, I.df, I.big, I.kept.trans ?_⟩
    · rcases hob n o h with ⟨c, rfl, hc⟩ | h
      · obtain ⟨q1, e', k, xs, rfl⟩ := hnewob c o hc
        obtain ⟨⟨r1, r2⟩, _⟩ := hR.ob c _ hc
        refine ⟨?_, fun b hb hx => ?_⟩
        · rw [hhd c q1, hfp c]
          refine OL_imp (fun _ _ => rfl) (fun x _ cs f _ hr => ?_) r1
          simpa [LR] using hr
        · rw [hfp c] at hb
          have h1 := hR.inF c _ b hc hb
          have h2 := I.bxF b hx
          simp only [Fr] at h1
          omega
      · exact (hold n o h).1
    · rcases hob n o h1 with ⟨c, rfl, hc1⟩ | h1
      · rcases hob m p h2 with ⟨c', rfl, hc2⟩ | h2
        · rw [hfp] at hb1 hb2
          exact hR.dis c c' o p b hc1 hc2 (fun h => hne (by rw [h])) hb1 hb2
        · rw [hfp] at hb1
          rw [hfpo m (hold m p h2).2] at hb2
          have q1 := hR.inF c _ b hc1 hb1
          have q2 := ob_lt I h2 hb2
          simp only [Fr] at q1
          omega
      · rcases hob m p h2 with ⟨c', rfl, hc2⟩ | h2
        · rw [hfp] at hb2
          rw [hfpo n (hold n o h1).2] at hb1
          have q1 := hR.inF c' _ b hc2 hb2
          have q2 := ob_lt I h1 hb1
          simp only [Fr] at q1
          omega
        · rw [hfpo n (hold n o h1).2] at hb1
          rw [hfpo m (hold m p h2).2] at hb2
          exact I.dis n m o p b h1 h2 hne hb1 hb2
    · rcases hob n o h with ⟨c, rfl, hc⟩ | h
      · rw [hfp] at hb
        exact hnew b (hR.inF c _ b hc hb)
      · rw [hfpo n (hold n o h).2] at hb
        exact I.inF n o b h hb
    · have := I.bxF b hb
      have := hk.size
      omega
    · obtain ⟨u, h1, h2⟩ := I.tm t v h
      exact ⟨u, h1, VT_turn turn (I.nmT t v h) v.safe_none h2⟩
    · exact TV.nms_mono (fun n hn => by simp only [Nm, aft] at hn ⊢; omega) (I.nmT t v h)
    · rcases hob n o h with ⟨c, rfl, hc⟩ | h
      · obtain ⟨q1, e', k, xs, rfl⟩ := hnewob c o hc
        exact ⟨by simp only [Nm, aft]; omega, trivial⟩
      · obtain ⟨h1, h2⟩ := I.nmO n o h
        exact ⟨by simp only [Nm, aft] at h1 ⊢; omega, Obj.nms_mono (fun n hn => by simp only [Nm, aft] at hn ⊢; omega) h2⟩
    · exact ⟨hk.os, hk.tape, hk.output, hk.size, fun b hb hF => hk.block b hb (fun h => hF (hnew b h))⟩
  refine ⟨g2, I2, ?_⟩
  have hnm : ∀ q ∈ (tmfill e.rsh.tm (obks e.rsh.ob []) d).1, q.2.nms (fun c => c < e.rsh.nx) := tmfill_mem (P := fun v => v.nms (fun c => c < e.rsh.nx)) (fun n t r' d' hm => nmOk_fill (by simp only [List.all_eq_true] at hrn; exact hrn _ hm))
  exact res1_shift (g := g2) (F := F) hhd hrt hnm hR.res

end
end Go.Vm

/- The value machine, part 29h: variables and rows that are handed over and back. -/
set_option linter.unusedVariables false
set_option linter.unusedSimpArgs false
namespace Go.Vm

section
variable {P : Program} {T : Nat → K} {w w' : World} {w0 : W0} {F F' N : Nat → Prop} {g g' : G} {s : St} {a : Act} {base : Nat}

/-! #### Fewer blocks -/
theorem oks_less (hF : ∀ b, F' b → F b) {Bx : Nat → Prop} {ext : Bool} {b bt e : Nat} (h : oks F Bx ext b bt e) : oks F' Bx ext b bt e := by
  cases ext with
  | true => exact fun hb => h (hF b hb)
  | false => exact h.imp (fun h hb => h (hF b hb)) id
theorem C_less (hF : ∀ b, F' b → F b) {Bx : Nat → Prop} {ext : Bool} {k : K} {x : dn k} {cs : List Value} (h : C w (oks F Bx ext) k x cs) : C w (oks F' Bx ext) k x cs :=
  C_imp (fun _ _ _ ho _ => ⟨rfl, oks_less hF ho⟩) h
theorem CT_less (hF : ∀ b, F' b → F b) : ∀ {v : TV} {cs : List Value}, CT w F g v cs → CT w F' g v cs := by
  intro v
  induction v with
  | sc ext k x => intro cs h; exact C_less hF h
  | pr a b iha ihb =>
    intro cs h
    obtain ⟨c1, c2, rfl, h1, h2⟩ := h
    exact ⟨c1, c2, rfl, iha h1, ihb h2⟩
  | cp ext e k x =>
    intro cs h
    obtain ⟨ad, bt, ds, h1, h2, h3, h4, h5⟩ := h
    exact ⟨ad, bt, ds, h1, h2, oks_less hF h3, C_less hF h4, h5⟩
  | fn f caps ih =>
    intro cs h
    obtain ⟨vs, h1, h2⟩ := h
    exact ⟨vs, h1, ih h2⟩
  | _ => intro cs h; exact h
theorem VT_less (hF : ∀ b, F' b → F b) : ∀ {v : TV} {u : Value}, VT w F g v u → VT w F' g v u := by
  intro v
  have gen : ∀ {v : TV} {u : Value}, (if v.agg then ∃ cs, u = .agg cs.toArray ∧ CT w F g v cs else CT w F g v [u]) →
      (if v.agg then ∃ cs, u = .agg cs.toArray ∧ CT w F' g v cs else CT w F' g v [u]) := by
    intro v u h
    split at h
    · rename_i hag
      rw [if_pos hag]
      obtain ⟨cs, h1, h2⟩ := h
      exact ⟨cs, h1, CT_less hF h2⟩
    · rename_i hag
      rw [if_neg hag]
      exact CT_less hF h
  induction v with
  | tc a b iha ihb =>
    intro u h
    obtain ⟨v1, vs, h1, h2, h3⟩ := h
    exact ⟨v1, vs, h1, iha h2, ihb h3⟩
  | tn => exact fun h => h
  | dead m => exact fun h => h
  | _ => intro u h; exact gen (v := _) h
theorem OR_less (hF : ∀ b, F' b → F b) {n : Nat} {o : Obj} (h : OR w F g n o) : OR w F' g n o := by
  cases o with
  | bx v =>
    obtain ⟨a, T, cur, h1, h2, h3, h4⟩ := h
    exact ⟨a, T, cur, h1, h2, CT_less hF h3, h4⟩
  | ls e k deep xs =>
    obtain ⟨h1, h2⟩ := h
    refine ⟨OL_imp (fun _ _ => rfl) (fun x _ cs f _ hR => ?_) h1, h2⟩
    cases deep with
    | true => simpa [LR] using hR
    | false =>
      simp only [LR, Bool.false_eq_true, if_false] at hR ⊢
      exact ⟨C_less (ext := false) hF hR.1, hR.2⟩

/-- Blocks that are new, or handed over. -/
def FH (w : World) (g : G) (ρ : List (Nat × Nat)) (l : List (Nat × OSh)) : Nat → Prop := fun b => w.heap.size ≤ b ∨ ∃ q ∈ l, g.fp (look ρ q.1) b

theorem FH_F (I : Inv F w0 (Nm s) s a w g) {ρ : List (Nat × Nat)} {l : List (Nat × OSh)} (hl : ∀ q ∈ l, ∃ o, lk s.ob (look ρ q.1) = some o) : ∀ b, FH w g ρ l b → F b := by
  rintro b (hb | ⟨q, hq, hb⟩)
  · exact I.big b (Nat.le_trans I.kept.size hb)
  · obtain ⟨o, ho⟩ := hl q hq
    exact I.inF _ o b ho hb

theorem enterH (I : Inv F w0 (Nm s) s a w g) {psh : Sh} {ρ : List (Nat × Nat)} {x : HL psh.ks} {args : Array Value} {tm1 : List (Nat × TV)} (hlen : args.size = args.size)
    (ht : ∀ t v, lk tm1 t = some v → ∃ u, args[t]? = some u ∧ VT w F g v u ∧ v.nms (Nm s)) (hm : mtS psh ρ { nt := args.size, tm := tm1, ob := s.ob, nx := s.nx } = some x) :
    ∃ g1, Inv (FH w g ρ psh.ob) ⟨w, fun t => args[t]?⟩ (Nm (psh.fill args.size x)) (psh.fill args.size x) ⟨args, []⟩ w g1 := by
  have I1 : Inv F ⟨w, fun t => args[t]?⟩ (Nm s) { nt := args.size, tm := tm1, ob := s.ob, nx := s.nx } ⟨args, []⟩ w g :=
    ⟨I.ob, I.dis, I.inF, I.bxF, fun t v h => by obtain ⟨u, h1, h2, _⟩ := ht t v h; exact ⟨u, h1, h2⟩, fun t v h => (ht t v h).choose_spec.2.2, I.nmO, rfl, ⟨rfl, fun t h => by simp at h⟩, fun b hb => I.big b (Nat.le_trans I.kept.size hb), Kept.refl _ _⟩
  obtain ⟨g1, J, hfp, hB, hmem⟩ := mtS_inv' I1 hm
  have hall : ∀ q ∈ psh.ob, ∃ o, lk s.ob (look ρ q.1) = some o := by
    unfold mtS at hm
    split at hm
    · simp only [Option.bind_eq_some_iff] at hm
      obtain ⟨y, hob, _⟩ := hm
      intro q hq
      rcases mtOb_all hob q hq with ⟨_, v, _, h⟩ | ⟨_, _, _, _, _, h⟩ <;> exact ⟨_, h⟩
    · cases hm
  have hF := FH_F I hall
  refine ⟨g1, fun n o h => OR_less hF (J.ob n o h), J.dis, fun n o b h hb => ?_, J.bxF, fun t v h => ?_, J.nmT, J.nmO, J.nt, J.df, fun b hb => .inl hb, Kept.refl _ _⟩
  · obtain ⟨t, hmt⟩ := hmem n o h
    rw [hfp] at hb
    exact .inr ⟨_, hmt, hb⟩
  · obtain ⟨u, h1, h2⟩ := J.tm t v h
    exact ⟨u, h1, VT_less hF h2⟩

end
end Go.Vm

/- The value machine, part 29i: what is handed back: names anew; what has turned. -/
set_option linter.unusedVariables false
set_option linter.unusedSimpArgs false
namespace Go.Vm

/-- The element types of the rows of a kind. -/
def K.types : K → List Nat
  | .sl e k => e :: k.types
  | .arr _ k => k.types
  | .pr a b => a.types ++ b.types
  | _ => []

def TV.ren (f : Nat → Nat) : TV → TV
  | .al c => .al (f c)
  | .pr x y => .pr (x.ren f) (y.ren f)
  | .tc x y => .tc (x.ren f) (y.ren f)
  | v => v
def Obj.ren (f : Nat → Nat) : Obj → Obj
  | .bx v => .bx (v.ren f)
  | o => o
def renOb (f : Nat → Nat) : List (Nat × Obj) → List (Nat × Obj)
  | [] => []
  | (n, o) :: r => (f n, o.ren f) :: renOb f r

def kills : List Nat → St → St
  | [], s => s
  | e :: r, s => kills r (s.map (TV.kill e))

def delN : List Nat → List (Nat × Obj) → List (Nat × Obj)
  | [], l => l
  | n :: r, l => delN r (del n l)

def TSh.sz : TSh → Nat
  | .dead m => m
  | .sc _ k => k.sz
  | .pr a b => a.sz + b.sz
  | .un => 0
  | _ => 1
/-- The names at which two tell of the same value. -/
def colH : TSh → TV → List (Nat × Nat) → List (Nat × Nat)
  | .al c, .al n, l => (c, n) :: l
  | .bp c, .bp n [], l => (c, n) :: l
  | .pr a b, v, l => match split v with | some p => if a.sz = p.1.sz then colH b p.2 (colH a p.1 l) else l | none => l
  | _, _, l => l

section
variable {P : Program} {T : Nat → K} {w w' : World} {w0 : W0} {F F' N : Nat → Prop} {g g' : G} {s : St} {a : Act} {base : Nat}

theorem hasT_types {q : Nat} : ∀ {k : K}, k.hasT q = true → q ∈ k.types := by
  intro k
  induction k with
  | sl e k ih => intro h; simp only [K.hasT, Bool.or_eq_true, beq_iff_eq] at h; simp only [K.types, List.mem_cons]; exact h.imp id ih
  | arr n k ih => exact ih
  | pr a b iha ihb => intro h; simp only [K.hasT, Bool.or_eq_true] at h; simp only [K.types, List.mem_append]; exact h.imp iha ihb
  | _ => intro h; simp [K.hasT] at h

theorem Bt_inj {b x y : Nat} (h : Bt w b x) (k : Bt w b y) : x = y := by
  obtain ⟨c, f, h⟩ := h
  obtain ⟨c', f', k⟩ := k
  rw [h] at k
  simp only [Option.some.injEq, Go.Obj.cells.injEq] at k
  exact k.2.1

theorem OL_ty {e sz : Nat} {α : Type} {R : α → List Value → (Nat → Prop) → Prop} {xs : List α} {v : Value} {fp : Nat → Prop} {S : Nat → Prop}
    (hR : ∀ x ∈ xs, ∀ cs f, R x cs f → ∀ b bt, f b → Bt w b bt → S bt) (hS : S e) (h : OL w e sz R xs v fp) : ∀ b bt, fp b → Bt w b bt → S bt := by
  intro b bt hb hbt
  rcases h with ⟨_, _, h⟩ | ⟨g, cap, cur, f, ds, hv, hg, h1, h2, h3, h4, h5, h6, h7⟩
  · exact (h b hb).elim
  · rcases (h7 b).1 hb with rfl | ⟨j, hj, hf⟩
    · rw [Bt_inj hbt ⟨cur, _, hg⟩]; exact hS
    · exact hR _ (List.getElem_mem hj) _ _ (h4 j hj).1 b bt hf hbt

theorem O_ty : ∀ {k : K} {x : dn k} {cs : List Value} {fp : Nat → Prop}, O w k x cs fp → ∀ b bt, fp b → Bt w b bt → bt ∈ k.types := by
  intro k
  induction k with
  | sl e k ih =>
    intro x cs fp h
    obtain ⟨v, rfl, h⟩ := h
    exact OL_ty (S := fun q => q ∈ (K.sl e k).types) (fun x _ cs f hR b bt hb hbt => List.mem_cons_of_mem _ (ih hR b bt hb hbt)) List.mem_cons_self h
  | pr a b iha ihb =>
    intro x cs fp h i bt hi hbt
    obtain ⟨c1, c2, f1, f2, rfl, h1, h2, h3, h4⟩ := h
    rcases (h4 i).1 hi with hi | hi
    · exact List.mem_append_left _ (iha h1 i bt hi hbt)
    · exact List.mem_append_right _ (ihb h2 i bt hi hbt)
  | _ => intro x cs fp h b bt hb; exact (h.2 b hb).elim

theorem OR_ty {n e : Nat} {k : K} {deep : Bool} {xs : List (dn k)} (h : OR w F g n (.ls e k deep xs)) {b bt : Nat} (hb : g.fp n b) (hbt : Bt w b bt) : bt ∈ (K.sl e k).types := by
  refine OL_ty (S := fun q => q ∈ (K.sl e k).types) (fun x _ cs f hR b bt hb hbt => ?_) List.mem_cons_self h.1 b bt hb hbt
  cases deep with
  | true => exact List.mem_cons_of_mem _ (O_ty (by simpa [LR] using hR) b bt hb hbt)
  | false => simp only [LR, Bool.false_eq_true, if_false] at hR; exact (hR.2 b hb).elim

/-! #### Kills -/
theorem kill_keeps (e q : Nat) : ∀ {v : TV}, v.safe (fun x => x = q) False → (v.kill e).safe (fun x => x = q) False := by
  intro v
  induction v with
  | sc ext k x =>
    intro h
    cases ext with
    | true => trivial
    | false =>
      simp only [TV.kill]
      split
      · trivial
      · exact h
  | cp ext e' k x =>
    intro h
    cases ext with
    | true => trivial
    | false =>
      simp only [TV.kill]
      split
      · trivial
      · exact h
  | inn => intro h; trivial
  | pr a b iha ihb => intro h; exact ⟨iha h.1, ihb h.2⟩
  | tc a b iha ihb => intro h; exact ⟨iha h.1, ihb h.2⟩
  | fn f c ih => intro h; exact ih h
  | _ => intro h; exact h

theorem safe_list {es : List Nat} : ∀ {v : TV}, (∀ e ∈ es, v.safe (fun q => q = e) False) → v.safe (fun q => q ∈ es) (es = []) := by
  intro v
  induction v with
  | sc ext k x =>
    intro h
    cases ext with
    | true => trivial
    | false => intro q hq hm; exact h q hm q hq rfl
  | cp ext e' k x =>
    intro h
    cases ext with
    | true => trivial
    | false => exact ⟨fun hm => (h _ hm).1 rfl, fun q hq hm => (h q hm).2 q hq rfl⟩
  | inn =>
    intro h
    cases es with
    | nil => rfl
    | cons e r => exact (h e List.mem_cons_self).elim
  | pr a b iha ihb => intro h; exact ⟨iha fun e he => (h e he).1, ihb fun e he => (h e he).2⟩
  | tc a b iha ihb => intro h; exact ⟨iha fun e he => (h e he).1, ihb fun e he => (h e he).2⟩
  | fn f c ih => intro h; exact ih h
  | _ => intro h; trivial

theorem kills_inv : ∀ {es : List Nat} {s : St}, Inv F w0 N s a w g → Inv F w0 N (kills es s) a w g ∧ (kills es s).nt = s.nt ∧ (kills es s).fx = s.fx ∧ (kills es s).nx = s.nx := by
  intro es
  induction es with
  | nil => intro s I; exact ⟨I, rfl, rfl, rfl⟩
  | cons e r ih =>
    intro s I
    obtain ⟨h1, h2, h3, h4⟩ := ih (inv_map I (weak_kill (w := w) (F := F) (N := N) (g := g) e))
    exact ⟨h1, h2, h3, h4⟩

theorem kills_tm : ∀ {es : List Nat} {s : St} {t : Nat} {v : TV}, lk (kills es s).tm t = some v → (∀ e ∈ es, v.safe (fun q => q = e) False) ∧ ∀ q, (∀ v', lk s.tm t = some v' → v'.safe (fun x => x = q) False) → v.safe (fun x => x = q) False := by
  intro es
  induction es with
  | nil => intro s t v h; exact ⟨fun e he => (by cases he), fun q hq => hq v h⟩
  | cons e r ih =>
    intro s t v h
    obtain ⟨h1, h2⟩ := ih (s := s.map (TV.kill e)) h
    have key : ∀ q, (q = e ∨ ∀ v', lk s.tm t = some v' → v'.safe (fun x => x = q) False) → ∀ v', lk (s.map (TV.kill e)).tm t = some v' → v'.safe (fun x => x = q) False := by
      intro q hq v' hv'
      simp only [St.map, lk_mapL, Option.map_eq_some_iff] at hv'
      obtain ⟨v0, hv0, rfl⟩ := hv'
      rcases hq with rfl | hq
      · exact kill_safe q v0
      · exact kill_keeps e q (hq v0 hv0)
    refine ⟨fun q hq => ?_, fun q hq => h2 q (key q (.inr hq))⟩
    rcases List.mem_cons.1 hq with rfl | hq
    · exact h2 q (key q (.inl rfl))
    · exact h1 q hq

theorem kills_ob : ∀ {es : List Nat} {s : St} {n : Nat} {o : Obj}, lk (kills es s).ob n = some o → (∃ o', lk s.ob n = some o' ∧ (match o' with | .bx _ => ∃ v, o = .bx v | _ => o = o')) ∧ ∀ v, o = .bx v →
    (∀ e ∈ es, v.safe (fun q => q = e) False) ∧ ∀ q, (∀ v', lk s.ob n = some (.bx v') → v'.safe (fun x => x = q) False) → v.safe (fun x => x = q) False := by
  intro es
  induction es with
  | nil =>
    intro s n o h
    refine ⟨⟨o, h, ?_⟩, fun v hv => ?_⟩
    · cases o with
      | bx v => exact ⟨v, rfl⟩
      | ls => rfl
    · subst hv; exact ⟨fun e he => (by cases he), fun q hq => hq v h⟩
  | cons e r ih =>
    intro s n o h
    obtain ⟨⟨o1, h1, h2⟩, h3⟩ := ih (s := s.map (TV.kill e)) h
    simp only [St.map, lk_mapL, Option.map_eq_some_iff] at h1
    obtain ⟨o0, h0, rfl⟩ := h1
    refine ⟨⟨o0, h0, ?_⟩, fun v hv => ?_⟩
    · cases o0 with
      | bx v => exact h2
      | ls => exact h2
    · obtain ⟨p1, p2⟩ := h3 v hv
      have key : ∀ q, (q = e ∨ ∀ v', lk s.ob n = some (.bx v') → v'.safe (fun x => x = q) False) → ∀ v', lk (s.map (TV.kill e)).ob n = some (.bx v') → v'.safe (fun x => x = q) False := by
        intro q hq v' hv'
        simp only [St.map, lk_mapL, h0, Option.map_some, Option.some.injEq] at hv'
        cases o0 with
        | ls => simp [Obj.mapT] at hv'
        | bx v0 =>
          simp only [Obj.mapT, Obj.bx.injEq] at hv'
          subst hv'
          rcases hq with rfl | hq
          · exact kill_safe q v0
          · exact kill_keeps e q (hq v0 h0)
      refine ⟨fun q hq => ?_, fun q hq => p2 q (key q (.inr hq))⟩
      rcases List.mem_cons.1 hq with rfl | hq
      · exact p2 q (key q (.inl rfl))
      · exact p1 q hq

theorem kills_safe {es : List Nat} (hr : ∀ e ∈ es, rowsOk e s.ob = true) : (∀ t v, lk (kills es s).tm t = some v → v.safe (fun q => q ∈ es) (es = [])) ∧ ∀ n o, lk (kills es s).ob n = some o → o.safe (fun q => q ∈ es) (es = []) := by
  refine ⟨fun t v h => safe_list (kills_tm h).1, fun n o h => ?_⟩
  obtain ⟨⟨o', h1, h2⟩, h3⟩ := kills_ob h
  cases o with
  | bx v => exact safe_list (h3 v rfl).1
  | ls e k deep xs =>
    cases o' with
    | bx v => obtain ⟨v, hv⟩ := h2; cases hv
    | ls e' k' deep' xs' =>
      injection h2 with a1 a2 a3 a4
      subst a1 a2 a3
      by_cases hd : deep = true
      · exact .inl hd
      · refine .inr fun q hq hm => ?_
        have := rowsOk_lk (hr q hm) n _ h1
        simp only at this
        rcases this with h | h
        · exact hd h
        · rw [h] at hq; cases hq

theorem lk_delN : ∀ {ns : List Nat} {l : List (Nat × Obj)} {m : Nat} {o : Obj}, lk (delN ns l) m = some o → lk l m = some o ∧ m ∉ ns := by
  intro ns
  induction ns with
  | nil => intro l m o h; exact ⟨h, by simp⟩
  | cons n r ih =>
    intro l m o h
    obtain ⟨h1, h2⟩ := ih h
    rw [lk_del] at h1
    split at h1
    · cases h1
    · rename_i hne
      exact ⟨h1, by simp only [List.mem_cons, not_or]; exact ⟨hne, h2⟩⟩

/-! #### Names anew -/
theorem ren_agg {f : Nat → Nat} : ∀ {v : TV}, (v.ren f).agg = v.agg ∧ live (v.ren f) = live v := by
  intro v; cases v <;> exact ⟨rfl, rfl⟩

theorem CT_ren {f : Nat → Nat} {nx : Nat} {M : Nat → Prop} (hh : ∀ c, c < nx → g.hd (f c) = g'.hd c ∧ M (f c)) : ∀ {t : TSh} {r : List K} {d : HL (t.ks r)} {cs : List Value}, t.ret = true → (t.fill r d).1.nms (fun c => c < nx) → CT w F' g' (t.fill r d).1 cs →
    CT w F g ((t.fill r d).1.ren f) cs ∧ ((t.fill r d).1.ren f).nms M := by
  intro t
  induction t with
  | sc ext k => intro r d cs hr hn h; exact ⟨C_flat hr h, trivial⟩
  | al c =>
    intro r d cs hr hn h
    simp only [TSh.fill, CT, TV.ren, TV.nms] at hn h ⊢
    rw [(hh c hn).1]
    exact ⟨h, (hh c hn).2⟩
  | pr ta tb iha ihb =>
    intro r d cs hr hn h
    simp only [TSh.ret, Bool.and_eq_true] at hr
    obtain ⟨c1, c2, rfl, h1, h2⟩ := h
    obtain ⟨p1, p2⟩ := iha hr.1 hn.1 h1
    obtain ⟨q1, q2⟩ := ihb hr.2 hn.2 h2
    exact ⟨⟨c1, c2, rfl, p1, q1⟩, p2, q2⟩
  | un => intro r d cs hr hn h; exact ⟨h, trivial⟩
  | dead m => intro r d cs hr hn h; exact ⟨h, trivial⟩
  | _ => intro r d cs hr; simp [TSh.ret] at hr

theorem VT_ren {f : Nat → Nat} {nx : Nat} {M : Nat → Prop} (hh : ∀ c, c < nx → g.hd (f c) = g'.hd c ∧ M (f c)) {t : TSh} {r : List K} {d : HL (t.ks r)} {u : Value} (hr : t.ret = true) (hn : (t.fill r d).1.nms (fun c => c < nx)) (h : VT w F' g' (t.fill r d).1 u) :
    VT w F g ((t.fill r d).1.ren f) u ∧ ((t.fill r d).1.ren f).nms M := by
  obtain ⟨ha', hl'⟩ := ren_agg (f := f) (v := (t.fill r d).1)
  by_cases hl : live (t.fill r d).1 = true
  · cases ha : (t.fill r d).1.agg with
    | true =>
      obtain ⟨cs, rfl, hc⟩ := VT_agg h ha
      obtain ⟨p1, p2⟩ := CT_ren (g := g) (F := F) hh hr hn hc
      have := VT_of_CT p1 (fun hf => by rw [ha', ha] at hf; cases hf)
      rw [ha', ha] at this
      exact ⟨by simpa [valOf] using this, p2⟩
    | false =>
      have hc := VT_leaf h ha hl
      obtain ⟨p1, p2⟩ := CT_ren (g := g) (F := F) hh hr hn hc
      have := VT_of_CT p1 (fun _ => rfl)
      rw [ha', ha] at this
      exact ⟨by simpa [valOf] using this, p2⟩
  · cases t with
    | dead m => exact ⟨trivial, trivial⟩
    | _ => simp [TSh.fill, live] at hl

theorem fill_sz : ∀ {t : TSh} {r : List K} {d : HL (t.ks r)}, (t.fill r d).1.sz = t.sz := by
  intro t
  induction t with
  | pr a b iha ihb => intro r d; simp only [TSh.fill, TV.sz, TSh.sz, iha, ihb]
  | _ => intro r d; rfl

theorem colH_CT {nx : Nat} : ∀ {t : TSh} {v : TV} {r : List K} {d : HL (t.ks r)} {cs : List Value} {l : List (Nat × Nat)}, CT w F g v cs → CT w' F' g' (t.fill r d).1 cs → v.nms (fun n => n < nx) →
    (∀ q ∈ l, g'.hd q.1 = g.hd q.2 ∧ q.2 < nx) → ∀ q ∈ colH t v l, g'.hd q.1 = g.hd q.2 ∧ q.2 < nx := by
  intro t
  induction t with
  | al c =>
    intro v r d cs l h h' hn hl
    cases v with
    | al n =>
      simp only [colH, List.mem_cons]
      rintro q (rfl | hq)
      · have := h.1.symm.trans h'.1
        simp only [List.cons.injEq, and_true] at this
        exact ⟨this.symm, hn⟩
      · exact hl q hq
    | _ => exact hl
  | bp c =>
    intro v r d cs l h h' hn hl
    cases v with
    | bp n path =>
      cases path with
      | nil =>
        simp only [colH, List.mem_cons]
        rintro q (rfl | hq)
        · obtain ⟨b, h1, _, h2⟩ := h
          obtain ⟨b', h3, _, h4⟩ := h'
          rw [h2] at h4
          simp only [List.cons.injEq, and_true, Value.pointer.injEq, Option.some.injEq, Addr.mk.injEq] at h4
          refine ⟨?_, hn⟩
          rw [h1, h3, h4]
        · exact hl q hq
      | cons _ _ => exact hl
    | _ => exact hl
  | pr ta tb iha ihb =>
    intro v r d cs l h h' hn hl
    simp only [colH]
    split
    · rename_i p hs
      obtain ⟨va, vb⟩ := p
      split
      · rename_i hsz
        obtain ⟨c1, c2, rfl, h1, h2⟩ := split_CT h hs
        obtain ⟨d1, d2, he, h3, h4⟩ := h'
        have hlen : c1.length = d1.length := by rw [CT_len h1, CT_len h3, fill_sz]; exact hsz.symm
        obtain ⟨rfl, rfl⟩ := List.append_inj he hlen
        have hnp : va.nms (fun n => n < nx) ∧ vb.nms (fun n => n < nx) := by
          cases v with
          | pr x y => simp only [split, Option.some.injEq, Prod.mk.injEq] at hs; obtain ⟨rfl, rfl⟩ := hs; exact hn
          | sc e k x =>
            cases k with
            | pr ka kb => simp only [split, Option.some.injEq, Prod.mk.injEq] at hs; obtain ⟨rfl, rfl⟩ := hs; exact ⟨trivial, trivial⟩
            | _ => simp [split] at hs
          | _ => simp [split] at hs
        exact ihb h2 h4 hnp.2 (iha h1 h3 hnp.1 hl)
      · exact hl
    · exact hl
  | _ => intro v r d cs l h h' hn hl; exact hl

theorem colH_VT {nx : Nat} {t : TSh} {v : TV} {r : List K} {d : HL (t.ks r)} {u : Value} {l : List (Nat × Nat)} (h : VT w F g v u) (h' : VT w' F' g' (t.fill r d).1 u) (hn : v.nms (fun n => n < nx))
    (hl : ∀ q ∈ l, g'.hd q.1 = g.hd q.2 ∧ q.2 < nx) : ∀ q ∈ colH t v l, g'.hd q.1 = g.hd q.2 ∧ q.2 < nx := by
  cases t with
  | al c =>
    cases v with
    | al n => exact colH_CT (t := .al c) (v := .al n) (r := r) (d := d) (VT_leaf h rfl rfl) (VT_leaf h' rfl rfl) hn hl
    | _ => exact hl
  | bp c =>
    cases v with
    | bp n path => exact colH_CT (t := .bp c) (v := .bp n path) (r := r) (d := d) (VT_leaf h rfl rfl) (VT_leaf h' rfl rfl) hn hl
    | _ => exact hl
  | pr ta tb =>
    cases hs : split v with
    | none => simp only [colH, hs]; exact hl
    | some p =>
      obtain ⟨ha, _⟩ := split_agg hs
      obtain ⟨cs, rfl, hc⟩ := VT_agg h ha
      obtain ⟨cs', he, hc'⟩ := VT_agg h' (show (TSh.fill (.pr ta tb) r d).1.agg = true from rfl)
      simp only [Value.agg.injEq] at he
      have : cs = cs' := by simpa using congrArg Array.toList he
      subst this
      exact colH_CT hc hc' hn hl
  | _ => exact hl

end
end Go.Vm

/- The value machine, part 29j: the state behind a call that was handed things. -/
set_option linter.unusedVariables false
set_option linter.unusedSimpArgs false
namespace Go.Vm

def OSh.isBx : OSh → Bool
  | .bx _ => true
  | _ => false
def sgm (nx : Nat) (σ : List (Nat × Nat)) (c : Nat) : Nat := match lk σ c with | some n => n | none => nx + c
def colHs (nres : Nat) (lt : Nat → Option TV) : List (Nat × TSh) → List (Nat × Nat)
  | [] => []
  | (k, t) :: r => match (if nres ≤ k then lt (k - nres) else none) with | some v => colH t v (colHs nres lt r) | none => colHs nres lt r
def hTypes : List (Nat × OSh) → List Nat
  | [] => []
  | (_, .bx _) :: r => hTypes r
  | (_, .ls e k _) :: r => (K.sl e k).types ++ hTypes r

/-- May a caller take over what comes back? -/
def hOk (e : EntH) (s : St) (ρ σ : List (Nat × Nat)) : Bool :=
  (e.rsh.tm.all fun q => q.2.nmOk e.rsh.nx) && ((e.rsh.tm.take e.nres).all fun q => q.2.ret) && decide ((e.rsh.tm.take e.nres).map (·.1) = List.range e.nres) && decide ((e.rsh.tm.map (·.1)).Nodup) &&
  (e.rsh.ob.all fun q => decide (q.1 < e.rsh.nx) && match q.2 with
    | .ls _ _ deep => deep
    | .bx t => t.ret && t.nmOk e.rsh.nx && e.psh.ob.any fun p => p.2.isBx && decide (lk σ q.1 = some (look ρ p.1))) &&
  (e.psh.ob.all fun p => !p.2.isBx || e.rsh.ob.any fun q => q.2.isBx && decide (lk σ q.1 = some (look ρ p.1))) &&
  (e.rsh.ob.all fun q => e.rsh.ob.all fun p => !decide (sgm s.nx σ q.1 = sgm s.nx σ p.1) || decide (q.1 = p.1)) &&
  (hTypes e.psh.ob).all fun t => rowsOk t s.ob

def aftH (e : EntH) (s : St) (ρ σ : List (Nat × Nat)) (d : HL e.rsh.ks) : St × TV :=
  ({ s with tm := (kills (hTypes e.psh.ob) s).tm, ob := renOb (sgm s.nx σ) (e.rsh.fill 0 d).ob ++ delN (e.psh.ob.map fun q => look ρ q.1) (kills (hTypes e.psh.ob) s).ob, nx := s.nx + e.rsh.nx },
    (res1 ((e.rsh.fill 0 d).tm.take e.nres)).ren (sgm s.nx σ))

section
variable {P : Program} {T : Nat → K} {w w' : World} {w0 : W0} {F F' N : Nat → Prop} {g g' : G} {s : St} {a : Act} {base : Nat}

/-- The results' values, by the slots that hold them. -/
theorem res_VT (tmps : Array Value) : ∀ {l : List (Nat × TV)}, (∀ q ∈ l, VT w F g q.2 (tmps.getD q.1 undef)) → VT w F g (resT l) (.tuple (l.map fun q => tmps.getD q.1 undef).toArray) := by
  intro l
  induction l with
  | nil => intro _; rfl
  | cons p r ih =>
    intro h
    obtain ⟨n, v⟩ := p
    exact ⟨_, _, rfl, h (n, v) List.mem_cons_self, ih fun q hq => h q (List.mem_cons_of_mem _ hq)⟩

theorem res1_VT (tmps : Array Value) {l : List (Nat × TV)} (h : ∀ q ∈ l, VT w F g q.2 (tmps.getD q.1 undef)) :
    VT w F g (res1 l) (match l.map fun q => tmps.getD q.1 undef with | [v] => v | vs => .tuple vs.toArray) := by
  match l, h with
  | [], h => rfl
  | [(n, v)], h => exact h (n, v) List.mem_cons_self
  | (n, v) :: (m, u) :: r, h => exact res_VT tmps h

theorem lk_mem {α : Type} : ∀ {l : List (Nat × α)}, (l.map (·.1)).Nodup → ∀ q ∈ l, lk l q.1 = some q.2 := by
  intro l
  induction l with
  | nil => intro _ q hq; cases hq
  | cons p r ih =>
    intro hn q hq
    obtain ⟨m, x⟩ := p
    simp only [List.map_cons, List.nodup_cons] at hn
    simp only [lk]
    rcases List.mem_cons.1 hq with rfl | hq
    · simp
    · rw [if_neg]
      · exact ih hn.2 q hq
      · intro he
        exact hn.1 (he ▸ List.mem_map.2 ⟨q, hq, rfl⟩)

theorem tmfill_fst : ∀ {l : List (Nat × TSh)} {r : List K} {d : HL (tmks l r)}, (tmfill l r d).1.map (·.1) = l.map (·.1) := by
  intro l
  induction l with
  | nil => intro r d; rfl
  | cons p l ih => intro r d; obtain ⟨n, t⟩ := p; simp only [tmfill, List.map_cons, ih]

theorem tmfill_mem' : ∀ {l : List (Nat × TSh)} {r : List K} {d : HL (tmks l r)}, ∀ q ∈ l, ∃ r' d', (q.1, (TSh.fill q.2 r' d').1) ∈ (tmfill l r d).1 := by
  intro l
  induction l with
  | nil => intro r d q hq; cases hq
  | cons p l ih =>
    intro r d q hq
    obtain ⟨n, t⟩ := p
    rcases List.mem_cons.1 hq with rfl | hq
    · exact ⟨_, _, List.mem_cons_self⟩
    · obtain ⟨r', d', h⟩ := ih (r := r) (d := (t.fill (tmks l r) d).2) q hq
      exact ⟨r', d', List.mem_cons_of_mem _ h⟩

theorem tmfill_take : ∀ {l : List (Nat × TSh)} {r : List K} {d : HL (tmks l r)} {n : Nat}, ∀ q ∈ (tmfill l r d).1.take n, ∃ t r' d', (q.1, t) ∈ l.take n ∧ q.2 = (TSh.fill t r' d').1 := by
  intro l
  induction l with
  | nil => intro r d n q hq; simp [tmfill] at hq
  | cons p l ih =>
    intro r d n q hq
    obtain ⟨m, t⟩ := p
    cases n with
    | zero => simp at hq
    | succ n =>
      simp only [tmfill, List.take_succ_cons, List.mem_cons] at hq ⊢
      rcases hq with rfl | hq
      · exact ⟨t, _, _, .inl rfl, rfl⟩
      · obtain ⟨t', r', d', h1, h2⟩ := ih q hq
        exact ⟨t', r', d', .inr h1, h2⟩

theorem obfill_lk : ∀ {l : List (Nat × OSh)} {r : List K} {d : HL (obks l r)} {c : Nat} {o : Obj}, lk (obfill l r d).1 c = some o → ∃ t r' d', (c, t) ∈ l ∧ o = (OSh.fill t r' d').1 := by
  intro l
  induction l with
  | nil => intro r d c o h; simp [obfill, lk] at h
  | cons p l ih =>
    intro r d c o h
    obtain ⟨n, t⟩ := p
    simp only [obfill, lk] at h
    split at h
    · rename_i he
      subst he
      simp only [Option.some.injEq] at h
      exact ⟨t, _, _, List.mem_cons_self, h.symm⟩
    · obtain ⟨t', r', d', h1, h2⟩ := ih h
      exact ⟨t', r', d', List.mem_cons_of_mem _ h1, h2⟩

theorem obfill_some : ∀ {l : List (Nat × OSh)} {r : List K} {d : HL (obks l r)} {c : Nat} {t : OSh}, (c, t) ∈ l → ∃ o, lk (obfill l r d).1 c = some o := by
  intro l
  induction l with
  | nil => intro r d c t h; cases h
  | cons p l ih =>
    intro r d c t h
    obtain ⟨n, t0⟩ := p
    simp only [obfill, lk]
    split
    · exact ⟨_, rfl⟩
    · rename_i hne
      rcases List.mem_cons.1 h with h | h
      · injection h with h _; exact absurd h hne
      · exact ih h

theorem lk_renOb {f : Nat → Nat} : ∀ {l : List (Nat × Obj)} {n : Nat} {o : Obj}, lk (renOb f l) n = some o → ∃ c o', lk l c = some o' ∧ n = f c ∧ o = o'.ren f := by
  intro l
  induction l with
  | nil => intro n o h; simp [renOb, lk] at h
  | cons p r ih =>
    intro n o h
    obtain ⟨m, x⟩ := p
    simp only [renOb, lk] at h
    split at h
    · rename_i he
      simp only [Option.some.injEq] at h
      exact ⟨m, x, by simp [lk], he, h.symm⟩
    · rename_i hne
      obtain ⟨c, o', h1, h2, h3⟩ := ih h
      refine ⟨c, o', ?_, h2, h3⟩
      simp only [lk]
      rw [if_neg (by rintro rfl; exact hne h2)]
      exact h1

theorem lk_renOb_none {f : Nat → Nat} : ∀ {l : List (Nat × Obj)} {n c : Nat} {o : Obj}, lk (renOb f l) n = none → lk l c = some o → f c ≠ n := by
  intro l
  induction l with
  | nil => intro n c o _ h; simp [lk] at h
  | cons p r ih =>
    intro n c o h h'
    obtain ⟨m, x⟩ := p
    simp only [renOb, lk] at h h'
    split at h
    · cases h
    · rename_i hne
      split at h'
      · rename_i he; subst he; exact fun e => hne e.symm
      · exact ih h h'

theorem lk_mem_of {α : Type} : ∀ {l : List (Nat × α)} {n : Nat} {x : α}, lk l n = some x → (n, x) ∈ l := by
  intro l
  induction l with
  | nil => intro n x h; simp [lk] at h
  | cons p r ih =>
    intro n x h
    obtain ⟨m, y⟩ := p
    simp only [lk] at h
    split at h
    · rename_i he; subst he; simp only [Option.some.injEq] at h; subst h; exact List.mem_cons_self
    · exact List.mem_cons_of_mem _ (ih h)

theorem res1_ren {f : Nat → Nat} (l : List (Nat × TV)) : (res1 l).ren f = res1 (l.map fun q => (q.1, q.2.ren f)) := by
  have hr : ∀ l : List (Nat × TV), (resT l).ren f = resT (l.map fun q => (q.1, q.2.ren f)) := by
    intro l
    induction l with
    | nil => rfl
    | cons p r ih => obtain ⟨n, v⟩ := p; simp only [resT, TV.ren, List.map_cons, ih]
  match l with
  | [] => rfl
  | [(n, v)] => rfl
  | (n, v) :: (m, u) :: r => exact hr _

theorem colHs_hd {nx nres : Nat} {lt : Nat → Option TV} {L : List (Nat × TSh)} (H : ∀ q ∈ L, nres ≤ q.1 → ∀ v, lt (q.1 - nres) = some v → ∃ u r d, VT w F g v u ∧ VT w' F' g' (TSh.fill q.2 r d).1 u ∧ v.nms (fun n => n < nx)) :
    ∀ {l : List (Nat × TSh)}, (∀ q ∈ l, q ∈ L) → ∀ q ∈ colHs nres lt l, g'.hd q.1 = g.hd q.2 ∧ q.2 < nx := by
  intro l
  induction l with
  | nil => intro _ q hq; cases hq
  | cons p r ih =>
    intro hl
    obtain ⟨k, t⟩ := p
    simp only [colHs]
    have ih' := ih (fun q hq => hl q (List.mem_cons_of_mem _ hq))
    split
    · rename_i v hv
      split at hv
      · rename_i hk
        obtain ⟨u, r', d', h1, h2, h3⟩ := H (k, t) (hl _ List.mem_cons_self) hk v hv
        exact colH_VT h1 h2 h3 ih'
      · cases hv
    · exact ih'

end
end Go.Vm

/- The value machine, part 29k: a call that was handed things, as the caller sees it. -/
set_option linter.unusedVariables false
set_option linter.unusedSimpArgs false
namespace Go.Vm

section
variable {P : Program} {T : Nat → K} {w w' : World} {w0 : W0} {F F' N : Nat → Prop} {g g' : G} {s : St} {a : Act} {base : Nat}

theorem hTypes_mem : ∀ {l : List (Nat × OSh)} {c e : Nat} {k : K} {deep : Bool} {q : Nat}, (c, OSh.ls e k deep) ∈ l → q ∈ (K.sl e k).types → q ∈ hTypes l := by
  intro l
  induction l with
  | nil => intro c e k deep q h; cases h
  | cons p r ih =>
    intro c e k deep q h hq
    obtain ⟨m, o⟩ := p
    rcases List.mem_cons.1 h with h | h'
    · injection h with _ h
      subst h
      simp only [hTypes, List.mem_append]
      exact .inl hq
    · cases o with
      | bx t => simp only [hTypes]; exact ih h' hq
      | ls e' k' d' => simp only [hTypes, List.mem_append]; exact .inr (ih h' hq)

theorem leaveH (I : Inv F w0 (Nm s) s a w g) {e : EntH} {ρ : List (Nat × Nat)} {x : HL e.psh.ks} {d : HL e.rsh.ks} {args : Array Value} {tm1 : List (Nat × TV)} {vs : List Value}
    (ht : ∀ t v, lk tm1 t = some v → ∃ u, args[t]? = some u ∧ VT w F g v u ∧ v.nms (Nm s)) (hm : mtS e.psh ρ { nt := args.size, tm := tm1, ob := s.ob, nx := s.nx } = some x)
    (hk : hOk e s ρ (colHs e.nres (lk tm1) e.rsh.tm) = true) (hvl : vs.length = e.nres)
    (J : Inv (FH w g ρ e.psh.ob) ⟨w, fun t => args[t]?⟩ (Nm (e.rsh.fill (e.nres + args.size) d)) (e.rsh.fill (e.nres + args.size) d) ⟨vs.toArray ++ args, []⟩ w' g') :
    ∃ g2, Inv F w0 (Nm (aftH e s ρ (colHs e.nres (lk tm1) e.rsh.tm) d).1) (aftH e s ρ (colHs e.nres (lk tm1) e.rsh.tm) d).1 a w' g2 ∧ VT w' F g2 (aftH e s ρ (colHs e.nres (lk tm1) e.rsh.tm) d).2 (resVal vs) ∧
      (aftH e s ρ (colHs e.nres (lk tm1) e.rsh.tm) d).2.nms (Nm (aftH e s ρ (colHs e.nres (lk tm1) e.rsh.tm) d).1) := by
  have hall : ∀ q ∈ e.psh.ob, (∃ t v, q.2 = .bx t ∧ lk s.ob (look ρ q.1) = some (.bx v)) ∨ ∃ e' k deep xs, q.2 = .ls e' k deep ∧ lk s.ob (look ρ q.1) = some (.ls e' k deep xs) := by
    unfold mtS at hm
    split at hm
    · simp only [Option.bind_eq_some_iff] at hm
      obtain ⟨y, hob, _⟩ := hm
      exact mtOb_all hob
    · cases hm
  have hF := FH_F I (ρ := ρ) (l := e.psh.ob) (fun q hq => by rcases hall q hq with ⟨_, v, _, h⟩ | ⟨_, _, _, _, _, h⟩ <;> exact ⟨_, h⟩)
  simp only [hOk, Bool.and_eq_true, decide_eq_true_eq] at hk
  obtain ⟨⟨⟨⟨⟨⟨⟨k1, k2⟩, k3⟩, k4⟩, k5⟩, k6⟩, k7⟩, k8⟩ := hk
  have hkey : ((tmfill e.rsh.tm (obks e.rsh.ob []) d).1.map (·.1)).Nodup := by rw [tmfill_fst]; exact k4
  -- the names
  have hσ : ∀ q ∈ colHs e.nres (lk tm1) e.rsh.tm, g'.hd q.1 = g.hd q.2 ∧ q.2 < s.nx := by
    refine colHs_hd (w := w) (w' := w') (F := F) (F' := FH w g ρ e.psh.ob) (L := e.rsh.tm) (fun q hq hle v hv => ?_) (fun q hq => hq)
    obtain ⟨u, h1, h2, h3⟩ := ht _ v hv
    obtain ⟨r', d', hmem⟩ := tmfill_mem' (r := obks e.rsh.ob []) (d := d) q hq
    have hl := lk_mem hkey _ hmem
    obtain ⟨u', h4, h5⟩ := J.tm q.1 _ hl
    have : u' = u := by
      have hs : (vs.toArray ++ args)[q.1]? = args[q.1 - e.nres]? := by
        rw [Array.getElem?_append_right (by simp [hvl]; exact hle)]
        simp [hvl]
      rw [hs, h1] at h4
      simpa using h4.symm
    subst this
    exact ⟨u', r', d', h2, h5, h3⟩
  generalize hσd : colHs e.nres (lk tm1) e.rsh.tm = σ at *
  have hsg : ∀ c, (∃ n, lk σ c = some n ∧ sgm s.nx σ c = n ∧ n < s.nx ∧ g'.hd c = g.hd n) ∨ (lk σ c = none ∧ sgm s.nx σ c = s.nx + c) := by
    intro c
    cases h : lk σ c with
    | none => exact .inr ⟨rfl, by simp only [sgm, h]⟩
    | some n =>
      obtain ⟨h1, h2⟩ := hσ _ (lk_mem_of h)
      exact .inl ⟨n, rfl, by simp only [sgm, h], h2, h1⟩
  generalize hf : sgm s.nx σ = f at *
  let nm := e.rsh.ob.map (·.1)
  let g2 : G := { hd := fun n => if n < s.nx then g.hd n else g'.hd (n - s.nx), fp := fun n => match nm.find? (fun c => decide (f c = n)) with | some c => g'.fp c | none => g.fp n, Bx := g.Bx }
  have hhd : ∀ c, g2.hd (f c) = g'.hd c := by
    intro c
    rcases hsg c with ⟨n, _, h2, h3, h4⟩ | ⟨_, h2⟩
    · simp only [g2]; rw [h2, if_pos h3, h4]
    · simp only [g2]; rw [h2, if_neg (by omega)]; congr 1; omega
  have hinj : ∀ c ∈ nm, ∀ c' ∈ nm, f c = f c' → c = c' := by
    intro c hc c' hc' he
    simp only [nm, List.mem_map] at hc hc'
    obtain ⟨q, hq, rfl⟩ := hc
    obtain ⟨q', hq', rfl⟩ := hc'
    simp only [List.all_eq_true, Bool.or_eq_true, Bool.not_eq_true', decide_eq_false_iff_not, decide_eq_true_eq] at k7
    rcases k7 q hq q' hq' with h | h
    · exact absurd he h
    · exact h
  have hfp : ∀ c ∈ nm, g2.fp (f c) = g'.fp c := by
    intro c hc
    simp only [g2]
    cases hfd : nm.find? (fun c' => decide (f c' = f c)) with
    | none => rw [List.find?_eq_none] at hfd; exact absurd (by simp) (hfd c hc)
    | some c' =>
      have h1 := List.find?_some hfd
      have h2 := List.mem_of_find?_eq_some hfd
      simp only [decide_eq_true_eq] at h1
      rw [hinj c' h2 c hc h1]
  have hfpo : ∀ n, (∀ c ∈ nm, f c ≠ n) → g2.fp n = g.fp n := by
    intro n hn
    simp only [g2]
    cases hfd : nm.find? (fun c' => decide (f c' = n)) with
    | none => rfl
    | some c' =>
      have h1 := List.find?_some hfd
      simp only [decide_eq_true_eq] at h1
      exact absurd h1 (hn c' (List.mem_of_find?_eq_some hfd))
  -- objects that come back
  have hfl : (e.rsh.fill (e.nres + args.size) d).ob = (e.rsh.fill 0 d).ob := rfl
  have hnew : ∀ c o, lk (e.rsh.fill 0 d).ob c = some o → c ∈ nm ∧ ∃ t r' d', (c, t) ∈ e.rsh.ob ∧ o = (OSh.fill t r' d').1 := by
    intro c o h
    obtain ⟨t, r', d', h1, h2⟩ := obfill_lk h
    exact ⟨List.mem_map.2 ⟨_, h1, rfl⟩, t, r', d', h1, h2⟩
  have hcnx : ∀ c ∈ nm, c < e.rsh.nx := by
    intro c hc
    simp only [nm, List.mem_map] at hc
    obtain ⟨q, hq, rfl⟩ := hc
    have h := List.all_eq_true.1 k5 _ hq
    simp only [Bool.and_eq_true, decide_eq_true_eq] at h
    exact h.1
  have hM : ∀ c, c < e.rsh.nx → g2.hd (f c) = g'.hd c ∧ f c < s.nx + e.rsh.nx := by
    intro c hc
    refine ⟨hhd c, ?_⟩
    rcases hsg c with ⟨n, _, h2, h3, _⟩ | ⟨_, h2⟩ <;> omega
  have hbxret : ∀ c t, (c, OSh.bx t) ∈ e.rsh.ob → t.ret = true ∧ t.nmOk e.rsh.nx = true ∧ ∃ p ∈ e.psh.ob, p.2.isBx = true ∧ lk σ c = some (look ρ p.1) := by
    intro c t hc
    have h := List.all_eq_true.1 k5 _ hc
    simp only [Bool.and_eq_true, decide_eq_true_eq, List.any_eq_true] at h
    obtain ⟨_, ⟨h1, h2⟩, p, h3, h4, h5⟩ := h
    exact ⟨h1, h2, p, h3, h4, h5⟩
  have hdeep : ∀ c e' k deep, (c, OSh.ls e' k deep) ∈ e.rsh.ob → deep = true := by
    intro c e' k deep hc
    have h := List.all_eq_true.1 k5 _ hc
    simp only [Bool.and_eq_true, decide_eq_true_eq] at h
    exact h.2
  have hJF : ∀ c o b, lk (e.rsh.fill 0 d).ob c = some o → g'.fp c b → FH w g ρ e.psh.ob b := fun c o b h hb => J.inF c o b h hb
  -- the world's turn
  have hkept := J.kept
  have hI := (kills_inv (es := hTypes e.psh.ob) I)
  obtain ⟨I', hnt, hfx, hnx⟩ := hI
  have hsafe := kills_safe (s := s) (es := hTypes e.psh.ob) (fun q hq => by simp only [List.all_eq_true] at k8; exact k8 q hq)
  have turn : Turn (fun b => b < w.heap.size ∧ FH w g ρ e.psh.ob b) (fun q => q ∈ hTypes e.psh.ob) (hTypes e.psh.ob = []) (Nm s) F g g2 w w' := by
    refine ⟨fun b hb hx => hkept.block b hb (fun h => hx ⟨hb, h⟩), fun b hb => hF b hb.2, fun b bt hb hx hbt => ?_, fun hI b hb => ?_, fun b _ => Iff.rfl, fun n hn => ?_⟩
    · obtain ⟨hlt, hb | ⟨q, hq, hb⟩⟩ := hb
      · omega
      · rcases hall q hq with ⟨t, v, h1, h2⟩ | ⟨e', k, deep, xs, h1, h2⟩
        · obtain ⟨a', Tb, cur, _, _, _, h3, h4⟩ := I.ob _ _ h2
          rw [(h3 b).1 hb] at hx
          exact absurd h4 hx
        · have : (q.1, OSh.ls e' k deep) ∈ e.psh.ob := by rw [← h1]; exact hq
          exact hTypes_mem this (OR_ty (I.ob _ _ h2) hb hbt)
    · obtain ⟨hlt, hb | ⟨q, hq, hb⟩⟩ := hb
      · omega
      · rcases hall q hq with ⟨t, v, h1, h2⟩ | ⟨e', k, deep, xs, h1, h2⟩
        · obtain ⟨a', Tb, cur, _, _, _, h3, h4⟩ := I.ob _ _ h2
          rw [(h3 b).1 hb]
          exact h4
        · have : (q.1, OSh.ls e' k deep) ∈ e.psh.ob := by rw [← h1]; exact hq
          have := hTypes_mem (q := e') this (by simp [K.types])
          rw [hI] at this
          cases this
    · simp only [Nm] at hn; simp only [g2]; rw [if_pos hn]
  have hob : ∀ n o, lk (renOb f (e.rsh.fill 0 d).ob ++ delN (e.psh.ob.map fun q => look ρ q.1) (kills (hTypes e.psh.ob) s).ob) n = some o →
      (∃ c o', lk (e.rsh.fill 0 d).ob c = some o' ∧ n = f c ∧ o = o'.ren f) ∨ ((∀ c ∈ nm, f c ≠ n) ∧ lk (kills (hTypes e.psh.ob) s).ob n = some o ∧ ∀ q ∈ e.psh.ob, look ρ q.1 ≠ n) := by
    intro n o h
    rw [lk_append] at h
    split at h
    · rename_i y hy
      simp only [Option.some.injEq] at h
      subst h
      exact .inl (lk_renOb hy)
    · rename_i hy
      obtain ⟨h1, h2⟩ := lk_delN h
      refine .inr ⟨fun c hc => ?_, h1, fun q hq he => h2 (List.mem_map.2 ⟨q, hq, he⟩)⟩
      simp only [nm, List.mem_map] at hc
      obtain ⟨q, hq, rfl⟩ := hc
      obtain ⟨o', ho'⟩ := obfill_some (r := []) (d := (tmfill e.rsh.tm (obks e.rsh.ob []) d).2) (c := q.1) (t := q.2) hq
      exact lk_renOb_none hy ho'
  have hold : ∀ n o, lk (kills (hTypes e.psh.ob) s).ob n = some o → n < s.nx ∧ ∀ b, g.fp n b → b < w.heap.size := by
    intro n o h
    exact ⟨(I'.nmO n o h).1, fun b hb => ob_lt (s := kills (hTypes e.psh.ob) s) I' h hb⟩
  have hhand : ∀ n o b, lk (kills (hTypes e.psh.ob) s).ob n = some o → (∀ q ∈ e.psh.ob, look ρ q.1 ≠ n) → g.fp n b → ¬ FH w g ρ e.psh.ob b := by
    intro n o b h hne hb hF'
    rcases hF' with hb' | ⟨q, hq, hb'⟩
    · have := (hold n o h).2 b hb; omega
    · obtain ⟨⟨o0, h0, _⟩, _⟩ := kills_ob h
      rcases hall q hq with ⟨t, v, _, h2⟩ | ⟨e', k, deep, xs, _, h2⟩
      · exact I.dis _ _ _ _ b h2 h0 (hne q hq) hb' hb
      · exact I.dis _ _ _ _ b h2 h0 (hne q hq) hb' hb
  have hboxfp : ∀ q ∈ e.psh.ob, ∀ v, lk s.ob (look ρ q.1) = some (.bx v) → ∃ c o, lk (e.rsh.fill 0 d).ob c = some (.bx o) ∧ g'.fp c = g.fp (look ρ q.1) := by
    intro q hq v hv
    simp only [List.all_eq_true, Bool.or_eq_true, Bool.not_eq_true', List.any_eq_true, Bool.and_eq_true, decide_eq_true_eq] at k6
    have hqb : q.2.isBx = true := by
      rcases hall q hq with ⟨t, v', h1, h2⟩ | ⟨e', k, deep, xs, h1, h2⟩
      · rw [h1]; rfl
      · rw [h2] at hv; cases hv
    rcases k6 q hq with h | ⟨p, hp, hpb, hpσ⟩
    · rw [hqb] at h; cases h
    · obtain ⟨o, ho⟩ := obfill_some (r := []) (d := (tmfill e.rsh.tm (obks e.rsh.ob []) d).2) (c := p.1) (t := p.2) hp
      obtain ⟨_, hn⟩ := hnew p.1 o ho
      obtain ⟨t, r', d', hmem, rfl⟩ := hn
      have hbx : ∃ t', t = .bx t' := by
        -- the first entry of that name; all entries of a name are told alike
        cases t with
        | bx t' => exact ⟨t', rfl⟩
        | ls e' k' deep' =>
          exfalso
          have hJo := J.ob p.1 _ ho
          obtain ⟨h1, h2⟩ := hJo
          have hg := (hσ _ (lk_mem_of hpσ)).1
          obtain ⟨a', Tb, cur, h3, _⟩ := I.ob _ _ hv
          dsimp only at hg
          rw [h3] at hg
          rcases h1 with ⟨_, ⟨A, hA⟩, _⟩ | ⟨b', c', cur', f', ds, hA, _⟩
          · rw [hg] at hA; cases hA
          · rw [hg] at hA; cases hA
      obtain ⟨t', rfl⟩ := hbx
      refine ⟨p.1, _, ho, ?_⟩
      obtain ⟨a', Tb, cur, h3, _, _, h6, _⟩ := I.ob _ _ hv
      obtain ⟨a2, Tb2, cur2, h7, _, _, h10, _⟩ := J.ob p.1 _ ho
      have hg := (hσ _ (lk_mem_of hpσ)).1
      dsimp only at hg
      rw [h3, h7] at hg
      simp only [Value.pointer.injEq, Option.some.injEq, Addr.mk.injEq, and_true] at hg
      funext b
      rw [propext (h10 b), propext (h6 b), hg]
  refine ⟨g2, ⟨fun n o h => ?_, fun n m o p b h1 h2 hne hb1 hb2 => ?_, fun n o b h hb => ?_, fun b hb => ?_, fun t v h => ?_, fun t v h => ?_, fun n o h => ?_, ?_, ⟨I.df.1, ?_⟩, I.big, I.kept.trans ?_⟩, ?_⟩
  · simp only [aftH, hf] at h
    rcases hob n o h with ⟨c, o', hc, rfl, rfl⟩ | ⟨hn1, hn2, hn3⟩
    · obtain ⟨hcm, t, r', d', hmem, rfl⟩ := hnew c o' hc
      have hO := J.ob c _ hc
      cases t with
      | bx t =>
        obtain ⟨q1, q2, p, hp, hpb, hpσ⟩ := hbxret c t hmem
        obtain ⟨a', Tb, cur, h1, h2, h3, h4, h5⟩ := hO
        obtain ⟨r1, _⟩ := CT_ren (g := g2) (F := F) (f := f) (M := fun _ => True) (fun c hc => ⟨hhd c, trivial⟩) q1 (nmOk_fill q2) h3
        refine ⟨a', Tb, cur, by rw [hhd]; exact h1, h2, r1, by rw [hfp c hcm]; exact h4, ?_⟩
        show g.Bx a'
        have hg := (hσ _ (lk_mem_of hpσ)).1
        dsimp only at hg
        rcases hall p hp with ⟨t', v, h6, h7⟩ | ⟨e', k, deep, xs, h6, h7⟩
        · obtain ⟨a2, Tb2, cur2, h8, _, _, _, h9⟩ := I.ob _ _ h7
          rw [h8, h1] at hg
          simp only [Value.pointer.injEq, Option.some.injEq, Addr.mk.injEq, and_true] at hg
          rw [hg]; exact h9
        · rw [h6] at hpb; cases hpb
      | ls e' k deep =>
        have hd := hdeep c e' k deep hmem
        subst hd
        obtain ⟨h1, h2⟩ := hO
        refine ⟨?_, fun b hb => ?_⟩
        · rw [hhd, hfp c hcm]
          refine OL_imp (fun _ _ => rfl) (fun x _ cs f' _ hr => ?_) h1
          simpa [LR] using hr
        · rw [hfp c hcm] at hb
          show ¬ g.Bx b
          intro hx
          rcases hJF c _ b hc hb with hb' | ⟨q, hq, hb'⟩
          · have := I.bxF b hx; omega
          · rcases hall q hq with ⟨t, v, h6, h7⟩ | ⟨e2, k2, deep2, xs2, h6, h7⟩
            · obtain ⟨c2, o2, hc2, hfp2⟩ := hboxfp q hq v h7
              have hne : c ≠ c2 := by
                rintro rfl
                rw [hc] at hc2
                simp [OSh.fill] at hc2
              exact J.dis c c2 _ _ b hc hc2 hne hb (by rw [hfp2]; exact hb')
            · exact (I.ob _ _ h7).2 b hb' hx
    · refine OR_turn turn (I'.nmO n o hn2).1 (I'.nmO n o hn2).2 (hsafe.2 n o hn2) (fun b hb hX => hhand n o b hn2 hn3 hb hX.2) (fun b => by rw [hfpo n hn1]) (I'.ob n o hn2)
  · simp only [aftH, hf] at h1 h2
    rcases hob n o h1 with ⟨c, o', hc, rfl, rfl⟩ | ⟨hn1, hn2, hn3⟩
    · have hcm := (hnew c o' hc).1
      rw [hfp c hcm] at hb1
      rcases hob m p h2 with ⟨c', p', hc', rfl, rfl⟩ | ⟨hm1, hm2, hm3⟩
      · have hcm' := (hnew c' p' hc').1
        rw [hfp c' hcm'] at hb2
        exact J.dis c c' _ _ b hc hc' (fun h => hne (by rw [h])) hb1 hb2
      · rw [hfpo m hm1] at hb2
        exact hhand m p b hm2 hm3 hb2 (hJF c _ b hc hb1)
    · rw [hfpo n hn1] at hb1
      rcases hob m p h2 with ⟨c', p', hc', rfl, rfl⟩ | ⟨hm1, hm2, hm3⟩
      · have hcm' := (hnew c' p' hc').1
        rw [hfp c' hcm'] at hb2
        exact hhand n o b hn2 hn3 hb1 (hJF c' _ b hc' hb2)
      · rw [hfpo m hm1] at hb2
        exact I'.dis n m o p b hn2 hm2 hne hb1 hb2
  · simp only [aftH, hf] at h
    rcases hob n o h with ⟨c, o', hc, rfl, rfl⟩ | ⟨hn1, hn2, hn3⟩
    · rw [hfp c (hnew c o' hc).1] at hb
      exact hF b (hJF c _ b hc hb)
    · rw [hfpo n hn1] at hb
      exact I'.inF n o b hn2 hb
  · have := I.bxF b hb
    have := hkept.size
    dsimp only at this
    omega
  · simp only [aftH] at h
    obtain ⟨u, h1, h2⟩ := I'.tm t v h
    exact ⟨u, h1, VT_turn turn (I'.nmT t v h) (hsafe.1 t v h) h2⟩
  · simp only [aftH] at h
    exact TV.nms_mono (fun n hn => by simp only [Nm, aftH] at hn ⊢; omega) (I'.nmT t v h)
  · simp only [aftH, hf] at h
    rcases hob n o h with ⟨c, o', hc, rfl, rfl⟩ | ⟨hn1, hn2, hn3⟩
    · obtain ⟨hcm, t, r', d', hmem, rfl⟩ := hnew c o' hc
      refine ⟨by have := (hM c (hcnx c hcm)).2; simp only [Nm, aftH]; exact this, ?_⟩
      cases t with
      | bx t =>
        obtain ⟨q1, q2, _⟩ := hbxret c t hmem
        obtain ⟨a', Tb, cur, h1, h2, h3, h4, h5⟩ := J.ob c _ hc
        exact (CT_ren (g := g2) (F := F) (f := f) (M := fun n => n < s.nx + e.rsh.nx) hM q1 (nmOk_fill q2) h3).2
      | ls e' k deep => trivial
    · obtain ⟨h1, h2⟩ := I'.nmO n o hn2
      exact ⟨by simp only [Nm, aftH] at h1 ⊢; omega, Obj.nms_mono (fun n hn => by simp only [Nm, aftH] at hn ⊢; omega) h2⟩
  · exact I.nt
  · intro t htt
    exact I.df.2 t (by simpa [aftH] using htt)
  · exact ⟨hkept.os, hkept.tape, hkept.output, hkept.size, fun b hb hF' => hkept.block b hb (fun h => hF' (hF b h))⟩
  · -- the results
    have hq : ∀ q ∈ (e.rsh.fill 0 d).tm.take e.nres, VT w' F g2 (q.2.ren f) (vs.toArray.getD q.1 undef) ∧ (q.2.ren f).nms (fun n => n < s.nx + e.rsh.nx) := by
      intro q hq
      obtain ⟨t, r', d', h1, h2⟩ := tmfill_take q hq
      have hmem := List.mem_of_mem_take hq
      have hl : lk (e.rsh.fill (e.nres + args.size) d).tm q.1 = some q.2 := lk_mem hkey q hmem
      obtain ⟨u, h3, h4⟩ := J.tm q.1 q.2 hl
      have hlt : q.1 < e.nres := by
        have : q.1 ∈ (e.rsh.tm.take e.nres).map (·.1) := List.mem_map.2 ⟨_, h1, rfl⟩
        rw [k3] at this
        simpa using this
      rw [Array.getElem?_append_left (by simp [hvl]; exact hlt)] at h3
      have hu : vs.toArray.getD q.1 undef = u := by simp at h3 ⊢; simp [h3]
      rw [hu]
      rw [h2] at h4 ⊢
      have hret : t.ret = true := by simp only [List.all_eq_true] at k2; exact k2 _ h1
      have hnm : t.nmOk e.rsh.nx = true := by simp only [List.all_eq_true] at k1; exact k1 _ (List.mem_of_mem_take h1)
      exact VT_ren (g := g2) (F := F) hM hret (nmOk_fill hnm) h4
    have hkeys : ((e.rsh.fill 0 d).tm.take e.nres).map (·.1) = List.range e.nres := by
      rw [← k3, List.map_take, List.map_take]
      congr 1
      exact tmfill_fst
    have hmap : (((e.rsh.fill 0 d).tm.take e.nres).map fun q => (q.1, q.2.ren f)).map (fun q => vs.toArray.getD q.1 undef) = vs := by
      rw [List.map_map, show (((fun q : Nat × TV => vs.toArray.getD q.1 undef) ∘ fun q : Nat × TV => (q.1, q.2.ren f))) = (fun t => vs.toArray.getD t undef) ∘ (fun q : Nat × TV => q.1) from rfl, ← List.map_map, hkeys]
      apply List.ext_getElem
      · simp [hvl]
      · intro i h1 h2
        simp at h1 h2 ⊢
        simp [h2]
    simp only [aftH, hf]
    rw [res1_ren]
    constructor
    · have := res1_VT (w := w') (F := F) (g := g2) vs.toArray (l := ((e.rsh.fill 0 d).tm.take e.nres).map fun q => (q.1, q.2.ren f)) (fun q hq' => by
        simp only [List.mem_map] at hq'
        obtain ⟨q0, h1, rfl⟩ := hq'
        exact (hq q0 h1).1)
      rw [hmap] at this
      exact this
    · have hT : ∀ l : List (Nat × TV), (∀ q ∈ l, q.2.nms (fun n => n < s.nx + e.rsh.nx)) → (resT l).nms (fun n => n < s.nx + e.rsh.nx) := by
        intro l
        induction l with
        | nil => intro _; trivial
        | cons p r ih => intro h; exact ⟨h p List.mem_cons_self, ih fun q hq => h q (List.mem_cons_of_mem _ hq)⟩
      have hall2 : ∀ q ∈ ((e.rsh.fill 0 d).tm.take e.nres).map (fun q => (q.1, q.2.ren f)), q.2.nms (fun n => n < s.nx + e.rsh.nx) := by
        intro q hq'
        simp only [List.mem_map] at hq'
        obtain ⟨q0, h1, rfl⟩ := hq'
        exact (hq q0 h1).2
      show (res1 _).nms (fun n => n < s.nx + e.rsh.nx)
      generalize ((e.rsh.fill 0 d).tm.take e.nres).map (fun q => (q.1, q.2.ren f)) = L at hall2 ⊢
      match L, hall2 with
      | [], h => exact hT _ h
      | [(n, v)], h => exact h (n, v) List.mem_cons_self
      | (n, v) :: (m, u) :: r, h => exact hT _ h

end
end Go.Vm
