/- The value machine, joined: what is proved here holds for every loaded program; no condition but those that each theorem states. -/
import Derived.Test.YtjnfbibaldbjhaaVmA
/- The value machine, part 12: struct literals; function values; all operations that make a value, together. -/
set_option linter.unusedVariables false
set_option linter.unusedSimpArgs false
namespace Go.Vm

/-- A slot's value lies like a chain of fields. -/
def shp : K → TV → Prop
  | .pr a b, v => ∃ x y, split v = some (x, y) ∧ x.sz = a.sz ∧ shp b y
  | .un, v => v = .un
  | _, _ => False

theorem shp_zT : ∀ {k : K} {fs : List Field} {o : Nat} {T : Nat → K}, fieldsOk T k fs o → shp k (zT k) := by
  intro k
  induction k with
  | pr a b iha ihb =>
    intro fs o T h
    cases fs with
    | nil => exact h.elim
    | cons f r => exact ⟨zT a, zT b, rfl, zT_sz a, ihb h.2.2.2⟩
  | un => intro fs o T h; rfl
  | _ => intro fs o T h; cases fs <;> exact h.elim

section
variable {P : Program} {T : Nat → K} {w w' : World} {w0 : W0} {F N : Nat → Prop} {g g' : G} {s : St} {a : Act} {base : Nat}

theorem put_left (c1 c2 l : List Value) (h : l.length = c1.length) : put (c1 ++ c2) 0 l = l ++ c2 := by
  simp [put, h]
theorem put_right (c1 c2 l : List Value) (n o : Nat) (h : c1.length = n) : put (c1 ++ c2) (n + o) l = c1 ++ put c2 o l := by
  subst h
  simp [put, List.take_append, List.drop_append, List.append_assoc]
  rw [show c1.length + o + l.length - c1.length = o + l.length by omega]
  have h1 : List.drop (c1.length + o + l.length) c1 = [] := List.drop_eq_nil_of_le (by omega)
  have h2 : List.take (c1.length + o) c1 = c1 := List.take_of_length_le (by omega)
  simp [h1, h2]

theorem setF_CT {x : TV} {xs : List Value} (hx : CT w F g x xs) : ∀ {f : Nat} {v v' : TV} {o : Nat} {cs : List Value} {k : K}, CT w F g v cs → shp k v → setF f v (setP x []) = some (o, v') →
    CT w F g v' (put cs o xs) ∧ shp k v' ∧ o + xs.length ≤ cs.length ∧ ∃ k', fldO k f = some (o, k') ∧ k'.sz = xs.length := by
  intro f
  induction f with
  | zero =>
    intro v v' o cs k h hs hf
    simp only [setF, Option.bind_eq_some_iff, Option.map_eq_some_iff, setP] at hf
    obtain ⟨⟨a, b⟩, hsp, y, hy, he⟩ := hf
    split at hy
    · rename_i hsz
      simp only [Option.some.injEq] at hy
      simp only [Prod.mk.injEq] at he
      obtain ⟨rfl, rfl⟩ := he
      subst hy
      obtain ⟨c1, c2, rfl, h1, h2⟩ := split_CT h hsp
      have hl : xs.length = c1.length := by rw [CT_len hx, CT_len h1]; exact hsz.1
      cases k with
      | pr ka kb =>
        obtain ⟨a', b', hsp', hz, hsb⟩ := hs
        rw [hsp] at hsp'
        simp only [Option.some.injEq, Prod.mk.injEq] at hsp'
        obtain ⟨rfl, rfl⟩ := hsp'
        refine ⟨?_, ⟨x, b, rfl, by rw [← hz]; exact hsz.1, hsb⟩, by simp [hl], ka, rfl, by rw [CT_len hx, hsz.1, hz]⟩
        rw [put_left _ _ _ hl]
        exact ⟨xs, c2, rfl, hx, h2⟩
      | un =>
        simp only [shp] at hs
        subst hs
        simp [split] at hsp
      | _ => exact hs.elim
    · cases hy
  | succ f ih =>
    intro v v' o cs k h hs hf
    simp only [setF, Option.bind_eq_some_iff, Option.map_eq_some_iff] at hf
    obtain ⟨⟨a, b⟩, hsp, ⟨o', y⟩, hy, he⟩ := hf
    simp only [Prod.mk.injEq] at he
    obtain ⟨rfl, rfl⟩ := he
    obtain ⟨c1, c2, rfl, h1, h2⟩ := split_CT h hsp
    cases k with
    | pr ka kb =>
      obtain ⟨a', b', hsp', hz, hsb⟩ := hs
      rw [hsp] at hsp'
      simp only [Option.some.injEq, Prod.mk.injEq] at hsp'
      obtain ⟨rfl, rfl⟩ := hsp'
      obtain ⟨q1, q2, q3, k', q4, q5⟩ := ih h2 hsb hy
      refine ⟨?_, ⟨a, y, rfl, hz, q2⟩, by simp [CT_len h1]; omega, k', by simp [fldO, q4, hz], q5⟩
      rw [put_right _ _ _ _ _ (CT_len h1)]
      exact ⟨c1, _, rfl, h1, q1⟩
    | un => simp only [shp] at hs; subst hs; simp [split] at hsp
    | _ => exact hs.elim

theorem put_fold (cells : Array Value) (off : Nat) (v : Array Value) (h : off + v.size ≤ cells.size) :
    (v.zipIdx.foldl (fun cs (p : Value × Nat) => cs.setIfInBounds (off + p.2) p.1) cells) = (put cells.toList off v.toList).toArray := by
  have := foldl_put v.toList 0 off cells (by simpa using h)
  rw [← Array.foldl_toList, Array.toList_zipIdx]
  apply Array.toList_inj.1
  rw [this]
  simp

/-- A struct literal's fields, put in one by one. -/
theorem fill_struct {pl : Nat → Option (Nat × Nat)} {k : K} (hpl : ∀ f o k', fldO k f = some (o, k') → pl f = some (o, k'.sz)) :
    ∀ {vs : List (Nat × TV)} {ps : List (Nat × Value)} {v v' : TV} {cs : Array Value}, vs.length = ps.length →
      (∀ (j : Nat) (q : Nat × TV), vs[j]? = some q → ∃ u, ps[j]? = some (q.1, u) ∧ (live q.2 = true → ∃ ds, u.cells = ds.toArray ∧ CT w F g q.2 ds)) → (∀ (j : Nat) (q : Nat × TV), vs[j]? = some q → live q.2 = true) →
      CT w F g v cs.toList → shp k v → setFs v vs = some v' → ∃ cs' : Array Value, Instr.fill pl cs ps = some cs' ∧ CT w F g v' cs'.toList := by
  intro vs
  induction vs with
  | nil =>
    intro ps v v' cs hl _ _ h _ hs
    simp only [setFs, Option.some.injEq] at hs
    subst hs
    have : ps = [] := List.eq_nil_of_length_eq_zero (by simpa using hl.symm)
    subst this
    exact ⟨cs, rfl, h⟩
  | cons q r ih =>
    intro ps v v' cs hl hp hlv h hsh hs
    obtain ⟨f, x⟩ := q
    simp only [setFs, Option.bind_eq_some_iff] at hs
    obtain ⟨⟨o, y⟩, hy, hs⟩ := hs
    cases ps with
    | nil => simp at hl
    | cons p pr =>
      obtain ⟨u, hu, hd⟩ := hp 0 _ rfl
      simp only [List.getElem?_cons_zero, Option.some.injEq] at hu
      subst hu
      obtain ⟨ds, hds, hC⟩ := hd (hlv 0 _ rfl)
      obtain ⟨q1, q2, q3, k', q4, q5⟩ := setF_CT hC h hsh hy
      have hcs : (cs.toList.length) = cs.size := by simp
      obtain ⟨cs', hf, hc'⟩ := ih (ps := pr) (cs := (put cs.toList o ds).toArray) (by simpa using hl) (fun j q hq => by
        obtain ⟨u', h1, h2⟩ := hp (j + 1) q (by simpa using hq)
        exact ⟨u', by simpa using h1, h2⟩) (fun j q hq => hlv (j + 1) q (by simpa using hq)) (by simpa using q1) q2 hs
      refine ⟨cs', ?_, hc'⟩
      rw [Instr.fill]
      simp only [hpl f o k' q4]
      have hsz : u.cells.size = k'.sz := by rw [hds, q5]; simp
      rw [if_neg (by simp [hsz]; rw [← hsz, hds]; simp; omega)]
      have := put_fold cs o u.cells (by rw [hds]; simp; omega)
      rw [hds] at this ⊢
      simp only [List.toList_toArray] at this
      rw [this]
      exact hf

theorem run_places {P : Program} (hT : TOk P T) (w : World) : ∀ {fs : List Field} {k : K} {o : Nat}, fieldsOk T k fs o →
    ∃ pl : List (Nat × Nat), (fs.mapM fun (f : Field) => (do pure (f.offset, ← sizeOf f.type) : Sem (Nat × Nat))).run P w = .ok pl w ∧ ∀ f o' k', fldO k f = some (o', k') → pl[f]? = some (o + o', k'.sz) := by
  intro fs
  induction fs with
  | nil =>
    intro k o h
    refine ⟨[], rfl, fun f o' k' hf => ?_⟩
    cases k with
    | pr a b => exact h.elim
    | _ => simp [fldO] at hf
  | cons fd r ih =>
    intro k o h
    cases k with
    | pr a b =>
      obtain ⟨h1, h2, h3, h4⟩ := h
      obtain ⟨pl, hr, hp⟩ := ih h4
      have ht2 : T fd.type ≠ .un := by intro h; rw [h] at h2; subst h2; simp [K.sz] at h3
      obtain ⟨i, hi, hsz, _⟩ := (hT fd.type ht2).info
      refine ⟨(o, a.sz) :: pl, ?_, fun f o' k' hf => ?_⟩
      · rw [List.mapM_cons]
        simp only [Sem.run_bind, sizeOf, typeInfo, run_program, hi, Result.andThen_ok, Sem.run_pure] at hr ⊢
        rw [hr]
        simp [h1, hsz, h2]
      · cases f with
        | zero =>
          simp only [fldO, Option.some.injEq, Prod.mk.injEq] at hf
          obtain ⟨rfl, rfl⟩ := hf
          simp
        | succ f =>
          simp only [fldO, Option.map_eq_some_iff] at hf
          obtain ⟨⟨o1, k1⟩, hf, he⟩ := hf
          simp only [Prod.mk.injEq] at he
          obtain ⟨rfl, rfl⟩ := he
          have := hp f o1 k1 hf
          simp only [List.getElem?_cons_succ, this]
          congr 2
          omega
    | _ => exact h.elim

theorem split_nms {v a b : TV} (h : v.nms N) (hs : split v = some (a, b)) : a.nms N ∧ b.nms N := by
  cases v with
  | pr a' b' => simp only [split, Option.some.injEq, Prod.mk.injEq] at hs; obtain ⟨rfl, rfl⟩ := hs; exact h
  | sc ext k x =>
    cases k with
    | pr ka kb => simp only [split, Option.some.injEq, Prod.mk.injEq] at hs; obtain ⟨rfl, rfl⟩ := hs; exact ⟨trivial, trivial⟩
    | _ => simp [split] at hs
  | _ => simp [split] at hs

theorem setF_nms {u : TV → Option TV} (hu : ∀ y r, y.nms N → u y = some r → r.nms N) : ∀ {f : Nat} {v v' : TV} {o : Nat}, v.nms N → setF f v u = some (o, v') → v'.nms N := by
  intro f
  induction f with
  | zero =>
    intro v v' o h hs
    simp only [setF, Option.bind_eq_some_iff, Option.map_eq_some_iff] at hs
    obtain ⟨⟨a, b⟩, hsp, y, hy, he⟩ := hs
    simp only [Prod.mk.injEq] at he
    obtain ⟨rfl, rfl⟩ := he
    have := split_nms h hsp
    exact ⟨hu _ _ this.1 hy, this.2⟩
  | succ f ih =>
    intro v v' o h hs
    simp only [setF, Option.bind_eq_some_iff, Option.map_eq_some_iff] at hs
    obtain ⟨⟨a, b⟩, hsp, ⟨o', y⟩, hy, he⟩ := hs
    simp only [Prod.mk.injEq] at he
    obtain ⟨rfl, rfl⟩ := he
    have := split_nms h hsp
    exact ⟨this.1, ih this.2 hy⟩

theorem setP_nms {nv : TV} (hn : nv.nms N) : ∀ {path : List Stp} {v r : TV}, v.nms N → setP nv path v = some r → r.nms N := by
  intro path
  induction path with
  | nil =>
    intro v r h hs
    simp only [setP] at hs
    split at hs
    · simp only [Option.some.injEq] at hs; subst hs; exact hn
    · cases hs
  | cons st path ih =>
    intro v r h hs
    cases st with
    | fld f o =>
      simp only [setP, Option.bind_eq_some_iff] at hs
      obtain ⟨⟨o', y⟩, hy, hs⟩ := hs
      split at hs
      · simp only [Option.some.injEq] at hs; subst hs; exact setF_nms (fun _ _ h1 h2 => ih h1 h2) h hy
      · cases hs
    | ix i st m =>
      cases v with
      | sc ext k x =>
        cases k with
        | arr n k =>
          simp only [setP] at hs
          split at hs
          · split at hs
            · split at hs
              · simp only [Option.some.injEq] at hs; subst hs; trivial
              · cases hs
            · cases hs
          · cases hs
        | _ => simp [setP] at hs
      | _ => simp [setP] at hs

theorem setFs_nms : ∀ {vs : List (Nat × TV)} {v v' : TV}, (∀ q ∈ vs, q.2.nms N) → v.nms N → setFs v vs = some v' → v'.nms N := by
  intro vs
  induction vs with
  | nil => intro v v' _ h hs; simp only [setFs, Option.some.injEq] at hs; subst hs; exact h
  | cons q r ih =>
    intro v v' hq h hs
    obtain ⟨f, x⟩ := q
    simp only [setFs, Option.bind_eq_some_iff] at hs
    obtain ⟨⟨o, y⟩, hy, hs⟩ := hs
    exact ih (fun q hq' => hq q (List.mem_cons_of_mem _ hq')) (setF_nms (fun _ _ h1 h2 => setP_nms (hq (f, x) List.mem_cons_self) h1 h2) h hy) hs

theorem setFs_agg : ∀ {vs : List (Nat × TV)} {v v' : TV}, (∃ a b, v = .pr a b) → setFs v vs = some v' → ∃ a b, v' = .pr a b := by
  intro vs
  induction vs with
  | nil => intro v v' h hs; simp only [setFs, Option.some.injEq] at hs; subst hs; exact h
  | cons q r ih =>
    intro v v' h hs
    obtain ⟨f, x⟩ := q
    simp only [setFs, Option.bind_eq_some_iff] at hs
    obtain ⟨⟨o, y⟩, hy, hs⟩ := hs
    refine ih ?_ hs
    cases f with
    | zero =>
      simp only [setF, Option.bind_eq_some_iff, Option.map_eq_some_iff] at hy
      obtain ⟨p, _, q, _, he⟩ := hy
      simp only [Prod.mk.injEq] at he
      exact ⟨_, _, he.2.symm⟩
    | succ f =>
      simp only [setF, Option.bind_eq_some_iff, Option.map_eq_some_iff] at hy
      obtain ⟨p, _, q, _, he⟩ := hy
      simp only [Prod.mk.injEq] at he
      exact ⟨_, _, he.2.symm⟩

theorem run_buildT (hT : TOk P T) (I : Inv F w0 N s a w g) {o : Oper} {t : Nat} {ka kb : K} {parts : Array (Nat × Operand)} {vs : List (Nat × TV)} {v : TV} (ho : o.op = .build t parts)
    (hk : T t = .pr ka kb) (h : evs (lk s.tm) parts.toList = some vs) (hlv : (vs.all fun q => live q.2) = true) (hs : setFs (zT (.pr ka kb)) vs = some v) :
    Runs P F N g w base a o ⟨true, v, none⟩ := by
  obtain ⟨d, hd, hsh⟩ := (hT t (by rw [hk]; simp)).und
  obtain ⟨inf, hi, hsz, hz, _⟩ := (hT t (by rw [hk]; simp)).info
  rw [hk] at hsh hz
  obtain ⟨fs, rfl, hfs⟩ := hsh
  obtain ⟨pl, hpr, hpl⟩ := run_places hT w hfs
  obtain ⟨hv1, hv2⟩ := evs_spec h
  have hget : ∀ (j : Nat) (q : Nat × TV), vs[j]? = some q → ∃ x, parts.toList[j]? = some (q.1, x) ∧ evo (lk s.tm) x = some q.2 := by
    intro j q hq
    have hj : j < parts.toList.length := by rw [← hv1]; exact (List.getElem?_eq_some_iff.1 hq).1
    obtain ⟨v', h1, h2⟩ := hv2 j _ (List.getElem?_eq_getElem hj)
    rw [hq] at h1
    simp only [Option.some.injEq] at h1
    exact ⟨parts.toList[j].2, by rw [List.getElem?_eq_getElem hj, h1], by rw [h1]; exact h2⟩
  have hmap : (parts.map fun x => match x with | (i, x) => (i, a.eval x)).toList = parts.toList.map fun q => (q.1, a.eval q.2) := by simp
  have hlv' : ∀ (j : Nat) (q : Nat × TV), vs[j]? = some q → live q.2 = true := fun j q hq => List.all_eq_true.1 hlv q (List.mem_of_getElem? hq)
  obtain ⟨cs', hfill, hC⟩ := fill_struct (w := w) (F := F) (g := g) (pl := fun f => pl[f]?) (k := .pr ka kb) (fun f o k' hf => by have := hpl f o k' hf; rwa [Nat.zero_add] at this)
    (vs := vs) (ps := parts.toList.map fun q => (q.1, a.eval q.2)) (cs := (zV (.pr ka kb)).cells) (by rw [List.length_map, hv1])
    (fun j q hq => by
      obtain ⟨x, hx, he⟩ := hget j q hq
      refine ⟨a.eval x, by rw [List.getElem?_map, hx]; rfl, fun hl => VT_cells (eval_VT I he) hl⟩) hlv'
    (by rw [zV_cells]; exact CT_zero _) (shp_zT hfs) hs
  have hag : v.agg = true := by obtain ⟨x, y, rfl⟩ := setFs_agg ⟨_, _, rfl⟩ hs; rfl
  refine Runs.pure I (u := .agg cs') ?_ ?_ (setFs_nms (fun q hq => ?_) (zT_nms _) hs)
  · have hpr' : (fs.mapM fun (f : Field) => (do pure (f.offset, ← sizeOf f.type) : Sem (Nat × Nat))).run P w = .ok pl.toArray w := by
      rw [Array.mapM_eq_mapM_toList, Sem.run_map, hpr]
      rfl
    simp only [execOp, ho, Instr.build, Sem.run_bind, zeroValue, typeInfo, run_program, hi, hz, Sem.run_pure, Result.andThen_ok, run_underlying hd, hpr', hmap]
    have hfill' : Instr.fill (fun x => pl.toArray[x]?) (zV (.pr ka kb)).cells (parts.toList.map fun q => (q.1, a.eval q.2)) = some cs' := by simpa using hfill
    rw [hfill']
    simp
  · have := VT_of_CT (v := v) hC (fun hf => by rw [hag] at hf; cases hf)
    rw [hag] at this
    simpa [valOf] using this
  · obtain ⟨j, hj⟩ := List.getElem?_of_mem hq
    obtain ⟨x, _, he⟩ := hget j q hj
    exact evo_nms I he

theorem run_buildA (hT : TOk P T) (I : Inv F w0 N s a w g) {o : Oper} {t n : Nat} {k : K} {parts : Array (Nat × Operand)} (ho : o.op = .build t parts)
    (hk : T t = .arr n k) (hp : parts.toList = []) : Runs P F N g w base a o ⟨true, zT (.arr n k), none⟩ := by
  obtain ⟨d, hd, hsh⟩ := (hT t (by rw [hk]; simp)).und
  obtain ⟨inf, hi, hsz, hz, _⟩ := (hT t (by rw [hk]; simp)).info
  rw [hk] at hsh hz
  obtain ⟨e, rfl, he, hne⟩ := hsh
  obtain ⟨i2, hi2, hsz2, _⟩ := (hT e (by rw [he]; exact hne)).info
  have hp' : parts = #[] := by cases parts; simp at hp; rw [hp]
  refine Runs.pure I (u := .agg (zV (.arr n k)).cells) ?_ ?_ (zT_nms _)
  · simp [execOp, ho, Instr.build, zeroValue, typeInfo, hi, hz, run_underlying hd, sizeOf, hi2, hp', Instr.fill]
  · rw [zV_cells]
    exact ⟨zC (.arr n k), rfl, CT_zero (.arr n k)⟩

theorem caps_CT (I : Inv F w0 N s a w g) : ∀ {l : List Operand} {v : TV}, caps (lk s.tm) l = some v → CT w F g v (l.map a.eval) ∧ v.nms N := by
  intro l
  induction l with
  | nil => intro v h; simp only [caps, Option.some.injEq] at h; subst h; exact ⟨rfl, trivial⟩
  | cons x r ih =>
    intro v h
    simp only [caps, Option.bind_eq_some_iff] at h
    obtain ⟨y, hy, h⟩ := h
    split at h
    · rename_i hl
      simp only [Option.map_eq_some_iff] at h
      obtain ⟨zz, hz, rfl⟩ := h
      obtain ⟨h1, h2⟩ := ih hz
      exact ⟨⟨[a.eval x], _, rfl, VT_leaf (eval_VT I hy) hl.2 hl.1, h1⟩, evo_nms I hy, h2⟩
    · cases h

theorem run_fn (I : Inv F w0 N s a w g) {o : Oper} {f : Nat} {first captured : Array Operand} {v : TV} (ho : o.op = .makeFunc (.func f) first captured) (hf : first.isEmpty = true) (h : caps (lk s.tm) captured.toList = some v) :
    Runs P F N g w base a o ⟨true, .fn f v, none⟩ := by
  obtain ⟨h1, h2⟩ := caps_CT I h
  have hf' : first = #[] := by simpa using hf
  refine Runs.pure I (v := .fn f v) (u := .func (.func f) #[] (captured.toList.map a.eval).toArray) ?_ ⟨_, rfl, h1⟩ h2
  have hm : captured.map a.eval = (captured.toList.map a.eval).toArray := by
    apply Array.toList_inj.1
    rw [Array.toList_map]
  simp only [execOp, ho, Instr.makeFunc, hf', hm, Array.map_empty, Sem.run_bind, Sem.run_pure, Result.andThen_ok]

theorem vpure_run (hT : TOk P T) (I : Inv F w0 N s a w g) (hb : ¬ N base) {o : Oper} {out : Out} (h : vpure T (lk s.tm) (lk s.ob) base o.op = some out) (hok : out.ok = true) : Runs P F N g w base a o out := by
  generalize ho : o.op = op at h
  unfold vpure at h
  split at h
  · simp only [one, Option.map_eq_some_iff] at h; obtain ⟨v, hv, rfl⟩ := h; exact run_move I (.inl ho) hv
  · simp only [one, Option.map_eq_some_iff] at h; obtain ⟨v, hv, rfl⟩ := h; exact run_move I (.inr ho) hv
  · split at h
    · cases h
    · rename_i ht; simp only [Option.some.injEq] at h; subst h; exact run_alloc hT I hb ho ht
  · simp only [Option.bind_eq_some_iff] at h
    obtain ⟨v, hv, h⟩ := h
    split at h
    · rename_i hc; simp only [Option.some.injEq] at h; subst h; exact run_box I hb ho hv hc.2.1
    · cases h
  · split at h
    · cases h
    · rename_i ht
      simp only [Option.bind_eq_some_iff, one, Option.map_eq_some_iff] at h
      obtain ⟨v, hv, r, hr, rfl⟩ := h
      unfold vload at hr
      split at hr
      · split at hr
        · rename_i c hn
          simp only [Option.bind_eq_some_iff] at hr
          obtain ⟨r', hg, hr⟩ := hr
          split at hr
          · rename_i hc; simp only [Option.some.injEq] at hr; subst hr; exact run_load_bp hT I ho hv hn hg hc.1 hc.2 ht
          · cases hr
        · cases hr
      · split at hr
        · rename_i e k deep xs hn
          split at hr
          · rename_i hst
            simp only [Option.bind_eq_some_iff] at hr
            obtain ⟨⟨k', y⟩, hg, hr⟩ := hr
            split at hr
            · rename_i hk; simp only [Option.some.injEq] at hr; subst hr; exact run_load_ep hT I ho hv hn hst hg hk ht
            · cases hr
          · cases hr
        · cases hr
      · split at hr
        · rename_i hk; simp only [Option.some.injEq] at hr; subst hr; exact run_load_cp hT I ho hv hk ht
        · cases hr
      · cases hr
  · simp only [Option.bind_eq_some_iff, one, Option.map_eq_some_iff] at h
    obtain ⟨v, hv, r, hr, rfl⟩ := h
    exact run_fld hT I ho hv hr
  · simp only [Option.bind_eq_some_iff] at h
    obtain ⟨v, hv, vi, hvi, i, hi, h⟩ := h
    exact run_idx hT I ho hv hvi hi h hok
  · simp only [Option.bind_eq_some_iff] at h
    obtain ⟨v, hv, h⟩ := h
    split at h
    · simp only [Option.some.injEq] at h; subst h; exact run_nil I ho hv (.inl ⟨_, _, rfl⟩)
    · simp only [Option.some.injEq] at h; subst h; exact run_nil I ho hv (.inr (.inl ⟨_, _, _, _, rfl⟩))
    · simp only [Option.some.injEq] at h; subst h; exact run_nil I ho hv (.inr (.inr (.inl ⟨_, _, _, _, rfl⟩)))
    · simp only [Option.some.injEq] at h; subst h; exact run_nil I ho hv (.inr (.inr (.inr ⟨_, _, rfl⟩)))
    · cases h
  · simp only [Option.bind_eq_some_iff] at h
    obtain ⟨x, hx, y, hy, h⟩ := h
    exact run_bin hT I ho hx hy h hok
  · simp only [Option.bind_eq_some_iff] at h
    obtain ⟨x, hx, h⟩ := h
    split at h
    · simp only [Option.some.injEq] at h; subst h; exact run_not I ho hx
    · cases h
  · simp only [Option.bind_eq_some_iff] at h
    obtain ⟨x, hx, h⟩ := h
    split at h
    · simp only [Option.some.injEq] at h; subst h; exact run_neg I ho hx
    · cases h
  · split at h
    · cases h
    · rename_i hs
      simp only [Option.bind_eq_some_iff] at h
      obtain ⟨x, hx, h⟩ := h
      split at h
      · rename_i hd; simp only [Option.some.injEq] at h; subst h; exact run_conv hT I ho hx hd hs
      · cases h
  · simp only [Option.bind_eq_some_iff, one, Option.map_eq_some_iff] at h
    obtain ⟨v, hv, r, hr, rfl⟩ := h
    exact run_extract I ho hv hr
  · simp only [Option.bind_eq_some_iff] at h
    obtain ⟨v, hv, vi, hvi, i, hi, h⟩ := h
    split at h
    · rename_i ht
      simp only [Option.some.injEq] at h
      subst h
      simp only [decide_eq_true_eq] at hok
      exact run_index hT I ho ht hv hvi hi hok.1 hok.2
    · cases h
  · split at h
    · rename_i hs
      simp only [Option.bind_eq_some_iff] at h
      obtain ⟨v, hv, n, hn, h⟩ := h
      split at h
      · rename_i hk
        simp only [Option.some.injEq] at h
        subst h
        simp only [decide_eq_true_eq] at hok
        exact run_makeS hT I hb ho hs hv hn hk hok.1 hok.2
      · cases h
    · cases h
  · simp only [Option.bind_eq_some_iff] at h
    obtain ⟨vs, hvs, h⟩ := h
    split at h
    · rename_i hk
      split at h
      · rename_i hc
        simp only [Option.map_eq_some_iff] at h
        obtain ⟨xs, hxs, rfl⟩ := h
        exact run_buildS hT I hb ho hk hvs hc.1 hc.2.1 hc.2.2.1 hc.2.2.2 hxs
      · cases h
    · cases h
  · simp only [Option.bind_eq_some_iff] at h
    obtain ⟨vs, hvs, h⟩ := h
    split at h
    · rename_i hk
      split at h
      · rename_i hl
        simp only [one, Option.map_eq_some_iff] at h
        obtain ⟨v, hv, rfl⟩ := h
        exact run_buildT hT I ho hk hvs hl hv
      · cases h
    · rename_i hk
      split at h
      · rename_i he
        simp only [one, Option.map_some, Option.some.injEq] at h
        subst h
        refine run_buildA hT I ho hk ?_
        have hv0 : vs = [] := List.isEmpty_iff.1 he
        have := (evs_spec hvs).1
        rw [hv0] at this
        exact List.eq_nil_of_length_eq_zero (by simpa using this.symm)
      · cases h
    · cases h
  · split at h
    · rename_i hf
      simp only [one, Option.map_eq_some_iff] at h
      obtain ⟨v, ⟨c, hc, rfl⟩, rfl⟩ := h
      exact run_fn I ho hf hc
    · cases h
  · rename_i args argTypes
    split at h
    · rename_i x t hx ht
      simp only [Option.bind_eq_some_iff, Option.map_eq_some_iff] at h
      obtain ⟨v, hv, n, hn, rfl⟩ := h
      have h1 : args = #[x] := by cases args; simp at hx; rw [hx]
      have h2 : argTypes = #[t] := by cases argTypes; simp at ht; rw [ht]
      subst h1 h2
      exact run_len hT I ho hv hn
    · cases h
  · cases h

end
end Go.Vm

/- The value machine, part 13: states that change: a slot, a new object, a store into a variable. -/
set_option linter.unusedVariables false
set_option linter.unusedSimpArgs false
namespace Go.Vm

theorem lk_del {α : Type} (l : List (Nat × α)) (n m : Nat) : lk (del n l) m = if m = n then none else lk l m := by
  induction l with
  | nil => simp [del, lk]
  | cons p r ih =>
    obtain ⟨q, x⟩ := p
    simp only [del]
    by_cases h : n = q
    · subst h
      rw [if_pos rfl, ih]
      by_cases h2 : m = n
      · simp [h2]
      · simp [lk, h2]
    · rw [if_neg h]
      simp only [lk, ih]
      by_cases h2 : m = q
      · subst h2
        rw [if_pos rfl, if_neg (fun e => h e.symm)]
        simp
      · simp [h2]
theorem lk_put {α : Type} (l : List (Nat × α)) (n m : Nat) (x : α) : lk ((n, x) :: del n l) m = if m = n then some x else lk l m := by
  simp only [lk, lk_del]
  by_cases h : m = n <;> simp [h]

theorem lk_cons {α : Type} (l : List (Nat × α)) (n m : Nat) (x : α) : lk ((n, x) :: l) m = if m = n then some x else lk l m := rfl

def St.put (s : St) (d : Option Nat) (v : TV) : St :=
  match d with
  | some d => { s with tm := (d, v) :: s.tm }
  | none => s
def St.add (s : St) (n : Nat) (o : Obj) : St := { s with ob := (n, o) :: del n s.ob }

section
variable {P : Program} {T : Nat → K} {w w' : World} {w0 : W0} {F N : Nat → Prop} {g g' : G} {s : St} {a : Act} {base : Nat}

theorem C_one {ok : Nat → Nat → Nat → Prop} : ∀ {k : K} {x : dn k} {cs : List Value}, C w ok k x cs → ∀ u ∈ cs, u.oneCell' = true := by
  intro k
  induction k with
  | int ik => intro x cs h u hu; simp only [C] at h; subst h; simp at hu; subst hu; rfl
  | bool => intro x cs h u hu; simp only [C] at h; subst h; simp at hu; subst hu; rfl
  | str => intro x cs h u hu; simp only [C] at h; subst h; simp at hu; subst hu; rfl
  | sl e k ih => intro x cs h u hu; obtain ⟨A, c, h, _⟩ := h; subst h; simp at hu; subst hu; rfl
  | arr n k ih =>
    intro x cs h u hu
    obtain ⟨i, hi, he⟩ := List.getElem_of_mem hu
    have h2 := h.2.1
    have hsz : 0 < k.sz := by
      rcases Nat.eq_zero_or_pos k.sz with h0 | h0
      · rw [h0] at h2; simp at h2; subst h2; simp at hi
      · exact h0
    have hj : i / k.sz < List.length x := by
      rw [h.1]
      rw [Nat.div_lt_iff_lt_mul hsz]
      omega
    have hc := h.2.2 (i / k.sz) hj
    refine ih hc u ?_
    have hm : i = i / k.sz * k.sz + i % k.sz := by rw [Nat.mul_comm]; exact (Nat.div_add_mod i k.sz).symm
    have hg := sub_get cs (i / k.sz * k.sz) k.sz (i % k.sz) (Nat.mod_lt _ hsz)
    rw [← hm, List.getElem?_eq_getElem hi, he] at hg
    exact List.mem_of_getElem? hg
  | pr a b iha ihb =>
    intro x cs h u hu
    obtain ⟨c1, c2, rfl, h1, h2⟩ := h
    rcases List.mem_append.1 hu with hu | hu
    · exact iha h1 u hu
    · exact ihb h2 u hu
  | un => intro x cs h u hu; simp only [C] at h; subst h; simp at hu

theorem CT_one : ∀ {v : TV} {cs : List Value}, CT w F g v cs → ∀ u ∈ cs, u.oneCell' = true := by
  intro v
  induction v with
  | dead m => intro cs h; exact h.2
  | sc ext k x => intro cs h; exact C_one h
  | al n => intro cs h u hu; obtain ⟨h1, A, m, c, h2⟩ := h; subst h1; simp at hu; subst hu; rw [h2]; rfl
  | inn n i st path e k => intro cs h u hu; obtain ⟨_, _, _, v, _, rfl, ⟨A, m, c, rfl⟩, _⟩ := h; simp at hu; subst hu; rfl
  | z => intro cs h u hu; obtain ⟨_, rfl⟩ := h; simp at hu; subst hu; rfl
  | pr a b iha ihb =>
    intro cs h u hu
    obtain ⟨c1, c2, rfl, h1, h2⟩ := h
    rcases List.mem_append.1 hu with hu | hu
    · exact iha h1 u hu
    · exact ihb h2 u hu
  | un => intro cs h u hu; simp only [CT] at h; subst h; simp at hu
  | bp n path => intro cs h u hu; obtain ⟨_, _, _, rfl⟩ := h; simp at hu; subst hu; rfl
  | ep n i st path => intro cs h u hu; obtain ⟨_, _, _, _, _, rfl⟩ := h; simp at hu; subst hu; rfl
  | cp ext e k x => intro cs h u hu; obtain ⟨_, _, _, rfl, _⟩ := h; simp at hu; subst hu; rfl
  | fn f c ih => intro cs h u hu; obtain ⟨_, rfl, _⟩ := h; simp at hu; subst hu; rfl
  | tc a b => intro cs h; exact h.elim
  | tn => intro cs h; exact h.elim

/-- A slot takes a value. -/
theorem inv_put (I : Inv F w0 N s a w g) {d : Option Nat} {v : TV} {u : Value} (hv : VT w F g v u) (hn : v.nms N) (hd : ∀ t, d = some t → t < s.nt ∧ s.fx.contains t = false) : Inv F w0 N (s.put d v) (a.put d u) w g := by
  cases d with
  | none => exact I
  | some t =>
    have ht := (hd t rfl).1
    refine ⟨I.ob, I.dis, I.inF, I.bxF, fun t' v' h => ?_, fun t' v' h => ?_, I.nmO, by simp [St.put, Act.put, I.nt], ⟨I.df.1, fun q hq => ?_⟩, I.big, I.kept⟩
    · simp only [St.put, lk_cons] at h
      split at h
      · rename_i he
        simp only [Option.some.injEq] at h
        subst h he
        exact ⟨u, by simp [Act.put, ← I.nt, ht], hv⟩
      · rename_i he
        obtain ⟨u', h1, h2⟩ := I.tm t' v' h
        refine ⟨u', ?_, h2⟩
        simp only [Act.put]
        rw [Array.getElem?_setIfInBounds_ne (fun e => he e.symm)]
        exact h1
    · simp only [St.put, lk_cons] at h
      split at h
      · simp only [Option.some.injEq] at h; subst h; exact hn
      · exact I.nmT t' v' h
    · have hne : t ≠ q := by rintro rfl; have := (hd t rfl).2; rw [show (s.put (some t) v).fx = s.fx from rfl, this] at hq; cases hq
      simp only [Act.put]
      rw [Array.getElem?_setIfInBounds_ne hne]
      exact I.df.2 q hq

/-- An object has been laid. -/
theorem inv_made (I : Inv F w0 N s a w g) (hb : ¬ N base) {nw : Option Obj} (m : Made F N g g' w w' base nw) :
    Inv F w0 (fun n => N n ∨ (n = base ∧ nw ≠ none)) (match nw with | some o => s.add base o | none => s) a w' g' := by
  have hlk : ∀ n o, lk s.ob n = some o → n ≠ base := fun n o h e => hb (e ▸ (I.nmO n o h).1)
  have old : ∀ n o, lk s.ob n = some o → OR w' F g' n o := fun n o h =>
    OR_turn m.turn (I.nmO n o h).1 (I.nmO n o h).2 o.safe_none (fun b _ hx => hx) (fun b => by rw [m.fp n (I.nmO n o h).1]) (I.ob n o h)
  have tm : ∀ t v, lk s.tm t = some v → ∃ u, a.tmps[t]? = some u ∧ VT w' F g' v u := fun t v h => by
    obtain ⟨u, h1, h2⟩ := I.tm t v h
    exact ⟨u, h1, VT_turn m.turn (I.nmT t v h) v.safe_none h2⟩
  have kept : Kept F w0.w w' := I.kept.trans ⟨m.kept.os, m.kept.tape, m.kept.output, m.kept.size, fun b hb _ => m.kept.block b hb (fun h => h)⟩
  cases nw with
  | none =>
    refine ⟨old, fun n q o p b h1 h2 hne hb1 hb2 => ?_, fun n o b h hb => ?_, m.bxF, tm, fun t v h => TV.nms_mono (fun _ h => .inl h) (I.nmT t v h), fun n o h => ⟨.inl (I.nmO n o h).1, Obj.nms_mono (fun _ h => .inl h) (I.nmO n o h).2⟩, I.nt, I.df, I.big, kept⟩
    · rw [m.fp n (I.nmO n o h1).1] at hb1
      rw [m.fp q (I.nmO q p h2).1] at hb2
      exact I.dis n q o p b h1 h2 hne hb1 hb2
    · rw [m.fp n (I.nmO n o h).1] at hb
      exact I.inF n o b h hb
  | some o0 =>
    obtain ⟨n1, n2, n3⟩ := m.new o0 rfl
    have oldlt : ∀ n o b, lk s.ob n = some o → g.fp n b → b < w.heap.size := by
      intro n o b h hb
      have := I.ob n o h
      cases o with
      | bx v => obtain ⟨a', T', cur, _, h2, _, h4, _⟩ := this; rw [(h4 b).1 hb]; exact (Array.getElem?_eq_some_iff.1 h2).1
      | ls e k deep xs =>
        obtain ⟨bt, hbt⟩ := OL_bt (fun x _ cs f hR b hb => by
          cases deep with
          | true => exact O_bt (by simpa [LR] using hR) b hb
          | false => simp only [LR, Bool.false_eq_true, if_false] at hR; exact (hR.2 b hb).elim) this.1 b hb
        exact hbt.lt
    refine ⟨fun n o h => ?_, fun n q o p b h1 h2 hne hb1 hb2 => ?_, fun n o b h hfb => ?_, m.bxF, tm, fun t v h => TV.nms_mono (fun _ h => .inl h) (I.nmT t v h), fun n o h => ?_, I.nt, I.df, I.big, kept⟩
    · simp only [St.add, lk_put] at h
      split at h
      · rename_i he; simp only [Option.some.injEq] at h; subst h he; exact n1
      · exact old n o h
    · simp only [St.add, lk_put] at h1 h2
      split at h1
      · rename_i he1
        subst he1
        rw [if_neg (fun e => hne e.symm)] at h2
        rw [m.fp q (I.nmO q p h2).1] at hb2
        have := (n2 b hb1).1
        have := oldlt q p b h2 hb2
        omega
      · split at h2
        · rename_i he1 he2
          subst he2
          rw [m.fp n (I.nmO n o h1).1] at hb1
          have := (n2 b hb2).1
          have := oldlt n o b h1 hb1
          omega
        · rw [m.fp n (I.nmO n o h1).1] at hb1
          rw [m.fp q (I.nmO q p h2).1] at hb2
          exact I.dis n q o p b h1 h2 hne hb1 hb2
    · simp only [St.add, lk_put] at h
      split at h
      · rename_i he; subst he; exact (n2 b hfb).2
      · rw [m.fp n (I.nmO n o h).1] at hfb
        exact I.inF n o b h hfb
    · simp only [St.add, lk_put] at h
      split at h
      · rename_i he
        simp only [Option.some.injEq] at h
        subst h he
        exact ⟨.inr ⟨rfl, by simp⟩, Obj.nms_mono (fun q hq => hq.elim .inl (fun e => .inr ⟨e, by simp⟩)) n3⟩
      · exact ⟨.inl (I.nmO n o h).1, Obj.nms_mono (fun _ h => .inl h) (I.nmO n o h).2⟩

/-! #### A store into a variable -/
theorem put_put_left (c1 c2 l : List Value) (o : Nat) (h : o + l.length ≤ c1.length) : put (c1 ++ c2) o l = put c1 o l ++ c2 := by
  apply List.ext_getElem?
  intro i
  rw [put_get _ _ _ _ (by simp; omega)]
  by_cases h1 : i < c1.length
  · rw [List.getElem?_append_left (l₁ := put c1 o l) (by rw [put_len _ _ _ h]; exact h1), put_get _ _ _ _ h, List.getElem?_append_left h1]
  · rw [if_neg (by omega), List.getElem?_append_right (l₁ := put c1 o l) (by rw [put_len _ _ _ h]; omega), List.getElem?_append_right (by omega), put_len _ _ _ h]

theorem setF_CT2 {u : TV → Option TV} {po : Nat} {ns : List Value} (hu : ∀ y r cy, CT w F g y cy → u y = some r → CT w F g r (put cy po ns) ∧ po + ns.length ≤ cy.length) :
    ∀ {f : Nat} {v v' : TV} {o : Nat} {cs : List Value}, CT w F g v cs → setF f v u = some (o, v') → CT w F g v' (put cs (o + po) ns) ∧ o + po + ns.length ≤ cs.length := by
  intro f
  induction f with
  | zero =>
    intro v v' o cs h hf
    simp only [setF, Option.bind_eq_some_iff, Option.map_eq_some_iff] at hf
    obtain ⟨⟨a, b⟩, hsp, y, hy, he⟩ := hf
    simp only [Prod.mk.injEq] at he
    obtain ⟨rfl, rfl⟩ := he
    obtain ⟨c1, c2, rfl, h1, h2⟩ := split_CT h hsp
    obtain ⟨q1, q2⟩ := hu a y c1 h1 hy
    rw [Nat.zero_add, put_put_left _ _ _ _ q2]
    exact ⟨⟨_, c2, rfl, q1, h2⟩, by simp; omega⟩
  | succ f ih =>
    intro v v' o cs h hf
    simp only [setF, Option.bind_eq_some_iff, Option.map_eq_some_iff] at hf
    obtain ⟨⟨a, b⟩, hsp, ⟨o', y⟩, hy, he⟩ := hf
    simp only [Prod.mk.injEq] at he
    obtain ⟨rfl, rfl⟩ := he
    obtain ⟨c1, c2, rfl, h1, h2⟩ := split_CT h hsp
    obtain ⟨q1, q2⟩ := ih h2 hy
    rw [Nat.add_assoc, put_right _ _ _ _ _ (CT_len h1)]
    exact ⟨⟨c1, _, rfl, h1, q1⟩, by simp [CT_len h1]; omega⟩

theorem sub_put_self (cs l : List Value) (o n p : Nat) (h : o + n ≤ cs.length) (hp : p + l.length ≤ n) : sub (put cs (o + p) l) o n = put (sub cs o n) p l := by
  have hl : (sub cs o n).length = n := by simp [sub]; omega
  apply List.ext_getElem?
  intro i
  by_cases hi : i < n
  · rw [sub_get _ _ _ _ hi, put_get _ _ _ _ (by omega), put_get _ _ _ _ (by omega), sub_get _ _ _ _ hi]
    by_cases h1 : p ≤ i ∧ i < p + l.length
    · rw [if_pos (by omega), if_pos h1]
      congr 1
      omega
    · rw [if_neg (by omega), if_neg h1]
  · rw [List.getElem?_eq_none (by simp [sub]; omega), List.getElem?_eq_none (by rw [put_len _ _ _ (by omega)]; omega)]
theorem sub_put_other (cs l : List Value) (o n p : Nat) (h : p + l.length ≤ cs.length) (hp : p + l.length ≤ o ∨ o + n ≤ p) : sub (put cs p l) o n = sub cs o n := by
  apply List.ext_getElem?
  intro i
  by_cases hi : i < n
  · rw [sub_get _ _ _ _ hi, sub_get _ _ _ _ hi, put_get _ _ _ _ h, if_neg (by omega)]
  · rw [List.getElem?_eq_none (by simp [sub]; omega), List.getElem?_eq_none (by simp [sub]; omega)]

theorem arr_put {ok : Nat → Nat → Nat → Prop} {n i p : Nat} {k : K} {x : List (dn k)} {y : dn k} {cs ns : List Value} (h : C w ok (.arr n k) x cs) (hi : i < n) (hp : p + ns.length ≤ k.sz)
    (hy : C w ok k y (put (sub cs (i * k.sz) k.sz) p ns)) : C w ok (.arr n k) (x.set i y) (put cs (i * k.sz + p) ns) ∧ i * k.sz + p + ns.length ≤ cs.length := by
  obtain ⟨h1, h2, h3⟩ := h
  have hle : i * k.sz + k.sz ≤ cs.length := by
    rw [h2]
    have : (i + 1) * k.sz ≤ n * k.sz := Nat.mul_le_mul_right _ hi
    rwa [Nat.succ_mul] at this
  refine ⟨⟨by simp [h1], by rw [put_len _ _ _ (by omega), h2], fun j hj => ?_⟩, by omega⟩
  have hj' : j < n := by simpa [h1] using hj
  show C w ok k ((x.set i y)[j]) (sub (put cs (i * k.sz + p) ns) (j * k.sz) k.sz)
  rw [List.getElem_set]
  split
  · rename_i he
    subst he
    rw [sub_put_self _ _ _ _ _ hle hp]
    exact hy
  · rename_i he
    rw [sub_put_other _ _ _ _ _ (by omega)]
    · exact h3 j (by rw [h1]; exact hj')
    · rcases Nat.lt_or_gt_of_ne he with hlt | hgt
      · left
        have : (i + 1) * k.sz ≤ j * k.sz := Nat.mul_le_mul_right _ hlt
        rw [Nat.succ_mul] at this
        omega
      · right
        have : (j + 1) * k.sz ≤ i * k.sz := Nat.mul_le_mul_right _ hgt
        rw [Nat.succ_mul] at this
        omega

theorem setP_CT {nv : TV} {ns : List Value} (hn : CT w F g nv ns) : ∀ {path : List Stp} {v r : TV} {cs : List Value}, CT w F g v cs → setP nv path v = some r → pOk path →
    CT w F g r (put cs (pOff path) ns) ∧ pOff path + ns.length ≤ cs.length := by
  intro path
  induction path with
  | nil =>
    intro v r cs h hs _
    simp only [setP] at hs
    split at hs
    · rename_i hc
      simp only [Option.some.injEq] at hs
      subst hs
      have hl : ns.length = cs.length := by rw [CT_len hn, CT_len h, hc.1]
      refine ⟨?_, by simp [pOff, hl]⟩
      have : put cs 0 ns = ns := by simp [put, hl]
      rw [pOff, this]
      exact hn
    · cases hs
  | cons st path ih =>
    intro v r cs h hs hp
    cases st with
    | fld f o =>
      simp only [setP, Option.bind_eq_some_iff] at hs
      obtain ⟨⟨o', y⟩, hy, hs⟩ := hs
      split at hs
      · rename_i he
        simp only [Option.some.injEq] at hs
        simp only at he
        subst hs he
        rw [pOff]
        exact setF_CT2 (fun y r cy h1 h2 => ih h1 h2 hp) h hy
      · cases hs
    | ix i st m =>
      cases v with
      | sc ext k x =>
        cases k with
        | arr n k =>
          simp only [setP] at hs
          split at hs
          · rename_i hc
            obtain ⟨rfl, rfl, hfl⟩ := hc
            split at hs
            · rename_i e' k' y hy
              split at hs
              · rename_i hk
                subst hk
                simp only [Option.some.injEq] at hs
                subst hs
                have hlt : i < List.length x := by rw [h.1]; exact hp.1
                rw [getD_lt _ _ _ hlt] at hy
                obtain ⟨q1, q2⟩ := ih (v := .sc ext k' x[i]) (h.2.2 i hlt) hy hp.2
                have hl : (sub cs (i * k'.sz) k'.sz).length = k'.sz := C_len (h.2.2 i hlt)
                have h3 : pOff path + ns.length ≤ k'.sz := by
                  have : ((cs.drop (i * k'.sz)).take k'.sz).length = k'.sz := hl
                  omega
                have := arr_put h hp.1 h3 (C_flat hfl q1)
                rw [pOff]
                exact this
              · cases hs
            · cases hs
          · cases hs
        | _ => simp [setP] at hs
      | _ => simp [setP] at hs

theorem run_storeVar {t : Nat} (ht : TyOk P T t) {b o : Nat} {cur : Array Value} {tb : Nat} {u : Value} {ds : List Value} (hb : w.heap[b]? = some (.cells cur tb (0, 0))) (hu : u.cells = ds.toArray)
    (hl : ds.length = (T t).sz) (h1 : ∀ x ∈ ds, x.oneCell' = true) (hfit : o + ds.length ≤ cur.size) :
    (storeVar t ⟨b, o, none⟩ u).run P w = .ok () (w.setRow b (put cur.toList o ds).toArray) := by
  obtain ⟨i, hi, hsz, _⟩ := ht.info
  have hr := run_storeCells_at P b o tb ds 0 cur w hb (by simpa using hfit) h1
  simp only [Nat.add_zero] at hr
  have hs : ¬ u.cells.size ≠ i.size := by rw [hu, hsz, ← hl]; simp
  simp [storeVar, Sem.run_bind, sizeOf, typeInfo, hi, hs, hu, hsz, hl]
  exact hr

end
end Go.Vm

/- The value machine, part 14: what a change of a row makes stale; data whose memory is given away. -/
set_option linter.unusedVariables false
set_option linter.unusedSimpArgs false
namespace Go.Vm

def TV.kill (e : Nat) : TV → TV
  | .sc false k x => if k.hasT e then .dead k.sz else .sc false k x
  | .cp false e' k x => if e' = e ∨ k.hasT e = true then .dead 1 else .cp false e' k x
  | .inn .. => .dead 1
  | .pr a b => .pr (a.kill e) (b.kill e)
  | .tc a b => .tc (a.kill e) (b.kill e)
  | .fn f c => .fn f (c.kill e)
  | v => v

/-- Every alias of n is told anew. -/
def TV.sub (n : Nat) (r : TV) : TV → TV
  | .al m => if m = n then r else .al m
  | .pr a b => .pr (TV.sub n r a) (TV.sub n r b)
  | .tc a b => .tc (TV.sub n r a) (TV.sub n r b)
  | .fn f c => .fn f (TV.sub n r c)
  | v => v

def Obj.mapT (f : TV → TV) : Obj → Obj
  | .bx v => .bx (f v)
  | o => o
def mapL {α : Type} (f : α → α) : List (Nat × α) → List (Nat × α)
  | [] => []
  | (n, a) :: r => (n, f a) :: mapL f r
def St.map (f : TV → TV) (s : St) : St := { s with tm := mapL f s.tm, ob := mapL (Obj.mapT f) s.ob }

theorem lk_mapL {α : Type} (f : α → α) (l : List (Nat × α)) (n : Nat) : lk (mapL f l) n = (lk l n).map f := by
  induction l with
  | nil => rfl
  | cons p r ih =>
    obtain ⟨m, x⟩ := p
    simp only [mapL, lk]
    split
    · rfl
    · exact ih

section
variable {P : Program} {T : Nat → K} {w w' : World} {w0 : W0} {F N : Nat → Prop} {g g' : G} {s : St} {a : Act} {base : Nat}

/-- A way to tell slots anew that says no more than before. -/
structure Weak (w : World) (F N : Nat → Prop) (g : G) (f : TV → TV) : Prop where
  ct : ∀ v cs, v.nms N → CT w F g v cs → CT w F g (f v) cs
  vt : ∀ v u, v.nms N → VT w F g v u → VT w F g (f v) u
  nm : ∀ v, v.nms N → (f v).nms N

theorem inv_map (I : Inv F w0 N s a w g) {f : TV → TV} (hf : Weak w F N g f) : Inv F w0 N (s.map f) a w g := by
  have hob : ∀ n o, lk (s.map f).ob n = some o → ∃ o', lk s.ob n = some o' ∧ o = Obj.mapT f o' := by
    intro n o h
    simp only [St.map, lk_mapL, Option.map_eq_some_iff] at h
    obtain ⟨o', h1, h2⟩ := h
    exact ⟨o', h1, h2.symm⟩
  refine ⟨fun n o h => ?_, fun n m o p b h1 h2 hne hb1 hb2 => ?_, fun n o b h hb => ?_, I.bxF, fun t v h => ?_, fun t v h => ?_, fun n o h => ?_, I.nt, I.df, I.big, I.kept⟩
  · obtain ⟨o', h1, rfl⟩ := hob n o h
    have := I.ob n o' h1
    cases o' with
    | bx v =>
      obtain ⟨a', T', cur, q1, q2, q3, q4, q5⟩ := this
      exact ⟨a', T', cur, q1, q2, hf.ct _ _ (I.nmO n _ h1).2 q3, q4, q5⟩
    | ls e k deep xs => exact this
  · obtain ⟨o', h1', rfl⟩ := hob n o h1
    obtain ⟨p', h2', rfl⟩ := hob m p h2
    exact I.dis n m o' p' b h1' h2' hne hb1 hb2
  · obtain ⟨o', h1, rfl⟩ := hob n o h
    exact I.inF n o' b h1 hb
  · simp only [St.map, lk_mapL, Option.map_eq_some_iff] at h
    obtain ⟨v', h1, rfl⟩ := h
    obtain ⟨u, q1, q2⟩ := I.tm t v' h1
    exact ⟨u, q1, hf.vt _ _ (I.nmT t v' h1) q2⟩
  · simp only [St.map, lk_mapL, Option.map_eq_some_iff] at h
    obtain ⟨v', h1, rfl⟩ := h
    exact hf.nm _ (I.nmT t v' h1)
  · obtain ⟨o', h1, rfl⟩ := hob n o h
    refine ⟨(I.nmO n o' h1).1, ?_⟩
    have := (I.nmO n o' h1).2
    cases o' with
    | bx v => exact hf.nm _ this
    | ls e k deep xs => trivial

/-- From cells to values. -/
theorem weak_of {f : TV → TV} (ct : ∀ v cs, v.nms N → CT w F g v cs → CT w F g (f v) cs) (nm : ∀ v, v.nms N → (f v).nms N)
    (hag : ∀ v, (f v).agg = v.agg ∨ ∃ m, f v = .dead m) (htc : ∀ a b, f (.tc a b) = .tc (f a) (f b)) (htn : f .tn = .tn) (hd : ∀ m, f (.dead m) = .dead m)
    (hlv : ∀ v, live v = true → live (f v) = true ∨ ∃ m, f v = .dead m) : Weak w F N g f := by
  refine ⟨ct, fun v => ?_, nm⟩
  have gen : ∀ {v : TV} {u : Value}, live v = true → v.nms N → VT w F g v u → VT w F g (f v) u := by
    intro v u hl hn h
    rcases hag v with ha | ⟨m, hm⟩
    · rcases hlv v hl with hl' | ⟨m, hm⟩
      · cases hva : v.agg with
        | true =>
          obtain ⟨cs, h1, h2⟩ := VT_agg h hva
          have h3 := ct v cs hn h2
          rw [hva] at ha
          have := VT_of_CT (v := f v) h3 (fun hf => by rw [ha] at hf; cases hf)
          rw [ha] at this
          subst h1
          simpa [valOf] using this
        | false =>
          have h2 := ct v [u] hn (VT_leaf h hva hl)
          rw [hva] at ha
          have := VT_of_CT (v := f v) h2 (fun _ => rfl)
          rw [ha] at this
          simpa [valOf] using this
      · rw [hm]; trivial
    · rw [hm]; trivial
  induction v with
  | tc a b iha ihb =>
    intro u hn h
    obtain ⟨v1, vs, h1, h2, h3⟩ := h
    rw [htc]
    exact ⟨v1, vs, h1, iha _ hn.1 h2, ihb _ hn.2 h3⟩
  | tn => intro u _ h; rw [htn]; exact h
  | dead m => intro u _ h; rw [hd]; trivial
  | _ => intro u hn h; exact gen rfl hn h

theorem kill_ct (e : Nat) : ∀ (v : TV) (cs : List Value), v.nms N → CT w F g v cs → CT w F g (v.kill e) cs := by
  intro v
  induction v with
  | sc ext k x =>
    intro cs _ h
    cases ext with
    | true => exact h
    | false =>
      simp only [TV.kill]
      split
      · exact ⟨C_len h, C_one h⟩
      · exact h
  | cp ext e' k x =>
    intro cs _ h
    cases ext with
    | true => exact h
    | false =>
      simp only [TV.kill]
      split
      · exact ⟨CT_len h, CT_one h⟩
      · exact h
  | inn n i st path e' k => intro cs _ h; exact ⟨CT_len h, CT_one h⟩
  | pr a b iha ihb =>
    intro cs hn h
    obtain ⟨c1, c2, rfl, h1, h2⟩ := h
    exact ⟨c1, c2, rfl, iha _ hn.1 h1, ihb _ hn.2 h2⟩
  | fn f c ih =>
    intro cs hn h
    obtain ⟨vs, h1, h2⟩ := h
    exact ⟨vs, h1, ih _ hn h2⟩
  | tc a b => intro cs _ h; exact h.elim
  | _ => intro cs _ h; exact h

theorem weak_kill (e : Nat) : Weak w F N g (TV.kill e) := by
  refine weak_of (kill_ct e) ?_ ?_ (fun _ _ => rfl) rfl (fun _ => rfl) ?_
  · intro v
    induction v with
    | sc ext k x => intro _; cases ext <;> simp only [TV.kill] <;> (try split) <;> trivial
    | cp ext e' k x => intro _; cases ext <;> simp only [TV.kill] <;> (try split) <;> trivial
    | inn => intro _; trivial
    | pr a b iha ihb => exact fun h => ⟨iha h.1, ihb h.2⟩
    | tc a b iha ihb => exact fun h => ⟨iha h.1, ihb h.2⟩
    | fn f c ih => exact ih
    | _ => exact fun h => h
  · intro v
    cases v with
    | sc ext k x =>
      cases ext with
      | true => exact .inl rfl
      | false =>
        simp only [TV.kill]
        split
        · exact .inr ⟨_, rfl⟩
        · exact .inl rfl
    | cp ext e' k x =>
      cases ext with
      | true => exact .inl rfl
      | false =>
        simp only [TV.kill]
        split
        · exact .inr ⟨_, rfl⟩
        · exact .inl rfl
    | inn => exact .inr ⟨_, rfl⟩
    | _ => exact .inl rfl
  · intro v hl
    cases v with
    | sc ext k x =>
      cases ext with
      | true => exact .inl rfl
      | false =>
        simp only [TV.kill]
        split
        · exact .inr ⟨_, rfl⟩
        · exact .inl rfl
    | cp ext e' k x =>
      cases ext with
      | true => exact .inl rfl
      | false =>
        simp only [TV.kill]
        split
        · exact .inr ⟨_, rfl⟩
        · exact .inl rfl
    | inn => exact .inr ⟨_, rfl⟩
    | tc a b => simp [live] at hl
    | tn => simp [live] at hl
    | dead m => simp [live] at hl
    | _ => exact .inl rfl

theorem kill_safe (e : Nat) : ∀ v : TV, (v.kill e).safe (fun q => q = e) False := by
  intro v
  induction v with
  | sc ext k x =>
    cases ext with
    | true => trivial
    | false =>
      simp only [TV.kill]
      split
      · trivial
      · rename_i h; intro q hq he; subst he; exact h hq
  | cp ext e' k x =>
    cases ext with
    | true => trivial
    | false =>
      simp only [TV.kill]
      split
      · trivial
      · rename_i h; exact ⟨fun he => h (.inl he), fun q hq he => by subst he; exact h (.inr hq)⟩
  | inn => trivial
  | pr a b iha ihb => exact ⟨iha, ihb⟩
  | tc a b iha ihb => exact ⟨iha, ihb⟩
  | fn f c ih => exact ih
  | _ => trivial

/-- An alias is told as what can be read. -/
theorem weak_sub {n : Nat} {r : TV} (hr : ∀ cs, CT w F g (.al n) cs → CT w F g r cs) (hrn : r.nms N) (hra : r.agg = false) (hrl : live r = true ∨ ∃ m, r = .dead m) : Weak w F N g (TV.sub n r) := by
  refine weak_of ?_ ?_ ?_ (fun _ _ => rfl) rfl (fun _ => rfl) ?_
  · intro v
    induction v with
    | al m =>
      intro cs _ h
      simp only [TV.sub]
      split
      · rename_i he; subst he; exact hr cs h
      · exact h
    | pr a b iha ihb =>
      intro cs hn h
      obtain ⟨c1, c2, rfl, h1, h2⟩ := h
      exact ⟨c1, c2, rfl, iha _ hn.1 h1, ihb _ hn.2 h2⟩
    | fn f c ih =>
      intro cs hn h
      obtain ⟨vs, h1, h2⟩ := h
      exact ⟨vs, h1, ih _ hn h2⟩
    | tc a b => intro cs _ h; exact h.elim
    | _ => intro cs _ h; exact h
  · intro v
    induction v with
    | al m =>
      intro h
      simp only [TV.sub]
      split
      · exact hrn
      · exact h
    | pr a b iha ihb => exact fun h => ⟨iha h.1, ihb h.2⟩
    | tc a b iha ihb => exact fun h => ⟨iha h.1, ihb h.2⟩
    | fn f c ih => exact ih
    | _ => exact fun h => h
  · intro v
    cases v with
    | al m =>
      simp only [TV.sub]
      split
      · exact .inl hra
      · exact .inl rfl
    | _ => exact .inl rfl
  · intro v hl
    cases v with
    | al m =>
      simp only [TV.sub]
      split
      · exact hrl
      · exact .inl rfl
    | tc a b => simp [live] at hl
    | tn => simp [live] at hl
    | dead m => simp [live] at hl
    | _ => exact .inl rfl

/-- An object is no longer told. -/
def St.rm (s : St) (n : Nat) : St := { s with ob := del n s.ob }
theorem inv_rm (I : Inv F w0 N s a w g) (n : Nat) : Inv F w0 N (s.rm n) a w g := by
  have h : ∀ m o, lk (s.rm n).ob m = some o → lk s.ob m = some o ∧ m ≠ n := by
    intro m o h
    simp only [St.rm, lk_del] at h
    split at h
    · cases h
    · rename_i hne; exact ⟨h, hne⟩
  exact ⟨fun m o k => I.ob m o (h m o k).1, fun m q o p b h1 h2 => I.dis m q o p b (h m o h1).1 (h q p h2).1, fun m o b k => I.inF m o b (h m o k).1, I.bxF, I.tm, I.nmT, fun m o k => I.nmO m o (h m o k).1, I.nt, I.df, I.big, I.kept⟩

/-- Names whose rows are given away: their aliases are read-only from now on. -/
def St.give (s : St) : List Nat → St
  | [] => s
  | n :: r =>
    match lk s.ob n with
    | some (.ls e k _ xs) => ((s.map (TV.sub n (.sc false (.sl e k) xs))).rm n).give r
    | _ => (s.rm n).give r

theorem inv_give : ∀ {ns : List Nat} {s : St}, Inv F w0 N s a w g → Inv F w0 N (s.give ns) a w g := by
  intro ns
  induction ns with
  | nil => exact fun I => I
  | cons n r ih =>
    intro s I
    simp only [St.give]
    split
    · rename_i e k deep xs hn
      refine ih (inv_rm (inv_map I (weak_sub (fun cs h => ?_) (show TV.nms N (.sc false (.sl e k) xs) from trivial) rfl (.inl rfl))) n)
      obtain ⟨h1, _⟩ := h
      subst h1
      exact OR_C (I.ob n _ hn)
    · exact ih (inv_rm I n)

theorem give_lk : ∀ {ns : List Nat} {s : St} {m : Nat} {o : Obj}, lk (s.give ns).ob m = some o → ∃ o', lk s.ob m = some o' ∧ (∀ e k deep xs, o = .ls e k deep xs ↔ o' = .ls e k deep xs) ∧ m ∉ ns := by
  intro ns
  induction ns with
  | nil => intro s m o h; exact ⟨o, h, fun _ _ _ _ => Iff.rfl, by simp⟩
  | cons n r ih =>
    intro s m o h
    simp only [St.give] at h
    split at h
    · obtain ⟨o1, h1, h2, h3⟩ := ih h
      simp only [St.rm, lk_del, St.map, lk_mapL] at h1
      split at h1
      · cases h1
      · rename_i hne
        simp only [Option.map_eq_some_iff] at h1
        obtain ⟨o2, h4, rfl⟩ := h1
        refine ⟨o2, h4, fun e k deep xs => (h2 e k deep xs).trans ?_, by simp [hne, h3]⟩
        cases o2 <;> simp [Obj.mapT]
    · obtain ⟨o1, h1, h2, h3⟩ := ih h
      simp only [St.rm, lk_del] at h1
      split at h1
      · cases h1
      · rename_i hne
        exact ⟨o1, h1, h2, by simp [hne, h3]⟩

/-- Data whose rows can be given away: with the names of the rows. -/
def packO (lo : Nat → Option Obj) : (k : K) → TV → Option (dn k × List Nat)
  | .sl e k, .al n =>
    match lo n with
    | some (.ls e' k' true xs) => if h : e' = e ∧ k' = k then some (h.2 ▸ xs, [n]) else none
    | _ => none
  | .sl _ _, .z => some ([], [])
  | .sl _ _, _ => none
  | .pr a b, v => (split v).bind fun p => (packO lo a p.1).bind fun x => (packO lo b p.2).map fun y => ((x.1, y.1), x.2 ++ y.2)
  | k, v => (flatD k v).map fun x => (x, [])

theorem packO_O (I : Inv F w0 N s a w g) : ∀ {k : K} {v : TV} {x : dn k} {ns : List Nat} {cs : List Value}, CT w F g v cs → packO (lk s.ob) k v = some (x, ns) → ns.Nodup →
    O w k x cs (fun b => ∃ n ∈ ns, g.fp n b) ∧ ∀ n ∈ ns, ∃ o, lk s.ob n = some o := by
  intro k
  have flat : ∀ {k : K} {v : TV} {x : dn k} {ns : List Nat} {cs : List Value}, CT w F g v cs → ((flatD k v).map fun x => (x, ([] : List Nat))) = some (x, ns) → O w k x cs (fun b => ∃ n ∈ ns, g.fp n b) ∧ ∀ n ∈ ns, ∃ o, lk s.ob n = some o := by
    intro k v x ns cs h hp
    simp only [Option.map_eq_some_iff, Prod.mk.injEq] at hp
    obtain ⟨y, hy, rfl, rfl⟩ := hp
    obtain ⟨h1, h2⟩ := flatD_C h hy
    refine ⟨?_, by simp⟩
    have := O_of_flat (ok := fun _ _ _ => True) h1 (h2 w _)
    simpa using this
  induction k with
  | sl e k ih =>
    intro v x ns cs h hp hnd
    cases v with
    | al n =>
      simp only [packO] at hp
      split at hp
      · rename_i e' k' xs hn
        split at hp
        · rename_i he
          obtain ⟨rfl, rfl⟩ := he
          simp only [Option.some.injEq, Prod.mk.injEq] at hp
          obtain ⟨rfl, rfl⟩ := hp
          obtain ⟨h1, _⟩ := h
          obtain ⟨h2, _⟩ := I.ob n _ hn
          refine ⟨⟨_, h1, ?_⟩, by simp; exact ⟨_, hn⟩⟩
          have hfp : (fun b => ∃ m ∈ [n], g.fp m b) = g.fp n := by funext b; simp
          rw [hfp]
          refine OL_imp (fun _ _ => rfl) (fun x _ cs f _ hR => ?_) h2
          simpa [LR] using hR
        · cases hp
      · cases hp
    | z =>
      simp only [packO, Option.some.injEq, Prod.mk.injEq] at hp
      obtain ⟨rfl, rfl⟩ := hp
      obtain ⟨A, rfl⟩ := h
      exact ⟨⟨_, rfl, .inl ⟨rfl, ⟨A, rfl⟩, by simp⟩⟩, by simp⟩
    | _ => simp [packO] at hp
  | pr ka kb iha ihb =>
    intro v x ns cs h hp hnd
    simp only [packO, Option.bind_eq_some_iff, Option.map_eq_some_iff, Prod.mk.injEq] at hp
    obtain ⟨⟨va, vb⟩, hsp, ⟨xa, na⟩, hxa, ⟨xb, nb⟩, hxb, rfl, rfl⟩ := hp
    obtain ⟨c1, c2, rfl, h1, h2⟩ := split_CT h hsp
    rw [List.nodup_append] at hnd
    obtain ⟨q1, q2⟩ := iha h1 hxa hnd.1
    obtain ⟨q3, q4⟩ := ihb h2 hxb hnd.2.1
    refine ⟨⟨c1, c2, _, _, rfl, q1, q3, fun b ⟨n, hn, hb⟩ ⟨m, hm, hb'⟩ => ?_, fun b => ?_⟩, fun n hn => ?_⟩
    · obtain ⟨o, ho⟩ := q2 n hn
      obtain ⟨p, hp⟩ := q4 m hm
      exact I.dis n m o p b ho hp (fun e => hnd.2.2 n hn m hm e) hb hb'
    · simp only [List.mem_append]
      constructor
      · rintro ⟨n, hn | hn, hb⟩
        · exact .inl ⟨n, hn, hb⟩
        · exact .inr ⟨n, hn, hb⟩
      · rintro (⟨n, hn, hb⟩ | ⟨n, hn, hb⟩)
        · exact ⟨n, .inl hn, hb⟩
        · exact ⟨n, .inr hn, hb⟩
    · rcases List.mem_append.1 hn with hn | hn
      · exact q2 n hn
      · exact q4 n hn
  | int ik => intro v x ns cs h hp hnd; exact flat h hp
  | bool => intro v x ns cs h hp hnd; exact flat h hp
  | str => intro v x ns cs h hp hnd; exact flat h hp
  | arr n k ih => intro v x ns cs h hp hnd; exact flat h hp
  | un => intro v x ns cs h hp hnd; exact flat h hp

end
end Go.Vm

/- The value machine, part 15: an object is replaced: stores into variables and into rows. -/
set_option linter.unusedVariables false
set_option linter.unusedSimpArgs false
namespace Go.Vm

section
variable {P : Program} {T : Nat → K} {w w' : World} {w0 : W0} {F N : Nat → Prop} {g g' : G} {s : St} {a : Act} {base : Nat}

theorem inv_set {X E : Nat → Prop} {J : Prop} {N1 : Nat → Prop} (I : Inv F w0 N s a w g) {n : Nat} {o' : Obj} (hn : N n) (turn : Turn X E J N1 F g g' w w')
    (ht : ∀ t v, lk s.tm t = some v → v.nms N1 ∧ v.safe E J) (ho : ∀ m o, lk s.ob m = some o → m ≠ n → N1 m ∧ o.nms N1 ∧ o.safe E J ∧ ∀ b, g.fp m b → ¬ X b)
    (hfp : ∀ m, m ≠ n → g'.fp m = g.fp m) (hnew : OR w' F g' n o') (hnm : o'.nms N) (hF : ∀ b, g'.fp n b → F b) (hdis : ∀ m o b, lk s.ob m = some o → m ≠ n → g.fp m b → g'.fp n b → False)
    (hbx : ∀ b, g'.Bx b → b < w'.heap.size) (kept : Kept F w w') : Inv F w0 N (s.add n o') a w' g' := by
  refine ⟨fun m o h => ?_, fun m q o p b h1 h2 hne hb1 hb2 => ?_, fun m o b h hb => ?_, hbx, fun t v h => ?_, I.nmT, fun m o h => ?_, I.nt, I.df, I.big, I.kept.trans kept⟩
  · simp only [St.add, lk_put] at h
    split at h
    · rename_i he; simp only [Option.some.injEq] at h; subst h he; exact hnew
    · rename_i he
      obtain ⟨q1, q2, q3, q4⟩ := ho m o h he
      exact OR_turn turn q1 q2 q3 q4 (fun b => by rw [hfp m he]) (I.ob m o h)
  · simp only [St.add, lk_put] at h1 h2
    split at h1
    · rename_i he1
      subst he1
      rw [if_neg (fun e => hne e.symm)] at h2
      rw [hfp q (fun e => hne e.symm)] at hb2
      exact hdis q p b h2 (fun e => hne e.symm) hb2 hb1
    · rename_i he1
      rw [hfp m he1] at hb1
      split at h2
      · rename_i he2
        subst he2
        exact hdis m o b h1 he1 hb1 hb2
      · rename_i he2
        rw [hfp q he2] at hb2
        exact I.dis m q o p b h1 h2 hne hb1 hb2
  · simp only [St.add, lk_put] at h
    split at h
    · rename_i he; subst he; exact hF b hb
    · rename_i he
      rw [hfp m he] at hb
      exact I.inF m o b h hb
  · obtain ⟨u, h1, h2⟩ := I.tm t v h
    exact ⟨u, h1, VT_turn turn (ht t v h).1 (ht t v h).2 h2⟩
  · simp only [St.add, lk_put] at h
    split at h
    · rename_i he; simp only [Option.some.injEq] at h; subst h he; exact ⟨hn, hnm⟩
    · exact I.nmO m o h

theorem setRow_kept {b : Nat} {cs : Array Value} (hb : F b) : Kept F w (w.setRow b cs) :=
  ⟨rfl, rfl, rfl, by simp, fun c _ hc => setRow_other w b c cs (fun e => hc (e ▸ hb))⟩

/-- A store into a variable, or a part of it. -/
theorem run_store_bp (hT : TOk P T) (I : Inv F w0 N s a w g) {o : Oper} {t n : Nat} {p x : Operand} {path : List Stp} {c c' v : TV} (ho : o.op = .store t p x) (h : evo (lk s.tm) p = some (.bp n path))
    (hx : evo (lk s.tm) x = some v) (hn : lk s.ob n = some (.bx c)) (hs : setP v path c = some c') (hsz : v.sz = (T t).sz) (hl : live v = true) (ht : T t ≠ .un) :
    ∃ w', (execOp a.eval o).run P w = .ok .skip w' ∧ Inv F w0 N (s.add n (.bx c')) a w' g := by
  obtain ⟨b, h1, h2, h3⟩ := VT_leaf (eval_VT I h) rfl rfl
  simp only [List.cons.injEq, and_true] at h3
  obtain ⟨b', Tb, cur, h4, h5, h6, h7, h8⟩ := I.ob n _ hn
  rw [h1] at h4
  have hbb : b = b' := by simpa using h4
  subst hbb
  obtain ⟨ds, hds, hC⟩ := VT_cells (eval_VT I hx) hl
  obtain ⟨q1, q2⟩ := setP_CT hC h6 hs h2
  have hlen : ds.length = (T t).sz := by rw [CT_len hC, hsz]
  have hr := run_storeVar (P := P) (hT t ht) h5 hds hlen (CT_one hC) (o := pOff path) (by simpa using q2)
  have hbF : F b := I.inF n _ b hn ((h7 b).2 rfl)
  have turn : Turn (fun c => c = b) (fun _ => False) True N F g g w (w.setRow b (put cur.toList (pOff path) ds).toArray) :=
    ⟨fun c hc hne => setRow_other w b c _ hne, fun c hc => by subst hc; exact hbF, fun c bt hc hx _ => by subst hc; exact hx h8, fun _ c hc => by subst hc; exact h8, fun _ _ => Iff.rfl, fun _ _ => rfl⟩
  refine ⟨_, ?_, inv_set I (I.nmO n _ hn).1 turn (fun t v h => ⟨I.nmT t v h, v.safe_none⟩) (fun m o h hne => ⟨(I.nmO m o h).1, (I.nmO m o h).2, o.safe_none, fun c hc he => ?_⟩) (fun _ _ => rfl) ?_ ?_ (fun c hc => I.inF n _ c hn hc) ?_ ?_ (setRow_kept hbF)⟩
  · simp [execOp, ho, Instr.storeAt, h3, Instr.sureAddr, hr]
  · subst he
    exact I.dis m n o _ c h hn hne hc ((h7 c).2 rfl)
  · have hcn : c'.nms N := setP_nms (evo_nms I hx) (I.nmO n _ hn).2 hs
    exact ⟨b, Tb, _, h1, setRow_heap w b cur _ Tb (0, 0) h5, CT_turn turn hcn c'.safe_none (by simpa using q1), h7, h8⟩
  · exact setP_nms (evo_nms I hx) (I.nmO n _ hn).2 hs
  · intro m o c h hne hc hc2
    exact I.dis m n o _ c h hn hne hc hc2
  · intro c hc
    have := I.bxF c hc
    simpa using this

theorem O_flat_fp : ∀ {k : K} {x : dn k} {cs : List Value} {fp : Nat → Prop}, k.flat = true → O w k x cs fp → ∀ b, ¬ fp b := by
  intro k
  induction k with
  | int ik => intro x cs fp _ h; exact h.2
  | bool => intro x cs fp _ h; exact h.2
  | str => intro x cs fp _ h; exact h.2
  | sl e k ih => intro x cs fp hf h; simp [K.flat] at hf
  | arr n k ih => intro x cs fp _ h; exact h.2
  | pr ka kb iha ihb =>
    intro x cs fp hf h b hb
    simp only [K.flat, Bool.and_eq_true] at hf
    obtain ⟨c1, c2, f1, f2, rfl, h1, h2, h3, h4⟩ := h
    rcases (h4 b).1 hb with h | h
    · exact iha hf.1 h1 b h
    · exact ihb hf.2 h2 b h
  | un => intro x cs fp _ h; exact h.2

/-- One field of a chain is given another datum. -/
theorem updF_O {po : Nat} {ns : List Value} {u : (k' : K) → dn k' → Option (dn k')}
    (hu : ∀ k y r cy f, O w k y cy f → u k y = some r → O w k r (put cy po ns) f ∧ po + ns.length ≤ cy.length) :
    ∀ {k : K} {f o : Nat} {k' : K} {x x' : dn k} {cs : List Value} {fp : Nat → Prop}, O w k x cs fp → fldO k f = some (o, k') → updF k f x u = some x' → O w k x' (put cs (o + po) ns) fp ∧ o + po + ns.length ≤ cs.length := by
  intro k
  induction k with
  | pr ka kb iha ihb =>
    intro f o k' x x' cs fp h hf hx
    obtain ⟨c1, c2, f1, f2, rfl, h1, h2, h3, h4⟩ := h
    cases f with
    | zero =>
      simp only [fldO, Option.some.injEq, Prod.mk.injEq] at hf
      obtain ⟨rfl, rfl⟩ := hf
      simp only [updF, Option.map_eq_some_iff] at hx
      obtain ⟨y, hy, rfl⟩ := hx
      obtain ⟨q1, q2⟩ := hu _ _ _ _ _ h1 hy
      rw [Nat.zero_add, put_put_left _ _ _ _ q2]
      exact ⟨⟨_, c2, f1, f2, rfl, q1, h2, h3, h4⟩, by simp; omega⟩
    | succ f =>
      simp only [fldO, Option.map_eq_some_iff, Prod.mk.injEq] at hf
      obtain ⟨⟨o1, k1⟩, hf, rfl, rfl⟩ := hf
      simp only [updF, Option.map_eq_some_iff] at hx
      obtain ⟨y, hy, rfl⟩ := hx
      obtain ⟨q1, q2⟩ := ihb h2 hf hy
      rw [Nat.add_assoc, put_right _ _ _ _ _ (O_len h1)]
      exact ⟨⟨c1, _, f1, f2, rfl, h1, q1, h3, h4⟩, by simp [O_len h1]; omega⟩
  | _ => intro f o k' x x' cs fp h hf; simp [fldO] at hf

theorem updF_C {ok : Nat → Nat → Nat → Prop} {po : Nat} {ns : List Value} {u : (k' : K) → dn k' → Option (dn k')}
    (hu : ∀ k y r cy, C w ok k y cy → u k y = some r → C w ok k r (put cy po ns) ∧ po + ns.length ≤ cy.length) :
    ∀ {k : K} {f o : Nat} {k' : K} {x x' : dn k} {cs : List Value}, C w ok k x cs → fldO k f = some (o, k') → updF k f x u = some x' → C w ok k x' (put cs (o + po) ns) ∧ o + po + ns.length ≤ cs.length := by
  intro k
  induction k with
  | pr ka kb iha ihb =>
    intro f o k' x x' cs h hf hx
    obtain ⟨c1, c2, rfl, h1, h2⟩ := h
    cases f with
    | zero =>
      simp only [fldO, Option.some.injEq, Prod.mk.injEq] at hf
      obtain ⟨rfl, rfl⟩ := hf
      simp only [updF, Option.map_eq_some_iff] at hx
      obtain ⟨y, hy, rfl⟩ := hx
      obtain ⟨q1, q2⟩ := hu _ _ _ _ h1 hy
      rw [Nat.zero_add, put_put_left _ _ _ _ q2]
      exact ⟨⟨_, c2, rfl, q1, h2⟩, by simp; omega⟩
    | succ f =>
      simp only [fldO, Option.map_eq_some_iff, Prod.mk.injEq] at hf
      obtain ⟨⟨o1, k1⟩, hf, rfl, rfl⟩ := hf
      simp only [updF, Option.map_eq_some_iff] at hx
      obtain ⟨y, hy, rfl⟩ := hx
      obtain ⟨q1, q2⟩ := ihb h2 hf hy
      rw [Nat.add_assoc, put_right _ _ _ _ _ (C_len h1)]
      exact ⟨⟨c1, _, rfl, h1, q1⟩, by simp [C_len h1]; omega⟩
  | _ => intro f o k' x x' cs h hf; simp [fldO] at hf

theorem setD_C {ok : Nat → Nat → Nat → Prop} {kn : K} {xn : dn kn} {ns : List Value} (hn : C w ok kn xn ns) : ∀ {path : List Stp} {k : K} {x x' : dn k} {cs : List Value}, C w ok k x cs → setD kn xn path k x = some x' → pOk path →
    C w ok k x' (put cs (pOff path) ns) ∧ pOff path + ns.length ≤ cs.length := by
  intro path
  induction path with
  | nil =>
    intro k x x' cs h hs _
    simp only [setD] at hs
    split at hs
    · rename_i hk
      subst hk
      simp only [Option.some.injEq] at hs
      subst hs
      have hl : ns.length = cs.length := by rw [C_len hn, C_len h]
      refine ⟨?_, by simp [pOff, hl]⟩
      have : put cs 0 ns = ns := by simp [put, hl]
      rw [pOff, this]
      exact hn
    · cases hs
  | cons st path ih =>
    intro k x x' cs h hs hp
    cases st with
    | fld f o =>
      simp only [setD] at hs
      cases hf : fldO k f with
      | none => rw [hf] at hs; cases hs
      | some q =>
        obtain ⟨o', k1⟩ := q
        rw [hf] at hs
        simp only at hs
        split at hs
        · rename_i he
          subst he
          rw [pOff]
          exact updF_C (fun k y r cy h1 h2 => ih h1 h2 hp) h hf hs
        · cases hs
    | ix i st m =>
      cases k with
      | arr n k =>
        simp only [setD] at hs
        split at hs
        · rename_i hc
          obtain ⟨rfl, rfl, hfl⟩ := hc
          simp only [Option.map_eq_some_iff] at hs
          obtain ⟨y, hy, rfl⟩ := hs
          have hlt : i < List.length x := by rw [h.1]; exact hp.1
          rw [getD_lt _ _ _ hlt] at hy
          obtain ⟨q1, q2⟩ := ih (h.2.2 i hlt) hy hp.2
          have hl : (sub cs (i * k.sz) k.sz).length = k.sz := C_len (h.2.2 i hlt)
          have h3 : pOff path + ns.length ≤ k.sz := by
            have : ((cs.drop (i * k.sz)).take k.sz).length = k.sz := hl
            omega
          rw [pOff]
          exact arr_put h hp.1 h3 q1
        · cases hs
      | _ => simp [setD] at hs

theorem setD_O {kn : K} {xn : dn kn} {ns : List Value} (hfl : kn.flat = true) (hn : ∀ ok, C w ok kn xn ns) : ∀ {path : List Stp} {k : K} {x x' : dn k} {cs : List Value} {fp : Nat → Prop}, O w k x cs fp → setD kn xn path k x = some x' → pOk path →
    O w k x' (put cs (pOff path) ns) fp ∧ pOff path + ns.length ≤ cs.length := by
  intro path
  induction path with
  | nil =>
    intro k x x' cs fp h hs _
    simp only [setD] at hs
    split at hs
    · rename_i hk
      subst hk
      simp only [Option.some.injEq] at hs
      subst hs
      have hl : ns.length = cs.length := by rw [C_len (hn (fun _ _ _ => True)), O_len h]
      refine ⟨?_, by simp [pOff, hl]⟩
      have : put cs 0 ns = ns := by simp [put, hl]
      rw [pOff, this]
      have h2 := O_of_flat hfl (hn (fun _ _ _ => True))
      have : fp = fun _ => False := by funext b; exact propext ⟨fun hb => O_flat_fp hfl h b hb, fun h => h.elim⟩
      rw [this]
      exact h2
    · cases hs
  | cons st path ih =>
    intro k x x' cs fp h hs hp
    cases st with
    | fld f o =>
      simp only [setD] at hs
      cases hf : fldO k f with
      | none => rw [hf] at hs; cases hs
      | some q =>
        obtain ⟨o', k1⟩ := q
        rw [hf] at hs
        simp only at hs
        split at hs
        · rename_i he
          subst he
          rw [pOff]
          exact updF_O (fun k y r cy f h1 h2 => ih h1 h2 hp) h hf hs
        · cases hs
    | ix i st m =>
      cases k with
      | arr n k =>
        have hs' := hs
        obtain ⟨q1, q2⟩ := setD_C (hn (fun _ _ _ => False)) (path := .ix i st m :: path) h.1 hs hp
        exact ⟨⟨q1, h.2⟩, q2⟩
      | _ => simp [setD] at hs

end
end Go.Vm

/- The value machine, part 16: stores into rows. -/
set_option linter.unusedVariables false
set_option linter.unusedSimpArgs false
namespace Go.Vm

/-- May rows of element type e turn? (rows whose elements are only read must not lead to such) -/
def rowsOk (e : Nat) : List (Nat × Obj) → Bool
  | [] => true
  | (_, .ls _ k deep _) :: r => (deep || !k.hasT e) && rowsOk e r
  | _ :: r => rowsOk e r

theorem rowsOk_lk {e : Nat} : ∀ {l : List (Nat × Obj)}, rowsOk e l = true → ∀ n o, lk l n = some o → match o with | .ls _ k deep _ => deep = true ∨ k.hasT e = false | _ => True := by
  intro l
  induction l with
  | nil => intro _ n o h; simp [lk] at h
  | cons p r ih =>
    intro h n o hl
    obtain ⟨m, q⟩ := p
    cases q with
    | bx v =>
      simp only [rowsOk] at h
      simp only [lk] at hl
      split at hl
      · simp only [Option.some.injEq] at hl; subst hl; trivial
      · exact ih h n o hl
    | ls e' k deep xs =>
      simp only [rowsOk, Bool.and_eq_true, Bool.or_eq_true, Bool.not_eq_true'] at h
      simp only [lk] at hl
      split at hl
      · simp only [Option.some.injEq] at hl; subst hl; exact h.1
      · exact ih h.2 n o hl

section
variable {P : Program} {T : Nat → K} {w w' : World} {w0 : W0} {F N : Nat → Prop} {g g' : G} {s : St} {a : Act} {base : Nat}

theorem killed_safe {e : Nat} (hr : rowsOk e s.ob = true) : (∀ t v, lk (s.map (TV.kill e)).tm t = some v → v.safe (fun q => q = e) False) ∧ ∀ n o, lk (s.map (TV.kill e)).ob n = some o → o.safe (fun q => q = e) False := by
  constructor
  · intro t v h
    simp only [St.map, lk_mapL, Option.map_eq_some_iff] at h
    obtain ⟨v', _, rfl⟩ := h
    exact kill_safe e v'
  · intro n o h
    simp only [St.map, lk_mapL, Option.map_eq_some_iff] at h
    obtain ⟨o', h1, rfl⟩ := h
    cases o' with
    | bx v => exact kill_safe e v
    | ls e' k deep xs =>
      have := rowsOk_lk hr n _ h1
      simp only at this
      rcases this with h | h
      · exact .inl h
      · refine .inr fun q hq he => ?_
        subst he
        rw [h] at hq
        cases hq

/-- One element of a row is told anew. -/
theorem row_set {n e : Nat} (I : Inv F w0 N s a w g) (hst : ∀ t v, lk s.tm t = some v → v.safe (fun q => q = e) False) (hso : ∀ m o, lk s.ob m = some o → o.safe (fun q => q = e) False) {k : K} {deep : Bool} {xs : List (dn k)}
    (hn : lk s.ob n = some (.ls e k deep xs)) {b m c i off : Nat} (hh : g.hd n = .slice (some ⟨b, 0, none⟩) m c) (hi : i < m) {x' : dn k} {ns : List Value} (hfit : off + ns.length ≤ k.sz) {U : Nat → Prop}
    (hR : ∀ (hl : i < xs.length) ds fi, LR w F g deep k xs[i] ds fi → ∃ fi', LR w F g deep k x' (put ds off ns) fi' ∧ ∀ q, fi' q → fi q ∨ U q) (hU : ∀ q, U q → F q ∧ ¬ g.Bx q ∧ ∀ m o, lk s.ob m = some o → ¬ g.fp m q) :
    ∃ cur, w.heap[b]? = some (.cells cur e (0, 0)) ∧ i * k.sz + off + ns.length ≤ cur.size ∧
      ∃ g', Inv F w0 N (s.add n (.ls e k deep (xs.set i x'))) a (w.setRow b (put cur.toList (i * k.sz + off) ns).toArray) g' := by
  obtain ⟨hm, hbx, hfb, cur, f, ds, hcur, hc1, hc2, hcs, hds, hdis, hnot, hfp⟩ := row_of (I.ob n _ hn) hh hi
  subst hm
  obtain ⟨hRi, hdl, hdc⟩ := hds i hi
  obtain ⟨fi', hRi', hsub⟩ := hR hi _ _ hRi
  have hle : i * k.sz + k.sz ≤ cur.size := by
    rw [hcs]
    have : (i + 1) * k.sz ≤ c * k.sz := Nat.mul_le_mul_right _ (by omega)
    rwa [Nat.succ_mul] at this
  have hlen : i * k.sz + off + ns.length ≤ cur.toList.length := by simp; omega
  refine ⟨cur, hcur, by omega, ?_⟩
  have hbF : F b := I.inF n _ b hn hfb
  generalize hw' : w.setRow b (put cur.toList (i * k.sz + off) ns).toArray = w'
  let fj : Nat → Nat → Prop := fun j => if j = i then fi' else f j
  let g' : G := { hd := g.hd, fp := fun q => if q = n then (fun r => r = b ∨ ∃ j, j < xs.length ∧ fj j r) else g.fp q, Bx := g.Bx }
  have turn : Turn (fun q => q = b) (fun q => q = e) False N F g g' w w' := by
    subst hw'
    refine ⟨fun q hq hne => setRow_other w b q _ hne, fun q hq => by subst hq; exact hbF, fun q bt hq hx hbt => ?_, fun h => h.elim, fun _ _ => Iff.rfl, fun _ _ => rfl⟩
    subst hq
    obtain ⟨cur2, fr, hc⟩ := hbt
    rw [hcur] at hc
    simp only [Option.some.injEq, Go.Obj.cells.injEq] at hc
    exact hc.2.1.symm
  have hb_not : ∀ j, j < xs.length → ¬ fj j b := by
    intro j hj hfj
    simp only [fj] at hfj
    split at hfj
    · rcases hsub b hfj with h | h
      · exact hnot i hi h
      · exact (hU b h).2.2 n _ hn hfb
    · exact hnot j hj hfj
  have hfj_sub : ∀ j q, j < xs.length → fj j q → g.fp n q ∨ U q := by
    intro j q hj hq
    simp only [fj] at hq
    split at hq
    · rcases hsub q hq with h | h
      · exact .inl ((hfp q).2 (.inr ⟨i, hi, h⟩))
      · exact .inr h
    · exact .inl ((hfp q).2 (.inr ⟨j, hj, hq⟩))
  have lr : ∀ (j : Nat) (x : dn k) dd ff, (∀ q, ff q → q ≠ b) → LR w F g deep k x dd ff → LR w' F g' deep k x dd ff := by
    intro j x dd ff hne h
    cases deep with
    | true =>
      simp only [LR, if_true] at h ⊢
      exact O_move (fun q hq => by subst hw'; exact setRow_other w b q _ (hne q hq)) h
    | false =>
      simp only [LR, Bool.false_eq_true, if_false] at h ⊢
      have hs := hso n _ hn
      have hs' : ∀ q, k.hasT q = true → ¬ q = e := by
        rcases hs with h | h
        · cases h
        · exact h
      have hc := C_turn (ext := false) turn (fun _ => hs') (show C w (oks F g.Bx false) k x dd by simpa [oks] using h.1)
      exact ⟨by simpa [oks] using hc, h.2⟩
  refine ⟨g', inv_set I (I.nmO n _ hn).1 turn (fun t v h => ⟨I.nmT t v h, hst t v h⟩) (fun q o h hne => ⟨(I.nmO q o h).1, (I.nmO q o h).2, hso q o h, fun r hr he => ?_⟩) (fun q hq => by simp [g', hq]) ⟨?_, ?_⟩ trivial (fun q hq => ?_) ?_ ?_ (by subst hw'; exact setRow_kept hbF)⟩
  · subst he
    exact I.dis q n o _ r h hn hne hr hfb
  · refine .inr ⟨b, c, (put cur.toList (i * k.sz + off) ns).toArray, fj, fun j => if j = i then put (ds i) off ns else ds j, by simpa [g'] using hh, by subst hw'; exact setRow_heap w b cur _ e (0, 0) hcur, by simpa using hc1, hc2, by
      simp only [List.size_toArray]; rw [put_len _ _ _ hlen]; simpa using hcs, fun j hj => ?_, fun j j' hj hj' hne q h1 h2 => ?_, fun j hj => hb_not j (by simpa using hj), fun q => by simp [g']⟩
    · have hj' : j < xs.length := by simpa using hj
      by_cases hji : j = i
      · subst hji
        simp only [fj, if_true, List.getElem_set_self]
        refine ⟨lr j _ _ _ (fun q hq he => ?_) hRi', ?_, fun r hr => ?_⟩
        · subst he
          have := hb_not j hj'
          simp only [fj, if_true] at this
          exact this hq
        · rw [put_len _ _ _ (by omega), hdl]
        · simp only [List.getElem?_toArray]
          rw [put_get _ _ _ _ hlen, put_get _ _ _ _ (by omega)]
          by_cases h1 : off ≤ r ∧ r < off + ns.length
          · rw [if_pos (by omega), if_pos h1]
            congr 1
            omega
          · rw [if_neg (by omega), if_neg h1]
            have := hdc r hr
            simpa using this
      · simp only [fj, if_neg hji]
        rw [List.getElem_set_ne (fun e => hji e.symm)]
        obtain ⟨q1, q2, q3⟩ := hds j hj'
        refine ⟨lr j _ _ _ (fun q hq he => by subst he; exact hnot j hj' hq) q1, q2, fun r hr => ?_⟩
        simp only [List.getElem?_toArray]
        rw [put_get _ _ _ _ hlen, if_neg]
        · have := q3 r hr
          simpa using this
        · intro h
          rcases Nat.lt_or_gt_of_ne hji with hlt | hgt
          · have : (j + 1) * k.sz ≤ i * k.sz := Nat.mul_le_mul_right _ hlt
            rw [Nat.succ_mul] at this
            omega
          · have : (i + 1) * k.sz ≤ j * k.sz := Nat.mul_le_mul_right _ hgt
            rw [Nat.succ_mul] at this
            omega
    · have hj2 : j < xs.length := by simpa using hj
      have hj2' : j' < xs.length := by simpa using hj'
      have key : ∀ j1 j2, j1 < xs.length → j2 < xs.length → j1 ≠ j2 → j2 ≠ i → fj j1 q → f j2 q → False := by
        intro j1 j2 l1 l2 hne12 hj2i k1 k2
        by_cases he : j1 = i
        · have k1' : fi' q := by simpa [fj, he] using k1
          rcases hsub q k1' with h | h
          · exact hdis i j2 hi l2 (fun e => hj2i e.symm) q h k2
          · exact (hU q h).2.2 n _ hn ((hfp q).2 (.inr ⟨j2, l2, k2⟩))
        · have k1' : f j1 q := by simpa [fj, he] using k1
          exact hdis j1 j2 l1 l2 hne12 q k1' k2
      by_cases h : j' = i
      · have hji : j ≠ i := fun e => hne (e.trans h.symm)
        have h1' : f j q := by simpa [fj, hji] using h1
        exact key j' j hj2' hj2 (fun e => hne e.symm) hji h2 h1'
      · have h2' : f j' q := by simpa [fj, h] using h2
        exact key j j' hj2 hj2' hne h h1 h2'
  · intro q hq
    simp only [g', if_true] at hq
    rcases hq with rfl | ⟨j, hj, hq⟩
    · exact hbx
    · rcases hfj_sub j q hj hq with h | h
      · exact (I.ob n _ hn).2 q h
      · exact (hU q h).2.1
  · simp only [g', if_true] at hq
    rcases hq with rfl | ⟨j, hj, hq⟩
    · exact hbF
    · rcases hfj_sub j q hj hq with h | h
      · exact I.inF n _ q hn h
      · exact (hU q h).1
  · intro q o r h hne hr hr2
    simp only [g', if_true] at hr2
    rcases hr2 with rfl | ⟨j, hj, hr2⟩
    · exact I.dis q n o _ r h hn hne hr hfb
    · rcases hfj_sub j r hj hr2 with h' | h'
      · exact I.dis q n o _ r h hn hne hr h'
      · exact (hU r h').2.2 q o h hr
  · intro q hq
    have := I.bxF q hq
    subst hw'
    simpa using this

end
end Go.Vm

/- The value machine, part 17: stores into rows, on the machine; row literals of what is given away. -/
set_option linter.unusedVariables false
set_option linter.unusedSimpArgs false
namespace Go.Vm

section
variable {P : Program} {T : Nat → K} {w w' : World} {w0 : W0} {F N : Nat → Prop} {g g' : G} {s : St} {a : Act} {base : Nat}

theorem lk_map_ls {f : TV → TV} {n e : Nat} {k : K} {deep : Bool} {xs : List (dn k)} (h : lk s.ob n = some (.ls e k deep xs)) : lk (s.map f).ob n = some (.ls e k deep xs) := by
  simp only [St.map, lk_mapL, h, Option.map_some, Obj.mapT]

theorem run_store_ep (hT : TOk P T) (I : Inv F w0 N s a w g) {o : Oper} {t n i st e : Nat} {k : K} {deep : Bool} {xs : List (dn k)} {p x : Operand} {path : List Stp} {v : TV} {y : dn (T t)} {x' : dn k}
    (ho : o.op = .store t p x) (h : evo (lk s.tm) p = some (.ep n i st path)) (hx : evo (lk s.tm) x = some v) (hn : lk s.ob n = some (.ls e k deep xs)) (hst : st = k.sz) (hf : flatD (T t) v = some y)
    (hs : setD (T t) y path k (xs.getD i (dz k)) = some x') (hr : rowsOk e s.ob = true) (ht : T t ≠ .un) :
    ∃ w' g', (execOp a.eval o).run P w = .ok .skip w' ∧ Inv F w0 N ((s.map (TV.kill e)).add n (.ls e k deep (xs.set i x'))) a w' g' := by
  obtain ⟨b, m, c, h1, ⟨hi, hpo⟩, h3⟩ := VT_leaf (eval_VT I h) rfl rfl
  simp only [List.cons.injEq, and_true] at h3
  obtain ⟨ns, hns, hC⟩ := VT_cells (eval_VT I hx) (flatD_live hf)
  obtain ⟨hfl, hany⟩ := flatD_C hC hf
  have hlen : ns.length = (T t).sz := C_len (hany w (fun _ _ _ => True))
  obtain ⟨hl, ds0, hC0, hdl0, _⟩ := elem_C (I.ob n _ hn) h1 hi
  rw [getD_lt _ _ _ hl] at hs
  have hfit := (setD_C (hany w _) hC0 hs hpo).2
  rw [hdl0] at hfit
  have I' := inv_map I (weak_kill (w := w) (F := F) (N := N) (g := g) e)
  obtain ⟨hs1, hs2⟩ := killed_safe (s := s) hr
  obtain ⟨cur, hcur, hsz, g', I2⟩ := row_set I' hs1 hs2 (lk_map_ls hn) h1 hi (x' := x') (off := pOff path) (ns := ns) hfit (U := fun _ => False) (fun hl2 ds fi hR => by
    refine ⟨fi, ?_, fun q hq => .inl hq⟩
    cases deep with
    | true => simp only [LR, if_true] at hR ⊢; exact (setD_O hfl (fun ok => hany w ok) hR hs hpo).1
    | false => simp only [LR, Bool.false_eq_true, if_false] at hR ⊢; exact ⟨(setD_C (hany w _) hR.1 hs hpo).1, hR.2⟩) (fun q hq => hq.elim)
  have hrun := run_storeVar (P := P) (hT t ht) hcur hns hlen (CT_one hC) (o := i * k.sz + pOff path) hsz
  refine ⟨_, g', ?_, I2⟩
  subst hst
  simp [execOp, ho, Instr.storeAt, h3, Instr.sureAddr, hrun]

/-- The rows that are given away, as they stand when they are no more told. -/
theorem give_free (I : Inv F w0 N s a w g) {ns : List Nat} (hns : ∀ n ∈ ns, ∃ e k deep xs, lk s.ob n = some (.ls e k deep xs)) :
    ∀ q, (∃ n ∈ ns, g.fp n q) → F q ∧ ¬ g.Bx q ∧ ∀ m o, lk (s.give ns).ob m = some o → ¬ g.fp m q := by
  rintro q ⟨n, hn, hq⟩
  obtain ⟨e, k, deep, xs, hlk⟩ := hns n hn
  refine ⟨I.inF n _ q hlk hq, (I.ob n _ hlk).2 q hq, fun m o hm hmq => ?_⟩
  obtain ⟨o', h1, _, h2⟩ := give_lk hm
  exact I.dis n m _ o' q hlk h1 (fun e => h2 (e ▸ hn)) hq hmq

theorem packO_ls : ∀ {k : K} {v : TV} {x : dn k} {ns : List Nat}, packO (lk s.ob) k v = some (x, ns) → ∀ n ∈ ns, ∃ e k deep xs, lk s.ob n = some (.ls e k deep xs) := by
  intro k
  induction k with
  | sl e k ih =>
    intro v x ns hp n hn
    cases v with
    | al m =>
      simp only [packO] at hp
      split at hp
      · rename_i e' k' xs hlk
        split at hp
        · simp only [Option.some.injEq, Prod.mk.injEq] at hp
          obtain ⟨_, rfl⟩ := hp
          simp at hn
          subst hn
          exact ⟨_, _, _, _, hlk⟩
        · cases hp
      · cases hp
    | z => simp only [packO, Option.some.injEq, Prod.mk.injEq] at hp; obtain ⟨_, rfl⟩ := hp; simp at hn
    | _ => simp [packO] at hp
  | pr ka kb iha ihb =>
    intro v x ns hp n hn
    simp only [packO, Option.bind_eq_some_iff, Option.map_eq_some_iff, Prod.mk.injEq] at hp
    obtain ⟨⟨va, vb⟩, hsp, ⟨xa, na⟩, hxa, ⟨xb, nb⟩, hxb, rfl, rfl⟩ := hp
    rcases List.mem_append.1 hn with hn | hn
    · exact iha hxa n hn
    · exact ihb hxb n hn
  | _ =>
    intro v x ns hp n hn
    simp only [packO, Option.map_eq_some_iff, Prod.mk.injEq] at hp
    obtain ⟨_, _, _, rfl⟩ := hp
    simp at hn

theorem give_ls : ∀ {ns : List Nat} {s : St} {m e : Nat} {k : K} {deep : Bool} {xs : List (dn k)}, lk s.ob m = some (.ls e k deep xs) → m ∉ ns → lk (s.give ns).ob m = some (.ls e k deep xs) := by
  intro ns
  induction ns with
  | nil => intro s m e k deep xs h _; exact h
  | cons n r ih =>
    intro s m e k deep xs h hm
    simp only [List.mem_cons, not_or] at hm
    simp only [St.give]
    split
    · refine ih ?_ hm.2
      simp only [St.rm, lk_del, if_neg hm.1]
      exact lk_map_ls h
    · refine ih ?_ hm.2
      simp only [St.rm, lk_del, if_neg hm.1]
      exact h

theorem VT_live_cells {v : TV} {u : Value} {k : K} {x : dn k} {ns : List Nat} (h : VT w F g v u) (hp : packO (lk s.ob) k v = some (x, ns)) : live v = true := by
  cases v with
  | dead m => cases k <;> simp [packO, split, flatD] at hp
  | tc a b => cases k <;> simp [packO, split, flatD] at hp
  | tn => cases k <;> simp [packO, split, flatD] at hp
  | _ => rfl

/-- An element is replaced by one whose rows are given away to the row. -/
theorem run_store_give (hT : TOk P T) (I : Inv F w0 N s a w g) {o : Oper} {t n i st e : Nat} {k : K} {xs : List (dn k)} {p x : Operand} {v : TV} {x' : dn k} {ns : List Nat}
    (ho : o.op = .store t p x) (h : evo (lk s.tm) p = some (.ep n i st [])) (hx : evo (lk s.tm) x = some v) (hn : lk s.ob n = some (.ls e k true xs)) (hst : st = k.sz) (hk : T t = k)
    (hp : packO (lk s.ob) k v = some (x', ns)) (hnd : ns.Nodup) (hnn : n ∉ ns) (hr : rowsOk e (s.give ns).ob = true) (ht : T t ≠ .un) :
    ∃ w' g', (execOp a.eval o).run P w = .ok .skip w' ∧ Inv F w0 N (((s.give ns).map (TV.kill e)).add n (.ls e k true (xs.set i x'))) a w' g' := by
  obtain ⟨b, m, c, h1, ⟨hi, hpo⟩, h3⟩ := VT_leaf (eval_VT I h) rfl rfl
  simp only [List.cons.injEq, and_true, pOff, Nat.add_zero] at h3
  obtain ⟨cs, hcs, hC⟩ := VT_cells (eval_VT I hx) (VT_live_cells (eval_VT I hx) hp)
  obtain ⟨hO, _⟩ := packO_O I hC hp hnd
  have hlen : cs.length = (T t).sz := by rw [hk]; exact O_len hO
  have I1 := inv_give (ns := ns) I
  have I' := inv_map I1 (weak_kill (w := w) (F := F) (N := N) (g := g) e)
  obtain ⟨hs1, hs2⟩ := killed_safe (s := s.give ns) hr
  have hfree := give_free I (packO_ls hp)
  obtain ⟨cur, hcur, hsz, g', I2⟩ := row_set I' hs1 hs2 (lk_map_ls (give_ls hn hnn)) h1 hi (x' := x') (off := 0) (ns := cs) (by rw [hlen, hk]; simp) (U := fun q => ∃ n ∈ ns, g.fp n q) (fun hl2 ds fi hR => by
    refine ⟨fun q => ∃ n ∈ ns, g.fp n q, ?_, fun q hq => .inr hq⟩
    simp only [LR, if_true] at hR ⊢
    have : put ds 0 cs = cs := by
      have hl : ds.length = k.sz := O_len hR
      have hl2 : cs.length = k.sz := by rw [hlen, hk]
      simp [put, hl2, ← hl]
    rw [this]
    exact hO) (fun q hq => by
      obtain ⟨q1, q2, q3⟩ := hfree q hq
      refine ⟨q1, q2, fun m o hm => ?_⟩
      simp only [St.map, lk_mapL, Option.map_eq_some_iff] at hm
      obtain ⟨o', hm', _⟩ := hm
      exact q3 m o' hm')
  have hrun := run_storeVar (P := P) (hT t ht) hcur hcs hlen (CT_one hC) (o := i * k.sz + 0) hsz
  refine ⟨_, g', ?_, I2⟩
  subst hst
  simp only [Nat.add_zero] at hrun ⊢
  simp [execOp, ho, Instr.storeAt, h3, Instr.sureAddr, hrun]

end
end Go.Vm

/- The value machine, part 18: a row of one element that is given away to it. -/
set_option linter.unusedVariables false
set_option linter.unusedSimpArgs false
namespace Go.Vm

section
variable {P : Program} {T : Nat → K} {w w' : World} {w0 : W0} {F N : Nat → Prop} {g g' : G} {s : St} {a : Act} {base : Nat}

theorem inv_mono {N' : Nat → Prop} (I : Inv F w0 N s a w g) (h : ∀ n, N n → N' n) : Inv F w0 N' s a w g :=
  ⟨I.ob, I.dis, I.inF, I.bxF, I.tm, fun t v k => TV.nms_mono h (I.nmT t v k), fun n o k => ⟨h n (I.nmO n o k).1, Obj.nms_mono h (I.nmO n o k).2⟩, I.nt, I.df, I.big, I.kept⟩

theorem ob_lt (I : Inv F w0 N s a w g) {n b : Nat} {o : Obj} (h : lk s.ob n = some o) (hb : g.fp n b) : b < w.heap.size := by
  have := I.ob n o h
  cases o with
  | bx v => obtain ⟨a', T', cur, _, h2, _, h4, _⟩ := this; rw [(h4 b).1 hb]; exact (Array.getElem?_eq_some_iff.1 h2).1
  | ls e k deep xs =>
    obtain ⟨bt, hbt⟩ := OL_bt (fun x _ cs f hR b hb => by
      cases deep with
      | true => exact O_bt (by simpa [LR] using hR) b hb
      | false => simp only [LR, Bool.false_eq_true, if_false] at hR; exact (hR.2 b hb).elim) this.1 b hb
    exact hbt.lt

theorem run_build1 (hT : TOk P T) (I : Inv F w0 N s a w g) (hb : ¬ N base) {o : Oper} {t e : Nat} {k : K} {parts : Array (Nat × Operand)} {x : Operand} {v : TV} {y : dn k} {ns : List Nat} (ho : o.op = .buildSlice t 1 parts)
    (hk : T t = .sl e k) (hps : parts.toList = [(0, x)]) (hx : evo (lk s.tm) x = some v) (hp : packO (lk s.ob) k v = some (y, ns)) (hnd : ns.Nodup) (hl2 : k.sz ≤ 4096) :
    ∃ u w' g', (execOp a.eval o).run P w = .ok (.value u) w' ∧ Inv F w0 (fun n => N n ∨ n = base) ((s.give ns).add base (.ls e k true [y])) a w' g' ∧ VT w' F g' (.al base) u := by
  obtain ⟨d, hd, hsh⟩ := (hT t (by rw [hk]; simp)).und
  rw [hk] at hsh
  obtain ⟨rfl, he, hne⟩ := hsh
  obtain ⟨inf, hi, hsz, hz, hb0, hb1⟩ := (hT e (by rw [he]; exact hne)).info
  rw [he] at hsz hz
  obtain ⟨cs, hcs, hC⟩ := VT_cells (eval_VT I hx) (VT_live_cells (eval_VT I hx) hp)
  obtain ⟨hO, _⟩ := packO_O I hC hp hnd
  have hlen : cs.length = k.sz := O_len hO
  have hfree := give_free I (packO_ls hp)
  have I1 := inv_give (ns := ns) I
  generalize hz0 : (if 1 * k.sz = 0 then #[] else (zV k).cells : Array Value) = z0
  obtain ⟨cur, hfill, hcsz, _, hget⟩ := fill_row k.sz [(0, a.eval x)] 0 ((Array.range (1 * k.sz)).map (z0[· % z0.size]!)) (fun j p hj => by
    cases j with
    | zero => simp only [List.getElem?_cons_zero, Option.some.injEq] at hj; subst hj; exact ⟨rfl, by rw [hcs]; simpa using hlen⟩
    | succ j => simp at hj) (by simp)
  simp only [Array.size_map, Array.size_range] at hcsz
  have hget0 := hget 0 _ rfl
  simp only [Nat.add_zero, Nat.zero_mul, Nat.zero_add] at hget0
  let u : Value := .slice (some ⟨w.heap.size, 0, none⟩) 1 1
  let f : Nat → Prop := fun q => q = w.heap.size ∨ ∃ n ∈ ns, g.fp n q
  have hUlt : ∀ q, (∃ n ∈ ns, g.fp n q) → q < w.heap.size := by
    rintro q ⟨n, hn, hq⟩
    obtain ⟨e', k', d', xs', hlk⟩ := packO_ls hp n hn
    exact ob_lt I hlk hq
  have turn : Turn (fun _ => False) (fun _ => False) True N F g (g.row base u f) w (w.alloc (.cells cur e)) := by
    refine ⟨fun b hb _ => heap_alloc w _ b hb, fun _ h => h.elim, fun _ _ h => h.elim, fun _ _ h => h.elim, fun b hb => Iff.rfl, fun n hn => ?_⟩
    simp only [G.row]; rw [if_neg]; rintro rfl; exact hb hn
  have I2 : Inv F w0 (fun n => N n ∨ n = base) ((s.give ns).add base (.ls e k true [y])) a (w.alloc (.cells cur e)) (g.row base u f) := by
    refine inv_set (inv_mono I1 (fun n h => .inl h)) (.inr rfl) turn (fun t v h => ⟨I1.nmT t v h, v.safe_none⟩) (fun m o h hne => ⟨(I1.nmO m o h).1, (I1.nmO m o h).2, o.safe_none, fun _ _ h => h⟩) (fun m hm => by simp [G.row, hm]) ⟨?_, fun q hq hx => ?_⟩ trivial (fun q hq => ?_) (fun m o q hm hne hq hq2 => ?_) (fun q hq => ?_) (kept_alloc _ _ _)
    · refine .inr ⟨w.heap.size, 1, cur, fun _ q => ∃ n ∈ ns, g.fp n q, fun _ => cs, by simp [G.row, u], heap_alloc_new w _, by simp, by omega, hcsz, fun j hj => ?_, fun j j' hj hj' hne => by simp at hj hj'; omega, fun j _ hq => ?_, fun q => ?_⟩
      · have hj0 : j = 0 := by simpa using hj
        subst hj0
        refine ⟨?_, hlen, fun i hi => ?_⟩
        · simp only [List.getElem_cons_zero, LR, if_true]
          exact O_move (fun q hq => heap_alloc w _ q (hUlt q hq)) hO
        · rw [Nat.zero_mul, Nat.zero_add, hget0 i hi, hcs]
          simp
      · have := hUlt _ hq; omega
      · simp only [G.row, if_true, f, List.length_singleton]
        constructor
        · rintro (h | h)
          · exact .inl h
          · exact .inr ⟨0, by omega, h⟩
        · rintro (h | ⟨_, _, h⟩)
          · exact .inl h
          · exact .inr h
    · simp only [G.row, if_true, f] at hq hx
      rcases hq with rfl | hq
      · have := I.bxF _ hx; omega
      · exact (hfree q hq).2.1 hx
    · simp only [G.row, if_true, f] at hq
      rcases hq with rfl | hq
      · exact new_F I
      · exact (hfree q hq).1
    · simp only [G.row, if_true, f] at hq2
      rcases hq2 with rfl | hq2
      · have := ob_lt I1 hm hq; omega
      · exact (hfree q hq2).2.2 m o hm hq
    · have := I.bxF q hq
      rw [size_alloc]
      omega
  refine ⟨u, _, _, ?_, I2, ⟨by simp [G.row], _, _, _, by simp [G.row]; rfl⟩⟩
  have hmap : (parts.map fun x => match x with | (i, x) => (i, a.eval x)).toList = [(0, a.eval x)] := by simp [hps]
  have hnot : ¬ 1 * k.sz > 2 ^ 24 := by omega
  simp only [execOp, ho, Instr.buildSlice, Sem.run_bind, run_underlying hd, Result.andThen_ok, sizeOf, typeInfo, run_program, hi, Sem.run_pure, hsz, if_neg hnot]
  by_cases h0 : 1 * k.sz = 0
  · rw [if_pos h0] at hz0
    subst hz0
    rw [h0] at hfill
    simp only [if_pos h0, Sem.run_pure, Result.andThen_ok, hmap, h0]
    simp [newRow] at hfill ⊢
    simp [hfill, u]
  · rw [if_neg h0] at hz0
    subst hz0
    simp only [if_neg h0, Sem.run_bind, zeroValue, typeInfo, run_program, hi, hz, Sem.run_pure, Result.andThen_ok, hmap, hfill]
    simp [newRow, u]

end
end Go.Vm
