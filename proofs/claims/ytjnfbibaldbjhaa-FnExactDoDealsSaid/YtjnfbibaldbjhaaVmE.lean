/- The value machine, joined: what is proved here holds for every loaded program; no condition but those that each theorem states. -/
import Derived.Test.YtjnfbibaldbjhaaVmD
import Derived.Laws.Cover3
/- The value machine, part 30: whole code, by continuations; the marks that a computed term is read by. -/
set_option linter.unusedVariables false
set_option linter.unusedSimpArgs false
namespace Go.Vm

/-- The words of a computed term. -/
structure Mk where
  bnd : {α β : Type} → α → (α → β) → β
  chk : {β : Type} → Bool → Option β → Option β
  br : {β : Type} → Bool → Option β → Option β → Option β
  cal : {α β : Type} → Option α → (α → Option β) → Option β
  lop : {D β : Type} → (D → Option (D ⊕ β)) → D → Option β
  out : {D β : Type} → Option β → Option (D ⊕ β)
  amb : {β : Type} → Option β → Option β → Option β
  err : {α β : Type} → Nat → α → Option β
  jn : {α β : Type} → Option α → (α → Option β) → Option β

def loopF {D β : Type} (step : D → Option (D ⊕ β)) : Nat → D → Option β
  | 0, _ => none
  | n + 1, d =>
    match step d with
    | none => none
    | some (.inl d') => loopF step n d'
    | some (.inr r) => some r
open Classical in
noncomputable def loopW {D β : Type} (step : D → Option (D ⊕ β)) (d : D) : Option β :=
  if h : ∃ r, ∃ n, loopF step n d = some r then some (Classical.choose h) else none
open Classical in
noncomputable def amb {β : Type} (x y : Option β) : Option β := if x = y then x else none
def bnd {α β : Type} (x : α) (f : α → β) : β := f x
def chk {β : Type} (b : Bool) (k : Option β) : Option β := if b then k else none

noncomputable def std : Mk where
  bnd := bnd
  chk := chk
  br := fun b x y => cond b x y
  cal := fun x f => x.bind f
  lop := loopW
  out := fun x => x.map .inr
  amb := amb
  err := fun _ _ => none
  jn := fun x f => x.bind f

theorem loopW_some {D β : Type} {step : D → Option (D ⊕ β)} {d : D} {r : β} (h : loopW step d = some r) : ∃ n, loopF step n d = some r := by
  unfold loopW at h
  split at h
  · rename_i he
    simp only [Option.some.injEq] at h
    obtain ⟨n, hn⟩ := Classical.choose_spec he
    exact ⟨n, by rw [hn, h]⟩
  · cases h

/-! #### The code -/
def bndT (M : Mk) {β : Type} : TV → (TV → Option β) → Option β
  | .sc e k x, f => M.bnd x fun y => f (.sc e k y)
  | .cp ext e k x, f => M.bnd x fun y => f (.cp ext e k y)
  | v, f => f v
def bndO (M : Mk) {β : Type} : Option (Nat × Obj) → (Option (Nat × Obj) → Option β) → Option β
  | some (n, .ls e k deep xs), f => M.bnd xs fun ys => f (some (n, .ls e k deep ys))
  | o, f => f o
/-- A branch: a bool that is known (told as such) is no mark. -/
def brT (M : Mk) {β : Type} (e b : Bool) (x y : Option β) : Option β :=
  match e with
  | true => M.br b x y
  | false => match b with | true => x | false => y
/-- Operations that may fail. -/
def chks (T : Nat → K) : Op → Bool
  | .binOp op t _ _ _ =>
    match op with
    | .quo | .rem | .shl | .shr => true
    | .add => match T t with | .str => true | _ => false
    | _ => false
  | .index .. | .indexAddr .. | .makeSlice .. | .slice .. => true
  | .call { callee := .builtin .append, .. } => true
  | _ => false
def chkT (M : Mk) {β : Type} (c ok : Bool) (k : Option β) : Option β :=
  match c with
  | true => M.chk ok k
  | false => match ok with | true => k | false => none
def binds : Op → Bool
  | .binOp .. | .unOp .. | .convert .. | .index .. | .indexAddr .. => true
  | .call { callee := .builtin .len, .. } => true
  | _ => false
def lit (s : St) (x : Operand) (b : Bool) : St :=
  match x with
  | .tmp t => s.put (some t) (.sc false .bool b)
  | _ => s
/-- A slot that may be written. -/
@[reducible] def FreeD (s : St) (d : Option Nat) : Prop := ∀ t, d = some t → t < s.nt ∧ s.fx.contains t = false
def dstOk (s : St) : Option Nat → Bool
  | none => true
  | some t => decide (t < s.nt) && !s.fx.contains t

/-- The frame's size and what is not written in it. -/
@[reducible] def St.nf (s : St) : Nat × List Nat := (s.nt, s.fx)
theorem FreeD.of_nf {s s' : St} {d : Option Nat} (h : s'.nf = s.nf) (f : FreeD s d) : FreeD s' d := by
  simp only [St.nf, Prod.mk.injEq] at h
  intro t ht; rw [h.1, h.2]; exact f t ht
theorem dstOk_nf {s s' : St} {d : Option Nat} (h : s'.nf = s.nf) : dstOk s' d = dstOk s d := by
  simp only [St.nf, Prod.mk.injEq] at h
  cases d with
  | none => rfl
  | some t => simp only [dstOk, h.1, h.2]

theorem dstOk_free {s : St} {d : Option Nat} (h : dstOk s d = true) : FreeD s d := by
  intro t ht
  subst ht
  simpa [dstOk] using h

/-- x == nil, x != nil, of a slice. -/
def nilCmp (T : Nat → K) (s : St) : Op → Option (Bool × Bool)
  | .binOp op t x (.const (.slice none 0 0)) _ =>
    match T t with
    | .sl e k =>
      (evo (lk s.tm) x).bind fun v => (lst (lk s.ob) e k v).bind fun xs =>
        match op with
        | .eql => some (xs.isEmpty, true)
        | .neq => some (xs.isEmpty, false)
        | _ => none
    | _ => none
  | _ => none

def vcall (E : Nat → Option Ent) (s : St) (f : Operand) (args : List Operand) : Option ((e : Ent) × HL (tmks e.pars [])) :=
  match evo (lk s.tm) f with
  | some (.fn fi .un) => (E fi).bind fun e => if e.rsh.retOk = true then (evl (lk s.tm) args).bind fun vs => (mtA (lk s.ob) e.pars vs [] ()).map fun x => ⟨e, x⟩ else none
  | _ => none

/-- What a function value has captured, one after another. -/
def capsL : TV → Option (List TV)
  | .un => some []
  | .pr v r => if live v = true ∧ v.agg = false then (capsL r).map fun l => v :: l else none
  | _ => none
def enumT : Nat → List TV → List (Nat × TV)
  | _, [] => []
  | i, v :: r => (i, v) :: enumT (i + 1) r
/-- A call that is handed things. -/
def vcallH (E : Nat → Option Ent) (s : St) (f : Operand) (args : List Operand) : Option ((e : EntH) × HL e.psh.ks × List (Nat × Nat) × List (Nat × Nat)) :=
  match evo (lk s.tm) f with
  | some (.fn fi c) => (E fi).bind fun e => e.h.bind fun e => (evl (lk s.tm) args).bind fun vs => (capsL c).bind fun cs =>
    if hOk e s (colOb (lk s.ob) e.psh.ob (colTm (lk (enumT 0 (vs ++ cs))) e.psh.tm [])) (colHs e.nres (lk (enumT 0 (vs ++ cs))) e.rsh.tm) = true ∧ (vs ++ cs).length = e.nargs then
      (mtS e.psh (colOb (lk s.ob) e.psh.ob (colTm (lk (enumT 0 (vs ++ cs))) e.psh.tm [])) { nt := (vs ++ cs).length, tm := enumT 0 (vs ++ cs), ob := s.ob, nx := s.nx }).map fun x =>
        ⟨e, x, colOb (lk s.ob) e.psh.ob (colTm (lk (enumT 0 (vs ++ cs))) e.psh.tm []), colHs e.nres (lk (enumT 0 (vs ++ cs))) e.rsh.tm⟩
    else none
  | _ => none

/-- One operation. -/
def vone (M : Mk) (T : Nat → K) (E : Nat → Option Ent) {β : Type} (o : Oper) (s : St) (k : St → Option β) : Option β :=
  if dstOk s o.dst = true then
    match o.op with
    | .pick c x y =>
      match evo (lk s.tm) c with
      | some (.sc e .bool b) =>
        brT M e b ((evo (lk s.tm) x).bind fun v => k ((lit s c true).put o.dst v)) ((evo (lk s.tm) y).bind fun v => k ((lit s c false).put o.dst v))
      | _ => M.err 1 (o.op, s)
    | .call { callee := .value f, args, argTypes } =>
      match vcall E s f args.toList with
      | some q => M.cal (q.1.den q.2) fun d => k ((aft q.1 s d).1.put o.dst (aft q.1 s d).2)
      | none =>
        match vcallH E s f args.toList with
        | some q => M.cal (q.1.den q.2.1) fun d => k ((aftH q.1 s q.2.2.1 q.2.2.2 d).1.put o.dst (aftH q.1 s q.2.2.1 q.2.2.2 d).2)
        | none => M.err 2 (o.op, s)
    | op =>
      match nilCmp T s op with
      | some q => M.br q.1 (M.amb (k (s.put o.dst (.sc false .bool true))) (k (s.put o.dst (.sc false .bool false)))) (k (s.put o.dst (.sc false .bool (!q.2))))
      | none =>
        match vop T s op with
        | some r => if dstOk r.s o.dst = true then chkT M (chks T op) r.ok (bndO M r.nw fun nw => (if binds op then bndT M r.v else fun f => f r.v) fun v => k ((r.s.addO nw).put o.dst v)) else M.err 4 (o.op, s)
        | none => M.err 3 (o.op, s)
  else M.err 4 (o.op, s)

/-- Operations one after another. -/
def vops (M : Mk) (T : Nat → K) (E : Nat → Option Ent) {β : Type} (ops : Array Oper) : List Nat → St → (St → Option β) → Option β
  | [], s, k => k s
  | i :: r, s, k =>
    match ops[i]? with
    | none => none
    | some o =>
      match o.guard with
      | none => vone M T E o s fun s => vops M T E ops r s k
      | some (g, want) =>
        match (ops[g]?).bind (·.dst) with
        | none => none
        | some t =>
          match lk s.tm t with
          | some (.sc e .bool b) =>
            brT M e b
              (if want then vone M T E o (lit s (.tmp t) true) fun s => vops M T E ops r s k else if dstOk s o.dst = true then vops M T E ops r ((lit s (.tmp t) true).put o.dst .tn) k else none)
              (if want then (if dstOk s o.dst = true then vops M T E ops r ((lit s (.tmp t) false).put o.dst .tn) k else none) else vone M T E o (lit s (.tmp t) false) fun s => vops M T E ops r s k)
          | some .tn => if dstOk s o.dst = true then vops M T E ops r (s.put o.dst .tn) k else none
          | _ => M.err 5 (o.op, s)

section
variable {P : Program} {T : Nat → K} {E : Nat → Option Ent} {w w' : World} {w0 : W0} {F N : Nat → Prop} {g g' : G} {s : St} {a : Act} {base : Nat} {β : Type}

/-- The state tells of the machine. -/
def SI (F : Nat → Prop) (w0 : W0) (s : St) (a : Act) (w : World) : Prop := ∃ g, Inv F w0 (Nm s) s a w g

theorem put_nm {d : Option Nat} {v : TV} : Nm (s.put d v) = Nm s := by cases d <;> rfl
theorem SI_put {d : Option Nat} {v : TV} {u : Value} {g : G} (I : Inv F w0 (Nm s) s a w g) (hv : VT w F g v u) (hn : v.nms (Nm s)) (hd : dstOk s d = true) : SI F w0 (s.put d v) (a.put d u) w := by
  refine ⟨g, ?_⟩
  rw [put_nm]
  exact inv_put I hv hn (dstOk_free hd)

theorem brT_std {e b : Bool} {x y : Option β} : brT std e b x y = cond b x y := by cases e <;> cases b <;> rfl
theorem chkT_std {c ok : Bool} {k : Option β} : chkT std c ok k = chk ok k := by cases c <;> cases ok <;> rfl

theorem bndT_std (v : TV) (f : TV → Option β) : bndT std v f = f v := by cases v <;> rfl
theorem bndO_std (o : Option (Nat × Obj)) (f : Option (Nat × Obj) → Option β) : bndO std o f = f o := by
  rcases o with _ | ⟨n, o⟩
  · rfl
  · cases o <;> rfl

theorem VT_bool {e b : Bool} {u : Value} (h : VT w F g (.sc e .bool b) u) : u = .bool b := by
  have := VT_leaf h rfl rfl
  simpa [CT, C] using this

theorem inv_lit {x : Operand} {e b : Bool} {g : G} (I : Inv F w0 (Nm s) s a w g) (hx : evo (lk s.tm) x = some (.sc e .bool b)) : Inv F w0 (Nm s) (lit s x b) a w g := by
  cases x with
  | tmp t =>
    refine ⟨I.ob, I.dis, I.inF, I.bxF, fun t' v' h => ?_, fun t' v' h => ?_, I.nmO, I.nt, I.df, I.big, I.kept⟩
    · simp only [lit, St.put, lk_cons] at h
      split at h
      · rename_i he
        subst he
        simp only [Option.some.injEq] at h
        subst h
        obtain ⟨u, h1, h2⟩ := I.tm t' _ hx
        have := VT_bool h2
        subst this
        exact ⟨_, h1, rfl⟩
      · exact I.tm t' v' h
    · simp only [lit, St.put, lk_cons] at h
      split at h
      · simp only [Option.some.injEq] at h; subst h; trivial
      · exact I.nmT t' v' h
  | _ => exact I
theorem lit_nm {x : Operand} {b : Bool} : Nm (lit s x b) = Nm s := by cases x <;> rfl
theorem SI_lit {x : Operand} {e b : Bool} (h : SI F w0 s a w) (hx : evo (lk s.tm) x = some (.sc e .bool b)) : SI F w0 (lit s x b) a w := by
  obtain ⟨g, I⟩ := h
  exact ⟨g, by rw [lit_nm]; exact inv_lit I hx⟩

theorem lit_nt {x : Operand} {b : Bool} : (lit s x b).nt = s.nt := by cases x <;> rfl
theorem lit_nx {x : Operand} {b : Bool} : (lit s x b).nx = s.nx := by cases x <;> rfl
theorem dstOk_lit {x : Operand} {b : Bool} {d : Option Nat} : dstOk (lit s x b) d = dstOk s d := by
  have h : (lit s x b).fx = s.fx := by cases x <;> rfl
  cases d <;> simp [dstOk, lit_nt, h]

theorem run_guard_sl (op : BinOp) (t : Nat) (x y : Operand) (A B : Option Addr) (m c m' c' : Nat) (w : World) : (eqGuard op t x y (.slice A m c) (.slice B m' c')).run P w = .ok () w := by
  cases op <;> simp [eqGuard]

theorem live_sz {v : TV} (hl : live v = true) (ha : v.agg = false) : v.sz = 1 := by
  cases v with
  | sc e k x => cases k <;> simp_all [TV.sz, K.sz, TV.agg, K.agg]
  | dead m => simp [live] at hl
  | pr a b => simp [TV.agg] at ha
  | un => simp [TV.agg] at ha
  | _ => rfl

theorem capsL_VT : ∀ {c : TV} {cs : List TV} {us : List Value}, capsL c = some cs → CT w F g c us → c.nms N → us.length = cs.length ∧ ∀ (i : Nat) (v : TV), cs[i]? = some v → ∃ u, us[i]? = some u ∧ VT w F g v u ∧ v.nms N := by
  intro c
  induction c with
  | un => intro cs us h hc _; simp only [capsL, Option.some.injEq] at h; subst h; simp only [CT] at hc; subst hc; exact ⟨rfl, fun i v h => by simp at h⟩
  | pr v r _ ih =>
    intro cs us h hc hn
    simp only [capsL] at h
    split at h
    · rename_i hla
      simp only [Option.map_eq_some_iff] at h
      obtain ⟨l, hl, rfl⟩ := h
      obtain ⟨c1, c2, rfl, h1, h2⟩ := hc
      obtain ⟨q1, q2⟩ := ih hl h2 hn.2
      have hlen : c1.length = 1 := by rw [CT_len h1, live_sz hla.1 hla.2]
      obtain ⟨u, rfl⟩ := List.length_eq_one_iff.1 hlen
      refine ⟨by simp [q1], fun i v' hv => ?_⟩
      cases i with
      | zero =>
        simp only [List.getElem?_cons_zero, Option.some.injEq] at hv
        subst hv
        refine ⟨u, by simp, ?_, hn.1⟩
        have := VT_of_CT h1 (fun _ => rfl)
        rw [hla.2] at this
        simpa [valOf] using this
      | succ i =>
        simp only [List.getElem?_cons_succ] at hv
        obtain ⟨u', r1, r2⟩ := q2 i v' hv
        exact ⟨u', by simpa using r1, r2⟩
    · cases h
  | _ => intro cs us h; simp [capsL] at h

theorem evl_VT {Nn : Nat → Prop} (I : Inv F w0 Nn s a w g) : ∀ {xs : List Operand} {vs : List TV}, evl (lk s.tm) xs = some vs → vs.length = xs.length ∧ ∀ (i : Nat) (v : TV), vs[i]? = some v → ∃ u, (xs.map a.eval)[i]? = some u ∧ VT w F g v u ∧ v.nms Nn := by
  intro xs
  induction xs with
  | nil => intro vs h; simp only [evl, Option.some.injEq] at h; subst h; exact ⟨rfl, fun i v h => by simp at h⟩
  | cons x r ih =>
    intro vs h
    simp only [evl, Option.bind_eq_some_iff, Option.map_eq_some_iff] at h
    obtain ⟨v, hv, l, hl, rfl⟩ := h
    obtain ⟨q1, q2⟩ := ih hl
    refine ⟨by simp [q1], fun i v' h => ?_⟩
    cases i with
    | zero => simp only [List.getElem?_cons_zero, Option.some.injEq] at h; subst h; exact ⟨a.eval x, by simp, eval_VT I hv, evo_nms I hv⟩
    | succ i => simp only [List.getElem?_cons_succ] at h; obtain ⟨u, r1, r2⟩ := q2 i v' h; exact ⟨u, by simpa using r1, r2⟩

theorem lk_enumT : ∀ {l : List TV} {i t : Nat} {v : TV}, lk (enumT i l) t = some v → i ≤ t ∧ l[t - i]? = some v := by
  intro l
  induction l with
  | nil => intro i t v h; simp [enumT, lk] at h
  | cons x r ih =>
    intro i t v h
    simp only [enumT, lk] at h
    split at h
    · rename_i he; subst he; simp only [Option.some.injEq] at h; subst h; exact ⟨Nat.le_refl _, by simp⟩
    · obtain ⟨h1, h2⟩ := ih h
      refine ⟨by omega, ?_⟩
      have : t - i = (t - (i + 1)) + 1 := by omega
      rw [this]
      simpa using h2

theorem vone_sound (hT : TOk P T) (hE : EOk P E) {o : Oper} {k : St → Option β} {r : β} {Q : Exit → Act → World → Prop} (h : vone std T E o s k = some r) (hs : SI F w0 s a w) :
    o.wp P a w (fun a w => ∃ s', SI F w0 s' a w ∧ k s' = some r) Q := by
  obtain ⟨g, I⟩ := hs
  unfold vone at h
  split at h
  · rename_i hd
    generalize ho : o.op = op at h
    split at h
    · -- pick
      rename_i c x y
      split at h
      · rename_i e b hc
        have hcv := VT_bool (eval_VT I hc)
        have hpick : (execOp a.eval o).run P w = .ok (.value (if b then a.eval x else a.eval y)) w := by
          simp [execOp, ho, hcv, asBool]
        simp only [Oper.wp, hpick, Oper.upon]
        have hI2 : ∀ {b'}, b' = b → Inv F w0 (Nm (lit s c b')) (lit s c b') a w g := fun hb => by subst hb; rw [lit_nm]; exact inv_lit I hc
        rw [brT_std] at h
        cases b with
        | true =>
          simp only [cond_true, Option.bind_eq_some_iff] at h
          obtain ⟨v, hv, h⟩ := h
          exact ⟨_, SI_put (hI2 rfl) (by simpa using eval_VT I hv) (by rw [lit_nm]; exact evo_nms I hv) (by rw [dstOk_lit]; exact hd), h⟩
        | false =>
          simp only [cond_false, Option.bind_eq_some_iff] at h
          obtain ⟨v, hv, h⟩ := h
          exact ⟨_, SI_put (hI2 rfl) (by simpa using eval_VT I hv) (by rw [lit_nm]; exact evo_nms I hv) (by rw [dstOk_lit]; exact hd), h⟩
      · cases h
    · -- a call
      rename_i f args argTypes
      split at h
      · rename_i q hq
        unfold vcall at hq
        split at hq
        · rename_i fi hf
          simp only [Option.bind_eq_some_iff] at hq
          obtain ⟨e, he, hq⟩ := hq
          split at hq
          · rename_i hret
            simp only [Option.bind_eq_some_iff, Option.map_eq_some_iff] at hq
            obtain ⟨vs, hvs, x, hx, rfl⟩ := hq
            simp only [std, Option.bind_eq_some_iff] at h
            obtain ⟨d, hden, h⟩ := h
            obtain ⟨hH, fn, hfn, hname, hbody⟩ := hE fi e he
            obtain ⟨cs, hfv, hcs⟩ := VT_leaf (eval_VT I hf) rfl rfl
            simp only [CT] at hcs
            subst hcs
            simp only [List.cons.injEq, and_true] at hfv
            have hrun : (execOp a.eval o).run P w = .ok (.enter fi (args.map a.eval)) w := by
              have hnm : fn.name ≠ "runtime.NumGoroutine" := by simpa using hname
              have hnb : fn.body ≠ none := by intro h; rw [h] at hbody; cases hbody
              simp [execOp, ho, resolve, hfv, Deferred.ofValue, invoke, callFunc, run_program, hfn, hnm, hnb]
            simp only [Oper.wp, hrun, Oper.upon]
            have hargs := (mtA_ok I hvs hx).1
            refine (hH.1 w (args.map a.eval) x d hden (by simpa using hargs)).mono fun en w' hr => ?_
            cases en with
            | returned v =>
              obtain ⟨hk, g', hR⟩ := hr
              obtain ⟨g2, I2, hV, hn⟩ := call_inv I hret hk hR
              exact ⟨_, SI_put I2 hV hn (by cases hdst : o.dst <;> simp_all [dstOk, aft]), h⟩
            | panicked c => exact hr.elim
            | outgrown => exact hr.elim
          · cases hq
        · cases hq
      · split at h
        · rename_i q hq
          unfold vcallH at hq
          split at hq
          · rename_i fi c hf
            simp only [Option.bind_eq_some_iff] at hq
            obtain ⟨e0, he, e, heh, vs, hvs, cs, hcs, hq⟩ := hq
            split at hq
            · rename_i hok
              simp only [Option.map_eq_some_iff] at hq
              obtain ⟨x, hx, rfl⟩ := hq
              simp only [std, Option.bind_eq_some_iff] at h
              obtain ⟨d, hden, h⟩ := h
              obtain ⟨hH, fn, hfn, hname, hbody⟩ := hE fi e0 he
              obtain ⟨us, hfv, hus⟩ := VT_leaf (eval_VT I hf) rfl rfl
              simp only [List.cons.injEq, and_true] at hfv
              have hcn : (TV.fn fi c).nms (Nm s) := evo_nms I hf
              obtain ⟨l1, q1⟩ := capsL_VT (N := Nm s) hcs hus hcn
              obtain ⟨l2, q2⟩ := evl_VT I hvs
              have hrun : (execOp a.eval o).run P w = .ok (.enter fi (args.map a.eval ++ us.toArray)) w := by
                have hnm : fn.name ≠ "runtime.NumGoroutine" := by simpa using hname
                have hnb : fn.body ≠ none := by intro h; rw [h] at hbody; cases hbody
                simp [execOp, ho, resolve, hfv, Deferred.ofValue, invoke, callFunc, run_program, hfn, hnm, hnb]
              simp only [Oper.wp, hrun, Oper.upon]
              have hsz : (args.map a.eval ++ us.toArray).size = (vs ++ cs).length := by simp [l1, l2]
              have ht : ∀ t v, lk (enumT 0 (vs ++ cs)) t = some v → ∃ u, (args.map a.eval ++ us.toArray)[t]? = some u ∧ VT w F g v u ∧ v.nms (Nm s) := by
                intro t v hv
                obtain ⟨_, hv⟩ := lk_enumT hv
                simp only [Nat.sub_zero] at hv
                by_cases hlt : t < vs.length
                · rw [List.getElem?_append_left hlt] at hv
                  obtain ⟨u, r1, r2⟩ := q2 t v hv
                  refine ⟨u, ?_, r2⟩
                  rw [Array.getElem?_append_left (by simp at l2 ⊢; omega)]
                  simpa using r1
                · rw [List.getElem?_append_right (by omega)] at hv
                  obtain ⟨u, r1, r2⟩ := q1 _ v hv
                  refine ⟨u, ?_, r2⟩
                  rw [Array.getElem?_append_right (by simp at l2 ⊢; omega)]
                  simp at l2
                  simpa [l2] using r1
              rw [← hsz] at hx
              have hent := enterH I (x := x) rfl ht hx
              refine (hH.2 e heh (FH w g _ e.psh.ob) w (args.map a.eval ++ us.toArray) x d hden (hsz.trans hok.2) hent).mono fun en w' hr => ?_
              cases en with
              | returned v =>
                obtain ⟨rs, hrl, rfl, g', J⟩ := hr
                obtain ⟨g2, I2, hV, hn⟩ := leaveH I ht hx hok.1 hrl J
                exact ⟨_, SI_put I2 hV hn (by cases hdst : o.dst <;> simp_all [dstOk, aftH]), h⟩
              | panicked c => exact hr.elim
              | outgrown => exact hr.elim
            · cases hq
          · cases hq
        · cases h
    · -- the others
      rename_i op' hnp hnc
      split at h
      · rename_i q hq
        unfold nilCmp at hq
        split at hq
        · rename_i bop t x ty
          split at hq
          · rename_i e kk hk
            simp only [Option.bind_eq_some_iff] at hq
            obtain ⟨v, hv, xs, hxs, hq⟩ := hq
            obtain ⟨A, c, hu, hle, hlim, hne, _⟩ := lst_C I (eval_VT I hv) hxs
            simp only [List.cons.injEq, and_true] at hu
            obtain ⟨dd, hdd, hsh⟩ := (hT t (by rw [hk]; simp)).und
            rw [hk] at hsh
            obtain ⟨rfl, _, _⟩ := hsh
            have hA : xs.isEmpty = false → A.isNone = false := by
              intro hx
              have hpos : 0 < xs.length := by cases xs <;> simp_all
              obtain ⟨ad, bt, rfl, _⟩ := hne hpos
              rfl
            split at hq
            · simp only [Option.some.injEq] at hq
              subst hq
              have hrun : (execOp a.eval o).run P w = .ok (.value (.bool A.isNone)) w := by
                have hc : a.eval (.const (.slice none 0 0)) = .slice none 0 0 := rfl
                simp [execOp, ho, hu, hc, binOp, run_guard_sl, run_equal_slice_nil w t e A xs.length c hdd]
              simp only [Oper.wp, hrun, Oper.upon]
              have put : ∀ b, A.isNone = b → SI F w0 (s.put o.dst (.sc false .bool b)) (a.put o.dst (.bool A.isNone)) w := fun b hb => by
                subst hb
                exact SI_put I (v := .sc false .bool A.isNone) rfl trivial hd
              cases hx : xs.isEmpty with
              | false =>
                rw [hx] at h
                simp only [std, cond_false] at h
                exact ⟨_, put false (hA hx), h⟩
              | true =>
                rw [hx] at h
                simp only [std, cond_true, amb] at h
                split at h
                · rename_i heq
                  cases hb : A.isNone with
                  | true => rw [← hb]; exact ⟨_, put true hb, h⟩
                  | false => rw [← hb]; rw [heq] at h; exact ⟨_, put false hb, h⟩
                · cases h
            · simp only [Option.some.injEq] at hq
              subst hq
              have hrun : (execOp a.eval o).run P w = .ok (.value (.bool (!A.isNone))) w := by
                have hc : a.eval (.const (.slice none 0 0)) = .slice none 0 0 := rfl
                simp [execOp, ho, hu, hc, run_guard_sl, run_neq_slice_nil w t e A xs.length c hdd]
              simp only [Oper.wp, hrun, Oper.upon]
              have put : ∀ b, (!A.isNone) = b → SI F w0 (s.put o.dst (.sc false .bool b)) (a.put o.dst (.bool (!A.isNone))) w := fun b hb => by
                subst hb
                exact SI_put I (v := .sc false .bool (!A.isNone)) rfl trivial hd
              cases hx : xs.isEmpty with
              | false =>
                rw [hx] at h
                simp only [std, cond_false] at h
                exact ⟨_, put true (by rw [hA hx]; rfl), h⟩
              | true =>
                rw [hx] at h
                simp only [std, cond_true, amb] at h
                split at h
                · rename_i heq
                  cases hb : (!A.isNone) with
                  | true => rw [← hb]; exact ⟨_, put true hb, h⟩
                  | false => rw [← hb]; rw [heq] at h; exact ⟨_, put false hb, h⟩
                · cases h
            · cases hq
          · cases hq
        · cases hq
      · split at h
        · rename_i res hres
          split at h
          rotate_left
          · simp [std] at h
          rename_i hd2
          rw [chkT_std] at h
          simp only [chk] at h
          split at h
          · rename_i hok
            have h2 : k ((res.s.addO res.nw).put o.dst res.v) = some r := by
              have h3 : bndO std res.nw (fun nw => (if binds op then bndT std res.v else fun f => f res.v) fun v => k ((res.s.addO nw).put o.dst v)) = some r := h
              rw [bndO_std] at h3
              split at h3
              · rw [bndT_std] at h3; exact h3
              · exact h3
            obtain ⟨u, w', g', hr, I', hV, hn⟩ := vop_run hT I (o := o) (by rw [ho]; exact hres) hok
            have hnt : (res.s.addO res.nw).nt = s.nt := I'.nt.trans I.nt.symm
            have hnx : Nm (res.s.addO res.nw) = Nm res.s := by cases hh : res.nw <;> rfl
            have fin : SI F w0 ((res.s.addO res.nw).put o.dst res.v) (a.put o.dst u) w' := by
              refine SI_put (by rw [hnx]; exact I') hV (by rw [hnx]; exact hn) ?_
              rw [← hd2]
              cases res.nw <;> cases o.dst <;> rfl
            rcases hr with hr | ⟨hr, rfl⟩
            · simp only [Oper.wp, hr, Oper.upon]; exact ⟨_, fin, h2⟩
            · simp only [Oper.wp, hr, Oper.upon]; exact ⟨_, fin, h2⟩
          · cases h
        · cases h
  · cases h

end
end Go.Vm

/- The value machine, part 31: regions whose operations may come in several orders; whole code. -/
set_option linter.unusedVariables false
set_option linter.unusedSimpArgs false
namespace Go.Vm

/-- What an operation of such a region has come to. -/
structure Item where
  i : Nat
  dst : Option Nat
  v : TV
  obs : List (Nat × Obj)
  b : Nat
  e : Nat

/-- Are these (as bits) the operations that stand before each? -/
def okMs (ops : Array Oper) (ms : List Nat) : Bool :=
  (List.range ops.size).all fun i =>
    match ops[i]? with
    | some o => (o.after.toList.all fun e => !Region.binds .any e || decide (e.on < i)) && decide (ms.getD i 0 = o.after.toList.foldl (fun m e => if (Region.binds .any e && decide (e.on < i)) = true then m ||| 2 ^ e.on ||| ms.getD e.on 0 else m) 0)
    | none => false

/-! #### States worked out, before what goes on from them -/
def frcV {β : Type} : TV → (TV → β) → β
  | .pr a b, k => frcV a fun a => frcV b fun b => k (.pr a b)
  | .tc a b, k => frcV a fun a => frcV b fun b => k (.tc a b)
  | .fn f c, k => frcV c fun c => k (.fn f c)
  | v, k => k v
def frcL {β : Type} : List (Nat × TV) → (List (Nat × TV) → β) → β
  | [], k => k []
  | (n, v) :: r, k => frcV v fun v => frcL r fun r => k ((n, v) :: r)
def frcO {β : Type} : List (Nat × Obj) → (List (Nat × Obj) → β) → β
  | [], k => k []
  | (n, .bx v) :: r, k => frcV v fun v => frcO r fun r => k ((n, .bx v) :: r)
  | (n, .ls e t deep xs) :: r, k => frcO r fun r => k ((n, .ls e t deep xs) :: r)
def frcS {β : Type} (s : St) (k : St → β) : β := frcL s.tm fun tm => frcO s.ob fun ob => k ⟨s.nt, tm, ob, s.nx, s.fx⟩
def frcN {β : Type} : List Nat → (List Nat → β) → β
  | [], k => k []
  | n :: r, k => frcN r fun r => k (n :: r)

theorem frcV_eq {β : Type} : ∀ (v : TV) (k : TV → β), frcV v k = k v := by
  intro v
  induction v with
  | pr a b iha ihb => intro k; simp only [frcV, iha, ihb]
  | tc a b iha ihb => intro k; simp only [frcV, iha, ihb]
  | fn f c ih => intro k; simp only [frcV, ih]
  | _ => intro k; rfl
theorem frcL_eq {β : Type} : ∀ (l : List (Nat × TV)) (k : List (Nat × TV) → β), frcL l k = k l := by
  intro l
  induction l with
  | nil => intro k; rfl
  | cons p r ih => intro k; obtain ⟨n, v⟩ := p; simp only [frcL, frcV_eq, ih]
theorem frcO_eq {β : Type} : ∀ (l : List (Nat × Obj)) (k : List (Nat × Obj) → β), frcO l k = k l := by
  intro l
  induction l with
  | nil => intro k; rfl
  | cons p r ih => intro k; obtain ⟨n, v⟩ := p; cases v <;> simp only [frcO, frcV_eq, ih]
theorem frcS_eq {β : Type} (s : St) (k : St → β) : frcS s k = k s := by simp only [frcS, frcL_eq, frcO_eq]
theorem frcN_eq {β : Type} : ∀ (l : List Nat) (k : List Nat → β), frcN l k = k l := by
  intro l
  induction l with
  | nil => intro k; rfl
  | cons p r ih => intro k; simp only [frcN, ih]

def litL : List (Nat × TV) → Nat → Bool → List (Nat × TV)
  | [], _, _ => []
  | (m, v) :: r, t, b =>
    if t = m then (match v with | .sc _ .bool _ => (m, .sc false .bool b) :: r | v => (m, v) :: r)
    else (m, v) :: litL r t b
def tmI (m : Nat → Bool) : List Item → List (Nat × TV)
  | [] => []
  | x :: r => if m x.i then (match x.dst with | some d => (d, x.v) :: tmI m r | none => tmI m r) else tmI m r
def obI (m : Nat → Bool) : List Item → List (Nat × Obj)
  | [] => []
  | x :: r => if m x.i then x.obs ++ obI m r else obI m r
/-- The item, among those of m, that writes slot t, told anew. -/
def litI (m : Nat → Bool) : List Item → Nat → Bool → List Item
  | [], _, _ => []
  | x :: r, t, b => if m x.i = true ∧ x.dst = some t then (match x.v with | .sc _ .bool _ => { x with v := .sc false .bool b } :: r | _ => x :: r) else x :: litI m r t b
def litX (m : Nat → Bool) (s : St) (A : List Item) (t : Nat) (b : Bool) : St × List Item :=
  if (lk (tmI m A) t).isSome then (s, litI m A t b) else ({ s with tm := litL s.tm t b }, A)
def hideT (h : List Nat) : List (Nat × TV) → List (Nat × TV)
  | [] => []
  | (t, v) :: r => if h.contains t then hideT h r else (t, v) :: hideT h r

/-- The slots that operations write of which we do not know whether they come ahead of operation i. -/
def hid (ops : Array Oper) (ms : List Nat) (lo i : Nat) : List Nat :=
  (List.range ops.size).filterMap fun k =>
    if (decide (lo ≤ k) && decide (k ≠ i) && !(ms.getD i 0).testBit k && !(ms.getD k 0).testBit i) = true then (ops[k]?).bind (·.dst) else none

def view (s : St) (A : List Item) (m : Nat → Bool) (h : List Nat) : St := { s with tm := tmI m A ++ hideT h s.tm, ob := obI m A ++ s.ob }
def flush (s : St) (A : List Item) : St := { s with tm := tmI (fun _ => true) A ++ s.tm, ob := obI (fun _ => true) A ++ s.ob }

/-- Is operation k behind all ahead of it and ahead of all behind it? -/
def isCut (ms : List Nat) (n k : Nat) : Bool := decide (ms.getD k 0 = 2 ^ k - 1) && (List.range n).all fun j => decide (j ≤ k) || (ms.getD j 0).testBit k

/-- The destinations are different slots. -/
def dstsOk (ops : Array Oper) : Bool := decide ((ops.toList.filterMap (·.dst)).Nodup)

/-- One operation that may come at any time behind those that it waits for. -/
def vpar1 (M : Mk) (T : Nat → K) (E : Nat → Option Ent) {β : Type} (o : Oper) (i : Nat) (V : St) (k : Item → Option β) (kl : Nat → Bool → Option β) : Option β :=
  if dstOk V o.dst = true then
    match o.op with
    | .pick c x y =>
      match evo (lk V.tm) c, c with
      | some (.sc e .bool b), .tmp t => brT M e b (kl t true) (kl t false)
      | _, _ => M.err 11 (o.op, V)
    | .call { callee := .value f, args, argTypes } =>
      match vcall E V f args.toList with
      | some q => M.cal (q.1.den q.2) fun d => k ⟨i, o.dst, (aft q.1 V d).2, shiftOb V.nx (q.1.rsh.fill 0 d).ob, V.nx, (aft q.1 V d).1.nx⟩
      | none => M.err 12 (o.op, V)
    | op =>
      match vpure2 T (lk V.tm) (lk V.ob) V.nx op with
      | some out => chkT M (chks T op) out.ok (bndO M (out.nw.map fun ob => (V.nx, ob)) fun nw => (if binds op then bndT M out.v else fun f => f out.v) fun v => k ⟨i, o.dst, v, nw.toList, V.nx, V.nx + 1⟩)
      | none => none
  else none

/-- One operation that stands among others of open order. m: what stands before it; h: the slots hidden from it. -/
def vst (M : Mk) (T : Nat → K) (E : Nat → Option Ent) {β : Type} (ops : Array Oper) (i : Nat) (o : Oper) (m0 : Nat) (h0 : List Nat) (s : St) (A : List Item) (next : St → List Item → Option β) : Option β :=
  frcN h0 fun h =>
  let m : Nat → Bool := fun j => m0.testBit j
  let run (q : St × List Item) : Option β :=
    vpar1 M T E o i (view q.1 q.2 m h) (fun it => frcV it.v fun v => next { q.1 with nx := it.e } ({ it with v := v } :: q.2))
      fun t b =>
        match o.op with
        | .pick _ x y => (evo (lk (view (litX m q.1 q.2 t b).1 (litX m q.1 q.2 t b).2 m h).tm) (if b then x else y)).bind fun v =>
            next (litX m q.1 q.2 t b).1 (⟨i, o.dst, v, [], q.1.nx, q.1.nx⟩ :: (litX m q.1 q.2 t b).2)
        | _ => none
  let skip (q : St × List Item) : Option β := if dstOk q.1 o.dst = true then next q.1 (⟨i, o.dst, .tn, [], q.1.nx, q.1.nx⟩ :: q.2) else none
  match o.guard with
  | none => run (s, A)
  | some (g, want) =>
    match (ops[g]?).bind (·.dst) with
    | none => none
    | some t =>
      match lk (view s A m h).tm t with
      | some (.sc e .bool b) =>
        brT M e b (if want then run (litX m s A t true) else skip (litX m s A t true))
          (if want then skip (litX m s A t false) else run (litX m s A t false))
      | some .tn => skip (s, A)
      | _ => M.err 15 (o.op, view s A m h)

/-- Operations whose order is open. -/
def vdr (M : Mk) (T : Nat → K) (E : Nat → Option Ent) {β : Type} (ops : Array Oper) (ms : List Nat) : List Nat → Nat → St → List Item → (St → Option β) → Option β
  | [], _, s, A, k => k (flush s A)
  | i :: r, lo, s, A, k =>
    if isCut ms ops.size i = true then vops M T E ops [i] (flush s A) fun s => frcS s fun s => vdr M T E ops ms r (i + 1) s [] k
    else
      match ops[i]? with
      | none => none
      | some o => vst M T E ops i o (ms.getD i 0) (hid ops ms lo i) s A fun s A => vdr M T E ops ms r lo s A k

/-- What is noted of an operation of a region of open order: what stands before it (as bits); is it a cut; the slots hidden from it. -/
structure Ri where
  m : Nat
  c : Bool
  h : List Nat
  deriving DecidableEq

/-- Operations one after another, the operations themselves at hand. -/
def vopsL (M : Mk) (T : Nat → K) (E : Nat → Option Ent) {β : Type} (ops : Array Oper) : List Oper → St → (St → Option β) → Option β
  | [], s, k => k s
  | o :: r, s, k =>
    match o.guard with
    | none => vone M T E o s fun s => vopsL M T E ops r s k
    | some (g, want) =>
      match (ops[g]?).bind (·.dst) with
      | none => none
      | some t =>
        match lk s.tm t with
        | some (.sc e .bool b) =>
          brT M e b
            (if want then vone M T E o (lit s (.tmp t) true) fun s => vopsL M T E ops r s k else if dstOk s o.dst = true then vopsL M T E ops r ((lit s (.tmp t) true).put o.dst .tn) k else none)
            (if want then (if dstOk s o.dst = true then vopsL M T E ops r ((lit s (.tmp t) false).put o.dst .tn) k else none) else vone M T E o (lit s (.tmp t) false) fun s => vopsL M T E ops r s k)
        | some .tn => if dstOk s o.dst = true then vopsL M T E ops r (s.put o.dst .tn) k else none
        | _ => M.err 5 (o.op, s)

def mkEnts : Nat → List Oper → List Ri → List (Nat × Oper × Ri)
  | i, o :: os, q :: qs => (i, o, q) :: mkEnts (i + 1) os qs
  | _, _, _ => []

/-- Operations whose order is open, with what is noted of them. -/
def vdrL (M : Mk) (T : Nat → K) (E : Nat → Option Ent) {β : Type} (ops : Array Oper) : List (Nat × Oper × Ri) → St → List Item → (St → Option β) → Option β
  | [], s, A, k => k (flush s A)
  | (i, o, q) :: r, s, A, k =>
    if q.c = true then vopsL M T E ops [o] (flush s A) fun s => frcS s fun s => vdrL M T E ops r s [] k
    else vst M T E ops i o q.m q.h s A fun s A => vdrL M T E ops r s A k

/-- Operations that store nothing, none of them a cut. -/
def vjL (M : Mk) (T : Nat → K) (E : Nat → Option Ent) {β : Type} (ops : Array Oper) : List (Nat × Oper × Ri) → St → List Item → (St → List Item → Option β) → Option β
  | [], s, A, k => k s A
  | (i, o, q) :: r, s, A, k => vst M T E ops i o q.m q.h s A fun s A => vjL M T E ops r s A k

/-- Is what is noted true? -/
def entsOk (ops : Array Oper) (ms : List Nat) : Nat → Nat → List Ri → Bool
  | _, i, [] => decide (i = ops.size)
  | lo, i, q :: r => decide (i < ops.size) && decide (q.c = isCut ms ops.size i) && (if q.c then entsOk ops ms (i + 1) (i + 1) r else decide (q.h = hid ops ms lo i) && entsOk ops ms lo (i + 1) r)
def regOk (ops : Array Oper) (qs : List Ri) : Bool := dstsOk ops && okMs ops (qs.map (·.m)) && entsOk ops (qs.map (·.m)) 0 0 qs

/-- Of a region that makes but a bool: is what is noted true? -/
def seqMs (qs : List Ri) : Bool := (List.range qs.length).all fun i => decide ((qs.map (·.m)).getD i 0 = 2 ^ i - 1)
def jnOk (ops : Array Oper) (qs : List Ri) (draw : Bool) : Bool :=
  dstsOk ops && decide (qs.length = ops.size) && (if draw then okMs ops (qs.map (·.m)) else seqMs qs) && (List.range ops.size).all fun i => decide ((qs.map (·.h))[i]? = some (hid ops (qs.map (·.m)) 0 i))
def dstsOf (ops : Array Oper) : List Nat := ops.toList.filterMap (·.dst)

/-- What is noted of a function's code: the shapes at the heads of its loops; of its regions of open order, what stands before each operation. -/
structure An where
  sh : Nat → Sh
  ms : Nat → List Ri
  jr : Nat → Option Nat
  lv : Nat → Option (List Nat)

/-- What is noted of a code's regions is true. -/
def anOk (N : An) : Code → Bool
  | .region id ops draw => if (N.jr id).isSome then jnOk ops (N.ms id) draw else (!draw || regOk ops (N.ms id))
  | .seq a b => anOk N a && anOk N b
  | .cond _ a b => anOk N a && anOk N b
  | .block _ a => anOk N a
  | .loop a => anOk N a
  | _ => true

/-- The slots of a list alone. -/
def keepT (tm : List (Nat × TV)) : List Nat → List (Nat × TV)
  | [] => []
  | t :: r => match lk tm t with | some v => (t, v) :: keepT tm r | none => keepT tm r
def prune (l : Option (List Nat)) (s : St) : St :=
  match l with
  | some l => { s with tm := keepT s.tm l }
  | none => s

def vreg (M : Mk) (T : Nat → K) (E : Nat → Option Ent) (N : An) {β : Type} (id : Nat) (ops : Array Oper) (draw : Bool) (s : St) (k : St → Option β) : Option β :=
  match N.jr id with
  | some t =>
    if t < s.nt ∧ s.fx.contains t = false then
      M.jn (vjL M T E ops (mkEnts 0 ops.toList (N.ms id)) s [] fun _ A => match lk (tmI (fun _ => true) A) t with | some (.sc _ .bool b) => some b | _ => M.err 18 (id, s))
        fun b => frcS (prune (N.lv id) { s with tm := (t, .sc true .bool b) :: hideT (dstsOf ops) s.tm }) k
    else none
  | none =>
    if draw then vdrL M T E ops (mkEnts 0 ops.toList (N.ms id)) s [] fun s => frcS (prune (N.lv id) s) k
    else vopsL M T E ops ops.toList s fun s => frcS (prune (N.lv id) s) k

theorem vopsL_eq {M : Mk} {T : Nat → K} {E : Nat → Option Ent} {β : Type} {ops : Array Oper} : ∀ {os : List Oper} {is : List Nat} {s : St} {k : St → Option β}, is.map (fun i => ops[i]?) = os.map some → vopsL M T E ops os s k = vops M T E ops is s k := by
  intro os
  induction os with
  | nil => intro is s k h; cases is with
    | nil => rfl
    | cons _ _ => simp at h
  | cons o r ih =>
    intro is s k h
    cases is with
    | nil => simp at h
    | cons i is =>
      simp only [List.map_cons, List.cons.injEq] at h
      simp only [vopsL, vops, h.1, ih h.2] <;> rfl

theorem range_ops (ops : Array Oper) : (List.range ops.size).map (fun i => ops[i]?) = ops.toList.map some := by
  apply List.ext_getElem?
  intro i
  simp only [List.getElem?_map]
  by_cases h : i < ops.size
  · simp [h]
  · simp [h]

theorem vdrL_eq {M : Mk} {T : Nat → K} {E : Nat → Option Ent} {β : Type} {ops : Array Oper} {ms : List Nat} : ∀ {os : List Oper} {qs : List Ri} {lo i : Nat} {s : St} {A : List Item} {k : St → Option β},
    (∀ j, os[j]? = ops[i + j]?) → (∀ j, qs[j]?.map (·.m) = ms[i + j]?) → entsOk ops ms lo i qs = true →
    vdrL M T E ops (mkEnts i os qs) s A k = vdr M T E ops ms (List.range' i (ops.size - i)) lo s A k := by
  intro os
  induction os with
  | nil =>
    intro qs lo i s A k h1 h2 h3
    have h0 := h1 0
    simp only [List.getElem?_nil, Nat.add_zero] at h0
    have hi : ops.size ≤ i := Array.getElem?_eq_none_iff.1 h0.symm
    have : ops.size - i = 0 := by omega
    rw [this, List.range'_zero]
    cases qs <;> rfl
  | cons o os ih =>
    intro qs lo i s A k h1 h2 h3
    have h0 := h1 0
    simp only [List.getElem?_cons_zero, Nat.add_zero] at h0
    have hi : i < ops.size := (Array.getElem?_eq_some_iff.1 h0.symm).1
    cases qs with
    | nil => simp only [entsOk, decide_eq_true_eq] at h3; omega
    | cons q qs =>
      have hm := h2 0
      simp only [List.getElem?_cons_zero, Option.map_some, Nat.add_zero] at hm
      have hmd : ms.getD i 0 = q.m := by rw [List.getD_eq_getElem?_getD, ← hm]; rfl
      obtain ⟨m, hmm⟩ : ∃ m, ops.size - i = m + 1 := ⟨ops.size - i - 1, by omega⟩
      have hm2 : ops.size - (i + 1) = m := by omega
      rw [hmm, List.range'_succ]
      have t1 : ∀ j, os[j]? = ops[i + 1 + j]? := fun j => by have := h1 (j + 1); simp only [List.getElem?_cons_succ] at this; rw [this]; congr 1; omega
      have t2 : ∀ j, qs[j]?.map (·.m) = ms[i + 1 + j]? := fun j => by have := h2 (j + 1); simp only [List.getElem?_cons_succ] at this; rw [this]; congr 1; omega
      simp only [entsOk, Bool.and_eq_true, decide_eq_true_eq] at h3
      obtain ⟨⟨_, hc⟩, h3⟩ := h3
      simp only [mkEnts, vdrL, vdr]
      cases hqc : q.c with
      | true =>
        rw [hqc] at hc h3
        rw [if_pos rfl, if_pos hc.symm, vopsL_eq (is := [i]) (by simp [h0])]
        have := fun s => ih (lo := i + 1) (s := s) (A := []) (k := k) t1 t2 (by simpa using h3)
        simp only [this, hm2]
      | false =>
        rw [hqc] at hc h3
        simp only [Bool.false_eq_true, if_false, Bool.and_eq_true, decide_eq_true_eq] at h3
        rw [if_neg (show ¬ (false = true) by simp), if_neg (show ¬ (isCut ms ops.size i = true) by rw [← hc]; simp), ← h0]
        have := fun s A => ih (lo := lo) (s := s) (A := A) (k := k) t1 t2 h3.2
        simp only [this, hm2, hmd, h3.1]

/-- The words, such that nothing looks into them. -/
noncomputable def rgd : Mk := (Classical.choice (⟨⟨std, rfl⟩⟩ : Nonempty { M : Mk // M = std })).1
theorem rgd_eq : rgd = std := (Classical.choice (⟨⟨std, rfl⟩⟩ : Nonempty { M : Mk // M = std })).2

/-- The number by which a loop is known. -/
def firstId : Code → Nat
  | .region id _ _ => id
  | .seq a _ => firstId a
  | .cond _ a _ => firstId a
  | .block _ a => firstId a
  | .loop a => firstId a
  | _ => 0

def vexec (M : Mk) (T : Nat → K) (E : Nat → Option Ent) (N : An) : Code → {β : Type} → St → (St → Option β) → List (Nat × (St → Option β)) → (St → Option β) → Option β
  | .skip, _, s, kn, _, _ => kn s
  | .region id ops draw, _, s, kn, _, _ => vreg M T E N id ops draw s kn
  | .seq a b, _, s, kn, ke, kr => vexec M T E N a s (fun s => vexec M T E N b s kn ke kr) ke kr
  | .cond c x y, _, s, kn, ke, kr =>
    match evo (lk s.tm) c with
    | some (.sc e .bool b) => brT M e b (vexec M T E N x (lit s c true) kn ke kr) (vexec M T E N y (lit s c false) kn ke kr)
    | _ => M.err 6 (c, s)
  | .block id c, _, s, kn, ke, kr => vexec M T E N c s kn ((id, kn) :: ke) kr
  | .exit id, _, s, _, ke, _ => match lk ke id with | some k => k s | none => none
  | .ret, _, s, _, _, kr => kr s
  | .loop c, β, s, kn, ke, kr =>
    match mtp (N.sh (firstId c)) s with
    | some d =>
      M.lop (fun d => vexec M T E N c (β := HL (N.sh (firstId c)).ks ⊕ β) { (N.sh (firstId c)).fill s.nt d with fx := s.fx }
        (fun s' => if s'.nt = s.nt ∧ s'.fx = s.fx then (match mtp (N.sh (firstId c)) s' with | some d' => some (.inl d') | none => M.err 8 (firstId c, s')) else none)
        (ke.map fun q => (q.1, fun s' => M.out (q.2 s'))) (fun s' => M.out (kr s'))) d
    | none => M.err 7 (firstId c, s)
  | _, _, s, _, _, _ => M.err 9 s

/-- The results' values: of slots, or read out of variables. -/
def resV (T : Nat → K) (s : St) : List Go.ResultVar → Nat → Option (List (Nat × TV))
  | [], _ => some []
  | .tmp t :: r, i => (lk s.tm t).bind fun v => (resV T s r (i + 1)).map fun l => (i, v) :: l
  | .cell p t :: r, i => if T t = .un then none else (lk s.tm p).bind fun p => (match p with | .bp n path => vload T (lk s.ob) t (.bp n path) | _ => none).bind fun v => (resV T s r (i + 1)).map fun l => (i, v) :: l
def vret (M : Mk) (T : Nat → K) (rs : List Go.ResultVar) (rsh : Sh) (s : St) : Option (HL rsh.ks) :=
  match resV T s rs 0 with
  | some l => (match mtp rsh (priTm rsh.tm { s with nt := rs.length, tm := l, fx := [] }) with | some d => some d | none => M.err 10 { s with nt := rs.length, tm := l, fx := [] })
  | none => M.err 17 s

/-- What a function computes. -/
def vfun (M : Mk) (T : Nat → K) (E : Nat → Option Ent) (N : An) (nt : Nat) (pars : List (Nat × TSh)) (rs : List Go.ResultVar) (rsh : Sh) (c : Code) (x : HL (tmks pars [])) : Option (HL rsh.ks) :=
  vexec M T E N c { nt := nt, tm := (tmfill pars [] x).1, ob := [], nx := 0 } (vret M T rs rsh) [] (vret M T rs rsh)

end Go.Vm

/- The value machine, part 32: operations one after another, on the machine. -/
set_option linter.unusedVariables false
set_option linter.unusedSimpArgs false
namespace Go.Vm

section
variable {P : Program} {T : Nat → K} {E : Nat → Option Ent} {w w' : World} {w0 : W0} {F N : Nat → Prop} {g g' : G} {s : St} {a : Act} {base : Nat} {β : Type}

theorem yielded_bool (hs : SI F w0 s a w) {ops : Array Oper} {j t : Nat} {e b : Bool} (ht : (ops[j]?).bind (·.dst) = some t) (hl : lk s.tm t = some (.sc e .bool b)) : yielded ops a.tmps j = some b := by
  obtain ⟨g, I⟩ := hs
  obtain ⟨u, h1, h2⟩ := I.tm t _ hl
  have := VT_bool h2
  subst this
  simp [yielded, ht, h1]

theorem yielded_tn (hs : SI F w0 s a w) {ops : Array Oper} {j t : Nat} (ht : (ops[j]?).bind (·.dst) = some t) (hl : lk s.tm t = some .tn) : yielded ops a.tmps j = none := by
  obtain ⟨g, I⟩ := hs
  obtain ⟨u, h1, h2⟩ := I.tm t _ hl
  simp only [VT] at h2
  subst h2
  simp [yielded, ht, h1]

theorem SI_skip (hs : SI F w0 s a w) {d : Option Nat} (hd : dstOk s d = true) : SI F w0 (s.put d .tn) (a.put d undef) w := by
  obtain ⟨g, I⟩ := hs
  exact SI_put I (v := .tn) rfl trivial hd

theorem vops_sound (hT : TOk P T) (hE : EOk P E) {ops : Array Oper} {k : St → Option β} {r : β} {Q : Exit → Act → World → Prop} {K : Act → World → Prop}
    (hK : ∀ s' a' w', SI F w0 s' a' w' → k s' = some r → K a' w') : ∀ {is : List Nat} {s : St} {a : Act} {w : World}, vops std T E ops is s k = some r → SI F w0 s a w →
    ∀ {rest : List Nat}, (∀ a' w', K a' w' → wpOps P ops Q rest a' w') → wpOps P ops Q (is ++ rest) a w := by
  intro is
  induction is with
  | nil => intro s a w h hs rest hr; exact hr _ _ (hK s a w hs h)
  | cons i r ih =>
    intro s a w h hs rest hr
    simp only [vops] at h
    simp only [List.cons_append, wpOps]
    split at h
    · cases h
    · rename_i o ho
      simp only [ho]
      have step : ∀ {s : St}, SI F w0 s a w → (vone std T E o s fun s => vops std T E ops r s k) = some _ → o.wp P a w (wpOps P ops Q (r ++ rest)) Q ∨ (o.asks P a w ∧ LetsOut Q) := fun hs h =>
        .inl (Oper.wp_mono (fun a' w' h' => by obtain ⟨s', h1, h2⟩ := h'; exact ih h2 h1 hr) (vone_sound hT hE h hs))
      have skip : ∀ {s : St}, SI F w0 s a w → dstOk s o.dst = true → vops std T E ops r (s.put o.dst .tn) k = some _ → wpOps P ops Q (r ++ rest) (a.put o.dst undef) w := fun hs hd h =>
        ih h (SI_skip hs hd) hr
      split at h
      · rename_i hg
        rw [if_pos (by simp [Region.wanted, hg])]
        exact step hs h
      · rename_i gg want hg
        split at h
        · cases h
        · rename_i t ht
          split at h
          · rename_i e b hl
            have hy := yielded_bool hs ht hl
            have hw : Region.wanted o (yielded ops a.tmps) = (b == want) := by simp only [Region.wanted, hg, hy]; cases b <;> cases want <;> rfl
            rw [hw]
            have hlit : SI F w0 (lit s (.tmp t) b) a w := SI_lit (x := .tmp t) hs hl
            rw [brT_std] at h
            cases b with
            | true =>
              simp only [cond_true] at h
              cases want with
              | true => simp only [if_true] at h; rw [if_pos (show (true == true) = true from rfl)]; exact step hlit h
              | false =>
                simp only [Bool.false_eq_true, if_false] at h
                rw [if_neg (by simp)]
                split at h
                · rename_i hd; exact skip hlit (by rw [dstOk_lit]; exact hd) h
                · cases h
            | false =>
              simp only [cond_false] at h
              cases want with
              | true =>
                simp only [if_true] at h
                rw [if_neg (by simp)]
                split at h
                · rename_i hd; exact skip hlit (by rw [dstOk_lit]; exact hd) h
                · cases h
              | false => simp only [Bool.false_eq_true, if_false] at h; rw [if_pos (show (false == false) = true from rfl)]; exact step hlit h
          · rename_i hl
            have hy := yielded_tn hs ht hl
            have hw : Region.wanted o (yielded ops a.tmps) = false := by simp only [Region.wanted, hg, hy]; rfl
            rw [hw]
            simp only [Bool.false_eq_true, if_false]
            split at h
            · rename_i hd; exact skip hs hd h
            · cases h
          · simp [std] at h

end
end Go.Vm

/- The value machine, part 33: whole code, on the machine. -/
set_option linter.unusedVariables false
set_option linter.unusedSimpArgs false
namespace Go.Vm

/-- Regions of open order do what is computed. -/
def DrOk (P : Program) (T : Nat → K) (E : Nat → Option Ent) : Prop :=
  ∀ (F : Nat → Prop) (w0 : W0) (ops : Array Oper) (ms : List Nat) (β : Type) (s : St) (k : St → Option β) (r : β) (Q : Exit → Act → World → Prop) (a : Act) (w : World), dstsOk ops = true → okMs ops ms = true →
    vdr std T E ops ms (List.range ops.size) 0 s [] k = some r → SI F w0 s a w → (∀ s' a' w', SI F w0 s' a' w' → k s' = some r → Q .normal a' w') →
    wpAny P .any ops Q ops.size (Array.replicate ops.size false) a w

/-- Regions that make but a bool do what is computed. -/
def JnOk (P : Program) (T : Nat → K) (E : Nat → Option Ent) : Prop :=
  ∀ (F : Nat → Prop) (w0 : W0) (ops : Array Oper) (qs : List Ri) (draw : Bool) (s : St) (t : Nat) (er : List Item → Option Bool) (b : Bool) (Q : Exit → Act → World → Prop) (a : Act) (w : World), (∀ A, er A = none) → jnOk ops qs draw = true → t < s.nt ∧ s.fx.contains t = false →
    vjL std T E ops (mkEnts 0 ops.toList qs) s [] (fun _ A => match lk (tmI (fun _ => true) A) t with | some (.sc _ .bool b) => some b | _ => er A) = some b → SI F w0 s a w →
    (∀ a' w', SI F w0 { s with tm := (t, .sc true .bool b) :: hideT (dstsOf ops) s.tm } a' w' → Q .normal a' w') →
    (if draw then wpAny P .any ops Q ops.size (Array.replicate ops.size false) a w else wpOps P ops Q (List.range ops.size) a w)

section
variable {P : Program} {T : Nat → K} {E : Nat → Option Ent} {N : An} {w w' : World} {w0 : W0} {F : Nat → Prop} {s : St} {a : Act}

theorem SI_drawn (hs : SI F w0 s a w) : SI F w0 s a { w with drawn := w.drawn + 1 } := by
  obtain ⟨g, I⟩ := hs
  have t : Turn (fun _ => False) (fun _ => False) True (Nm s) F g g w { w with drawn := w.drawn + 1 } := ⟨fun _ _ _ => rfl, fun _ h => h.elim, fun _ _ h => h.elim, fun _ _ h => h.elim, fun _ _ => Iff.rfl, fun _ _ => rfl⟩
  refine ⟨g, fun n o h => ?_, I.dis, I.inF, I.bxF, fun t' v h => ?_, I.nmT, I.nmO, I.nt, I.df, I.big, I.kept.trans ⟨rfl, rfl, rfl, Nat.le_refl _, fun _ _ _ => rfl⟩⟩
  · exact OR_turn t (I.nmO n o h).1 (I.nmO n o h).2 o.safe_none (fun b _ h => h) (fun _ => Iff.rfl) (I.ob n o h)
  · obtain ⟨u, h1, h2⟩ := I.tm t' v h
    exact ⟨u, h1, VT_turn t (I.nmT t' v h) v.safe_none h2⟩

theorem lk_map {α γ : Type} (f : α → γ) (l : List (Nat × α)) (n : Nat) : lk (l.map fun q => (q.1, f q.2)) n = (lk l n).map f := by
  induction l with
  | nil => rfl
  | cons p r ih =>
    obtain ⟨m, x⟩ := p
    simp only [List.map_cons, lk]
    split
    · rfl
    · exact ih

theorem least {p : Nat → Prop} (h : ∃ n, p n) : ∃ n, p n ∧ ∀ m, p m → n ≤ m := by
  obtain ⟨n, hn⟩ := h
  induction n using Nat.strongRecOn with
  | _ n ih =>
    by_cases hx : ∃ m, m < n ∧ p m
    · obtain ⟨m, h1, h2⟩ := hx; exact ih m h1 h2
    · exact ⟨n, hn, fun m hm => Nat.le_of_not_lt fun hlt => hx ⟨m, hlt, hm⟩⟩

/-- A loop by a number that falls. -/
theorem wp_loop_n {c : Code} {Q : Exit → Act → World → Prop} (I : Nat → Act → World → Prop) {n : Nat} (h0 : I n a w)
    (round : ∀ n a w, I n a w → c.wp P (Exit.then (fun a' w' => ∃ m, m < n ∧ I m a' w') Q) a w) : (Code.loop c).wp P Q a w := by
  classical
  let μ : Act → World → Nat := fun a w => if h : ∃ n, I n a w then Classical.choose (least h) else 0
  refine wp_loop (fun a w => ∃ n, I n a w) μ ⟨n, h0⟩ fun a w hI => ?_
  have hμ : I (μ a w) a w := by simp only [μ, dif_pos hI]; exact (Classical.choose_spec (least hI)).1
  refine wp_mono (round _ a w hμ) fun e a' w' hq => ?_
  cases e with
  | normal =>
    obtain ⟨m, hm, hI'⟩ := hq
    refine ⟨⟨m, hI'⟩, ?_⟩
    have : μ a' w' ≤ m := by simp only [μ, dif_pos (show ∃ n, I n a' w' from ⟨m, hI'⟩)]; exact (Classical.choose_spec (least (show ∃ n, I n a' w' from ⟨m, hI'⟩))).2 m hI'
    omega
  | _ => exact hq

theorem lk_keepT {tm : List (Nat × TV)} : ∀ {l : List Nat} {t : Nat} {v : TV}, lk (keepT tm l) t = some v → lk tm t = some v := by
  intro l
  induction l with
  | nil => intro t v h; simp [keepT, lk] at h
  | cons x r ih =>
    intro t v h
    simp only [keepT] at h
    split at h
    · rename_i u hu
      simp only [lk] at h
      split at h
      · rename_i he; subst he; simp only [Option.some.injEq] at h; subst h; exact hu
      · exact ih h
    · exact ih h
theorem SI_prune (hs : SI F w0 s a w) (l : Option (List Nat)) : SI F w0 (prune l s) a w := by
  obtain ⟨g, I⟩ := hs
  cases l with
  | none => exact ⟨g, I⟩
  | some l => exact ⟨g, I.ob, I.dis, I.inF, I.bxF, fun t v h => I.tm t v (lk_keepT h), fun t v h => I.nmT t v (lk_keepT h), I.nmO, I.nt, I.df, I.big, I.kept⟩

theorem SI_fx {fx : List Nat} (h : SI F w0 s a w) (hx : ∀ t, fx.contains t = true → a.tmps[t]? = w0.ar t) : SI F w0 { s with fx := fx } a w := by
  obtain ⟨g, I⟩ := h
  exact ⟨g, I.ob, I.dis, I.inF, I.bxF, I.tm, I.nmT, I.nmO, I.nt, ⟨I.df.1, hx⟩, I.big, I.kept⟩

theorem vexec_sound (hT : TOk P T) (hE : EOk P E) (hm : P.follows .mixedOrders = true) (hD : DrOk P T E) (hJ : JnOk P T E) : ∀ (c : Code) {β : Type} {s : St} {kn : St → Option β} {ke : List (Nat × (St → Option β))} {kr : St → Option β} {r : β} {Q : Exit → Act → World → Prop} {a : Act} {w : World},
    anOk N c = true → vexec std T E N c s kn ke kr = some r → SI F w0 s a w → (∀ s' a' w', SI F w0 s' a' w' → kn s' = some r → Q .normal a' w') →
    (∀ id k, lk ke id = some k → ∀ s' a' w', SI F w0 s' a' w' → k s' = some r → Q (.exit id) a' w') → (∀ s' a' w', SI F w0 s' a' w' → kr s' = some r → Q .ret a' w') → c.wp P Q a w := by
  intro c
  induction c with
  | skip => intro β s kn ke kr r Q a w hA h hs hn he hr; exact wp_skip (hn s a w hs h)
  | region id ops draw =>
    intro β s kn ke kr r Q a w hA h hs hn he hr
    simp only [vexec, vreg] at h
    split at h
    · rename_i t hj
      simp only [anOk, hj, Option.isSome_some, if_true] at hA
      split at h
      · rename_i ht
        simp only [std, Option.bind_eq_some_iff] at h
        obtain ⟨b, hb, h⟩ := h
        rw [frcS_eq] at h
        have key : ∀ w, SI F w0 s a w → (if draw then wpAny P .any ops Q ops.size (Array.replicate ops.size false) a w else wpOps P ops Q (List.range ops.size) a w) := fun w hs =>
          hJ F w0 ops (N.ms id) draw s t (fun _ => none) b Q a w (fun _ => rfl) hA ht hb hs fun a' w' hs' => hn _ a' w' (SI_prune hs' _) h
        cases draw with
        | true => exact wp_region_any hm (by simpa using key _ (SI_drawn hs))
        | false => exact wp_region (by simpa using key _ hs)
      · cases h
    rename_i hj
    simp only [anOk, hj, Option.isSome_none, Bool.false_eq_true, if_false] at hA
    cases draw with
    | true =>
      simp only [if_true] at h
      simp only [Bool.not_true, Bool.false_or, regOk, Bool.and_eq_true] at hA
      have he := vdrL_eq (M := std) (T := T) (E := E) (ops := ops) (ms := (N.ms id).map (·.m)) (os := ops.toList) (qs := N.ms id) (lo := 0) (i := 0) (s := s) (A := []) (k := fun s => frcS (prune (N.lv id) s) kn) (fun j => by simp) (fun j => by simp) hA.2
      rw [he, Nat.sub_zero, ← List.range_eq_range'] at h
      refine wp_region_any hm ?_
      exact hD F w0 ops ((N.ms id).map (·.m)) β s _ r Q a _ hA.1.1 hA.1.2 h (SI_drawn hs) (fun s' a' w' hs' hk => hn _ a' w' (SI_prune hs' _) (by rw [frcS_eq] at hk; exact hk))
    | false =>
      simp only [Bool.false_eq_true, if_false] at h
      rw [vopsL_eq (range_ops ops)] at h
      refine wp_region ?_
      have := vops_sound hT hE (P := P) (ops := ops) (Q := Q) (K := fun a' w' => Q .normal a' w') (fun s' a' w' hs' hk => hn _ a' w' (SI_prune hs' _) (by rw [frcS_eq] at hk; exact hk)) h hs (rest := []) (fun a' w' h => h)
      simpa using this
  | seq x y ihx ihy =>
    intro β s kn ke kr r Q a w hA h hs hn he hr
    simp only [anOk, Bool.and_eq_true] at hA
    refine wp_seq (ihx (Q := Exit.then (y.wp P Q) Q) hA.1 h hs (fun s' a' w' hs' hk => ihy hA.2 hk hs' hn he hr) (fun id k hl s' a' w' hs' hk => he id k hl s' a' w' hs' hk) (fun s' a' w' hs' hk => hr s' a' w' hs' hk))
  | cond c x y ihx ihy =>
    intro β s kn ke kr r Q a w hA h hs hn he hr
    simp only [vexec] at h
    split at h
    · rename_i e b hc
      have hlit := SI_lit hs hc
      obtain ⟨g, I⟩ := hs
      have hv := VT_bool (eval_VT I hc)
      rw [brT_std] at h
      cases b with
      | true => exact wp_cond_true hv (ihx (by simp only [anOk, Bool.and_eq_true] at hA; exact hA.1) (by simpa [std] using h) hlit hn he hr)
      | false => exact wp_cond_false hv (ihy (by simp only [anOk, Bool.and_eq_true] at hA; exact hA.2) (by simpa [std] using h) hlit hn he hr)
    · simp [std] at h
  | block id c ih =>
    intro β s kn ke kr r Q a w hA h hs hn he hr
    refine wp_block (ih (Q := Exit.inBlock id Q) hA h hs (fun s' a' w' hs' hk => hn s' a' w' hs' hk) (fun id' k hl s' a' w' hs' hk => ?_) (fun s' a' w' hs' hk => hr s' a' w' hs' hk))
    simp only [lk] at hl
    simp only [Exit.inBlock]
    split at hl
    · rename_i hid
      rw [if_pos hid]
      simp only [Option.some.injEq] at hl
      subst hl
      exact hn s' a' w' hs' hk
    · rename_i hid
      rw [if_neg hid]
      exact he id' k hl s' a' w' hs' hk
  | exit id =>
    intro β s kn ke kr r Q a w hA h hs hn he hr
    simp only [vexec] at h
    split at h
    · rename_i k hk; exact wp_exit (he id k hk s a w hs h)
    · cases h
  | ret => intro β s kn ke kr r Q a w hA h hs hn he hr; exact wp_ret (hr s a w hs h)
  | loop c ih =>
    intro β s kn ke kr r Q a w hA h hs hn he hr
    simp only [vexec] at h
    split at h
    · rename_i d0 hd0
      obtain ⟨n, hn0⟩ := loopW_some (show loopW _ d0 = some r from h)
      obtain ⟨g, I⟩ := hs
      obtain ⟨g', I'⟩ := mtp_inv I hd0
      refine wp_loop_n (fun n a w => ∃ d, SI F w0 { (N.sh (firstId c)).fill s.nt d with fx := s.fx } a w ∧ loopF _ n d = some r) (n := n) ⟨d0, SI_fx ⟨g', I'⟩ I.df.2, hn0⟩ ?_
      rintro n a w ⟨d, hsd, hl⟩
      cases n with
      | zero => simp [loopF] at hl
      | succ m =>
        simp only [loopF] at hl
        split at hl
        · cases hl
        · rename_i d' hst
          refine ih hA hst hsd (fun s' a' w' hs' hk => ?_) (fun id k hl' s' a' w' hs' hk => ?_) (fun s' a' w' hs' hk => ?_)
          · split at hk
            · rename_i hnt
              split at hk
              · rename_i d'' hd''
                simp only [Option.some.injEq, Sum.inl.injEq] at hk
                subst hk
                obtain ⟨g2, I2⟩ := hs'
                obtain ⟨g3, I3⟩ := mtp_inv I2 hd''
                have hfx := I2.df.2
                rw [hnt.1] at I3
                rw [hnt.2] at hfx
                exact ⟨m, by omega, d'', SI_fx ⟨g3, I3⟩ hfx, hl⟩
              · simp [std] at hk
            · cases hk
          · rw [lk_map (fun (k : St → Option β) s' => (std.out (k s') : Option (HL (N.sh (firstId c)).ks ⊕ β)))] at hl'
            simp only [Option.map_eq_some_iff] at hl'
            obtain ⟨k0, _, rfl⟩ := hl'
            simp only [std, Option.map_eq_some_iff] at hk
            obtain ⟨_, _, hk⟩ := hk
            cases hk
          · simp only [std, Option.map_eq_some_iff] at hk
            obtain ⟨_, _, hk⟩ := hk
            cases hk
        · rename_i r' hst
          simp only [Option.some.injEq] at hl
          subst hl
          refine ih hA hst hsd (fun s' a' w' hs' hk => ?_) (fun id k hl' s' a' w' hs' hk => ?_) (fun s' a' w' hs' hk => ?_)
          · split at hk
            · split at hk
              · simp at hk
              · simp [std] at hk
            · cases hk
          · rw [lk_map (fun (k : St → Option β) s' => (std.out (k s') : Option (HL (N.sh (firstId c)).ks ⊕ β)))] at hl'
            simp only [Option.map_eq_some_iff] at hl'
            obtain ⟨k0, hk0, rfl⟩ := hl'
            simp only [std, Option.map_eq_some_iff] at hk
            obtain ⟨r2, hk, he2⟩ := hk
            injection he2 with he2
            subst he2
            exact he id k0 hk0 s' a' w' hs' hk
          · simp only [std, Option.map_eq_some_iff] at hk
            obtain ⟨r2, hk, he2⟩ := hk
            injection he2 with he2
            subst he2
            exact hr s' a' w' hs' hk
    · simp [std] at h
  | _ => intro β s kn ke kr r Q a w hA h hs hn he hr; simp [vexec, std] at h

end
end Go.Vm

/- The value machine, part 34: whole functions. -/
set_option linter.unusedVariables false
set_option linter.unusedSimpArgs false
namespace Go.Vm

def parsNum : List (Nat × TSh) → Nat → Bool
  | [], _ => true
  | (n, t) :: r, i => decide (n = i) && t.nmOk 0 && parsNum r (i + 1)

/-- What is asked of a function's frame. -/
def frameOk (fn : Go.Func) (nt : Nat) (pars : List (Nat × TSh)) (rsh : Sh) : Bool :=
  decide (fn.ntmps = nt) && decide (pars.length ≤ nt) && parsNum pars 0 && decide (rsh.tm.map (·.1) = List.range fn.results.toList.length)

section
variable {P : Program} {T : Nat → K} {E : Nat → Option Ent} {N : An} {w w' : World} {w0 : W0} {F : Nat → Prop} {s : St} {a : Act} {g : G}

theorem load_run {Nn : Nat → Prop} (hT : TOk P T) (I : Inv F w0 Nn s a w g) {p t n : Nat} {path : List Stp} {r : TV} (ht : T t ≠ .un) (hp : lk s.tm p = some (.bp n path)) (h : vload T (lk s.ob) t (.bp n path) = some r) :
    ∃ ad u, a.tmps.getD p undef = .pointer (some ad) ∧ (loadVar t ad).run P w = .ok u w ∧ VT w F g r u ∧ r.nms Nn := by
  have hVT := eval_VT I (x := .tmp p) (v := .bp n path) hp
  simp only [vload] at h
  split at h
  · rename_i c hn
    simp only [Option.bind_eq_some_iff] at h
    obtain ⟨r', hg, h⟩ := h
    split at h
    · rename_i hc
      simp only [Option.some.injEq] at h
      subst h
      obtain ⟨b, h1, h2, h3⟩ := VT_leaf hVT rfl rfl
      obtain ⟨b', Tb, cur, h4, h5, h6, _⟩ := I.ob n _ hn
      rw [h1] at h4
      have hbb : b = b' := by simpa using h4
      subst hbb
      have hr := getP_CT h6 hg h2
      have hl : (sub cur.toList (pOff path) r'.sz).length = (T t).sz := by rw [CT_len hr, hc.1]
      have hcell : ∀ j u, (sub cur.toList (pOff path) r'.sz)[j]? = some u → w.cell? ((⟨b, pOff path, none⟩ : Addr).add j) = some u := by
        have := sub_cells (w := w) (ad := ⟨b, 0, none⟩) (ds := cur.toList) (fun j u hu => by rw [add_plain, cell_of_row w b j cur Tb (0, 0) h5]; simpa using hu) (pOff path) r'.sz
        rwa [add_plain] at this
      have hrun := run_loadVar (hT t ht) _ _ hl hcell
      refine ⟨⟨b, pOff path, none⟩, _, by simpa [Act.eval] using h3, hrun, ?_, getP_nms (I.nmO n _ hn).2 hg⟩
      rw [← hc.2]
      refine VT_of_CT hr fun hf => ?_
      rw [hl]
      rw [hc.2] at hf
      exact leaf_sz (t := t) hf
    · cases h
  · cases h

theorem resV_run {Nn : Nat → Prop} (hT : TOk P T) (I : Inv F w0 Nn s a w g) {f : Go.ResultVar → Sem Value} (hf : ∀ t, f (.tmp t) = pure (a.tmps.getD t undef)) (hg : ∀ p t, f (.cell p t) = (do loadVar t (← asAddr (a.tmps.getD p undef)))) :
    ∀ {rs : List Go.ResultVar} {i : Nat} {l : List (Nat × TV)}, resV T s rs i = some l →
      ∃ vs : List Value, (rs.mapM f).run P w = .ok vs w ∧ vs.length = rs.length ∧ ∀ t v, lk l t = some v → i ≤ t ∧ ∃ u, vs[t - i]? = some u ∧ VT w F g v u ∧ v.nms Nn := by
  intro rs
  induction rs with
  | nil => intro i l h; simp only [resV, Option.some.injEq] at h; subst h; exact ⟨[], by simp, rfl, fun t v h => by simp [lk] at h⟩
  | cons x r ih =>
    have fin : ∀ {i : Nat} {l : List (Nat × TV)} {v0 : TV} {u0 : Value}, (f x).run P w = .ok u0 w → VT w F g v0 u0 → v0.nms Nn → resV T s r (i + 1) = some l →
        ∃ vs : List Value, ((x :: r).mapM f).run P w = .ok vs w ∧ vs.length = (x :: r).length ∧ ∀ t v, lk ((i, v0) :: l) t = some v → i ≤ t ∧ ∃ u, vs[t - i]? = some u ∧ VT w F g v u ∧ v.nms Nn := by
      intro i l v0 u0 hr hV hn hl
      obtain ⟨vs, h1, h2, h3⟩ := ih hl
      refine ⟨u0 :: vs, by simp only [List.mapM_cons, Sem.run_bind, Sem.run_pure, hr, h1, Result.andThen_ok], by simp [h2], fun t v h => ?_⟩
      simp only [lk] at h
      split at h
      · rename_i he
        subst he
        simp only [Option.some.injEq] at h
        subst h
        exact ⟨Nat.le_refl _, u0, by simp, hV, hn⟩
      · obtain ⟨q1, u, q2, q3⟩ := h3 t v h
        refine ⟨by omega, u, ?_, q3⟩
        have : t - i = (t - (i + 1)) + 1 := by omega
        rw [this]
        simpa using q2
    intro i l h
    cases x with
    | tmp t =>
      simp only [resV, Option.bind_eq_some_iff, Option.map_eq_some_iff] at h
      obtain ⟨v, hv, l', hl, rfl⟩ := h
      obtain ⟨u, h1, h2⟩ := I.tm t v hv
      exact fin (u0 := u) (by rw [hf]; simp [h1]) h2 (I.nmT t v hv) hl
    | cell p t =>
      simp only [resV] at h
      split at h
      · cases h
      · rename_i ht
        simp only [Option.bind_eq_some_iff, Option.map_eq_some_iff] at h
        obtain ⟨q, hq, v, hv, l', hl, rfl⟩ := h
        split at hv
        · obtain ⟨ad, u, h1, h2, h3, h4⟩ := load_run hT I ht hq hv
          exact fin (u0 := u) (by rw [hg, h1]; simp [asAddr, Sem.run_bind, h2]) h3 h4 hl
        · cases hv

theorem run_results {Nn : Nat → Prop} (hT : TOk P T) (I : Inv F w0 Nn s a w g) {fn : Go.Func} {l : List (Nat × TV)} (h : resV T s fn.results.toList 0 = some l) :
    ∃ vs : List Value, (results fn a.tmps).run P w = .ok (match vs with | [v] => v | vs => .tuple vs.toArray) w ∧ vs.length = fn.results.toList.length ∧ ∀ t v, lk l t = some v → ∃ u, vs[t]? = some u ∧ VT w F g v u ∧ v.nms Nn := by
  have h2 : fn.results = fn.results.toList.toArray := by simp
  obtain ⟨f, hf, he, hg⟩ : ∃ f : Go.ResultVar → Sem Value, results fn a.tmps = (fn.results.mapM f >>= fun vs => pure (if h : vs.size = 1 then vs[0] else .tuple vs)) ∧ (∀ t, f (.tmp t) = pure (a.tmps.getD t undef)) ∧
      ∀ p t, f (.cell p t) = (do loadVar t (← asAddr (a.tmps.getD p undef))) := by
    refine ⟨_, rfl, ?_, ?_⟩
    · intro t; rfl
    · intro p t; rfl
  obtain ⟨vs, h3, h4, h5⟩ := resV_run hT I he hg h
  refine ⟨vs, ?_, h4, fun t v hl => by simpa using (h5 t v hl).2⟩
  rw [hf, h2, List.mapM_toArray]
  simp only [Sem.run_bind, Sem.run_map, h3, Result.andThen_ok]
  match vs with
  | [] => rfl
  | [v] => rfl
  | v :: u :: r => simp

theorem args_lk : ∀ {l : List (Nat × TSh)} {r : List K} {d : HL (tmks l r)} {vs : List Value} {i : Nat}, parsNum l i = true → ArgsOk w (tmfill l r d).1 vs →
    vs.length = l.length ∧ ∀ t v, lk (tmfill l r d).1 t = some v → ∃ u, i ≤ t ∧ vs[t - i]? = some u ∧ VT w (Fr w) G0 v u ∧ v.nms (fun n => n < 0) := by
  intro l
  induction l with
  | nil =>
    intro r d vs i _ h
    cases vs with
    | nil => exact ⟨rfl, fun t v h => by simp [tmfill, lk] at h⟩
    | cons _ _ => exact h.elim
  | cons p l ih =>
    intro r d vs i hp h
    obtain ⟨n, t⟩ := p
    simp only [parsNum, Bool.and_eq_true, decide_eq_true_eq] at hp
    obtain ⟨⟨rfl, hnm⟩, hp⟩ := hp
    cases vs with
    | nil => exact h.elim
    | cons u vs =>
      obtain ⟨h1, h2⟩ := h
      obtain ⟨q1, q2⟩ := ih hp h2
      refine ⟨by simp [q1], fun t' v' hl => ?_⟩
      simp only [tmfill, lk] at hl
      split at hl
      · rename_i he
        subst he
        simp only [Option.some.injEq] at hl
        subst hl
        exact ⟨u, Nat.le_refl _, by simp, h1, nmOk_fill hnm⟩
      · obtain ⟨u', r1, r2, r3, r4⟩ := q2 t' v' hl
        refine ⟨u', by omega, ?_, r3, r4⟩
        have : t' - n = (t' - (n + 1)) + 1 := by omega
        rw [this]
        simpa using r2

theorem holds_of (hT : TOk P T) (hE : EOk P E) (hm : P.follows .mixedOrders = true) (hD : DrOk P T E) (hJ : JnOk P T E) {fi nt : Nat} {fn : Go.Func} {c : Code} {pars : List (Nat × TSh)} {rs : List Go.ResultVar} {rsh : Sh} {den : HL (tmks pars []) → Option (HL rsh.ks)}
    (hf : P.funcs[fi]? = some fn) (hb : fn.body = some c) (hrs : fn.results.toList = rs) (hok : frameOk fn nt pars rsh = true) (hA : anOk N c = true) (hden : vfun std T E N nt pars rs rsh c = den) : Holds P fi ⟨pars, rsh, den, none⟩ := by
  subst hrs
  simp only [frameOk, Bool.and_eq_true, decide_eq_true_eq] at hok
  obtain ⟨⟨⟨hnt, hlen⟩, hnum⟩, hkeys⟩ := hok
  refine ⟨?_, fun eh he => by cases he⟩
  intro w args x d hx hargs
  obtain ⟨hal, hlk⟩ := args_lk (i := 0) hnum hargs
  refine calls_of_wp hf hb ?_
  have hsz : args.size ≤ nt := by simp at hal; omega
  have hSI : SI (Fr w) ⟨w, fun t => args[t]?⟩ { nt := nt, tm := (tmfill pars [] x).1, ob := [], nx := 0 } { tmps := args ++ Array.replicate (fn.ntmps - args.size) undef, defers := [] } w := by
    refine ⟨G0, fun n o h => by simp [lk] at h, fun n m o p b h => by simp [lk] at h, fun n o b h => by simp [lk] at h, fun b h => h.elim, fun t v h => ?_, fun t v h => ?_, fun n o h => by simp [lk] at h, ?_, ⟨rfl, fun t h => by simp at h⟩, fun b h => h, Kept.refl _ _⟩
    · obtain ⟨u, _, r2, r3, _⟩ := hlk t v h
      refine ⟨u, ?_, r3⟩
      have hlt := (List.getElem?_eq_some_iff.1 r2).1
      simp only [Nat.sub_zero, Array.length_toList] at r2 hlt
      rw [Array.getElem?_append_left hlt]
      simpa using r2
    · obtain ⟨u, _, _, _, r4⟩ := hlk t v h
      exact r4
    · simp [hnt]; omega
  rw [← hden] at hx
  have fin : ∀ s' a' w', SI (Fr w) ⟨w, fun t => args[t]?⟩ s' a' w' → vret std T fn.results.toList rsh s' = some d →
      a'.defers = [] ∧ ∃ v, (results fn a'.tmps).run P w' = .ok v w' ∧ (Kept (Fr w) w w' ∧ ∃ g, RetOk w w' (rsh.fill 0 d) v g) := by
    intro s' a' w' hs' hk
    obtain ⟨g, I⟩ := hs'
    unfold vret at hk
    split at hk
    · rename_i l hl
      obtain ⟨vs, hrun, hvl, hvs⟩ := run_results hT I hl
      have I1 : Inv (Fr w) ⟨w, fun t => args[t]?⟩ (Nm s') { s' with nt := fn.results.toList.length, tm := l, fx := [] } { tmps := vs.toArray, defers := [] } w' g :=
        ⟨I.ob, I.dis, I.inF, I.bxF, fun t v h => by obtain ⟨u, h1, h2, _⟩ := hvs t v h; exact ⟨u, by simpa using h1, h2⟩, fun t v h => by obtain ⟨u, _, _, h3⟩ := hvs t v h; exact h3, I.nmO, by simp [hvl], ⟨rfl, fun t h => by simp at h⟩, I.big, I.kept⟩
      split at hk
      · rename_i d' hd'
        simp only [Option.some.injEq] at hk
        subst hk
        obtain ⟨hnt, g1, I1p⟩ := priTm_inv (l := rsh.tm) (show Inv (Fr w) ⟨w, fun t => args[t]?⟩ (Nm { s' with nt := fn.results.toList.length, tm := l, fx := [] }) _ _ _ _ from I1)
        obtain ⟨g2, I2⟩ := mtp_inv I1p hd'
        rw [hnt] at I2
        refine ⟨I.df.1, _, hrun, I.kept, g2, ⟨fun n o h => ⟨I2.ob n o h, (I2.nmO n o h).1⟩, fun n m o p b h1 h2 => I2.dis n m o p b h1 h2, fun n o b h => I2.inF n o b h, ?_⟩⟩
        have hfst : (rsh.fill 0 d').tm.map (·.1) = List.range fn.results.toList.length := by rw [← hkeys]; exact tmfill_fst
        have hnd : ((rsh.fill 0 d').tm.map (·.1)).Nodup := by rw [hfst]; exact List.nodup_range
        have := res1_VT (w := w') (F := Fr w) (g := g2) vs.toArray (l := (rsh.fill 0 d').tm) (fun q hq => by
          obtain ⟨u, r1, r2⟩ := I2.tm q.1 q.2 (lk_mem hnd q hq)
          simpa [r1] using r2)
        have hmap : ((rsh.fill 0 d').tm.map fun q => vs.toArray.getD q.1 undef) = vs := by
          rw [show ((rsh.fill 0 d').tm.map fun q => vs.toArray.getD q.1 undef) = ((rsh.fill 0 d').tm.map (·.1)).map fun t => vs.toArray.getD t undef by rw [List.map_map]; rfl, hfst]
          apply List.ext_getElem
          · simp [hvl]
          · intro i h1 h2
            simp at h1 h2 ⊢
            simp [h2]
        rw [hmap] at this
        exact this
      · simp [std] at hk
    · simp [std] at hk
  refine vexec_sound hT hE hm hD hJ c (r := d) hA hx hSI (fun s' a' w' hs' hk => fin s' a' w' hs' hk) (fun id k hl => by simp [lk] at hl) (fun s' a' w' hs' hk => fin s' a' w' hs' hk)

end
end Go.Vm

/- The value machine, part 34h: whole functions that are handed things. -/
set_option linter.unusedVariables false
set_option linter.unusedSimpArgs false
namespace Go.Vm

/-- The arguments that are handed back, as they are told at the end. -/
def fxV (lt : Nat → Option TV) (nres : Nat) : List Nat → List (Nat × TV)
  | [] => []
  | t :: r => match lt t with | some v => (nres + t, v) :: fxV lt nres r | none => fxV lt nres r
def vretH (M : Mk) (T : Nat → K) (rs : List Go.ResultVar) (rsh : Sh) (nargs : Nat) (fx : List Nat) (s : St) : Option (HL rsh.ks) :=
  if s.fx = fx then
  match resV T s rs 0 with
  | some l => (match mtp rsh (priTm rsh.tm { s with nt := rs.length + nargs, tm := l ++ fxV (lk s.tm) rs.length fx, fx := [] }) with
    | some d => some d | none => M.err 10 { s with nt := rs.length + nargs, tm := l ++ fxV (lk s.tm) rs.length fx, fx := [] })
  | none => M.err 17 s
  else M.err 19 s

/-- What a function computes that is handed things. -/
def vfunH (M : Mk) (T : Nat → K) (E : Nat → Option Ent) (N : An) (nt : Nat) (psh : Sh) (nargs : Nat) (fx : List Nat) (rs : List Go.ResultVar) (rsh : Sh) (c : Code) (x : HL psh.ks) : Option (HL rsh.ks) :=
  vexec M T E N c { psh.fill nt x with fx := fx } (vretH M T rs rsh nargs fx) [] (vretH M T rs rsh nargs fx)

def frameOkH (fn : Go.Func) (nt : Nat) (nargs nres : Nat) (fx : List Nat) : Bool :=
  decide (fn.ntmps = nt) && decide (nargs ≤ nt) && decide (fn.results.toList.length = nres) && fx.all fun t => decide (t < nargs)

section
variable {P : Program} {T : Nat → K} {E : Nat → Option Ent} {N : An} {w w' : World} {w0 : W0} {F : Nat → Prop} {s : St} {a : Act} {g : G}

theorem lk_fxV {lt : Nat → Option TV} {nres : Nat} : ∀ {fx : List Nat} {t : Nat} {v : TV}, lk (fxV lt nres fx) t = some v → ∃ t', t' ∈ fx ∧ t = nres + t' ∧ lt t' = some v := by
  intro fx
  induction fx with
  | nil => intro t v h; simp [fxV, lk] at h
  | cons x r ih =>
    intro t v h
    simp only [fxV] at h
    split at h
    · rename_i u hu
      simp only [lk] at h
      split at h
      · rename_i he; simp only [Option.some.injEq] at h; subst h; exact ⟨x, List.mem_cons_self, he, hu⟩
      · obtain ⟨t', h1, h2⟩ := ih h; exact ⟨t', List.mem_cons_of_mem _ h1, h2⟩
    · obtain ⟨t', h1, h2⟩ := ih h; exact ⟨t', List.mem_cons_of_mem _ h1, h2⟩

theorem holdsH_of (hT : TOk P T) (hE : EOk P E) (hm : P.follows .mixedOrders = true) (hD : DrOk P T E) (hJ : JnOk P T E) {fi nt nargs nres : Nat} {fx : List Nat} {fn : Go.Func} {c : Code} {psh rsh : Sh} {rs : List Go.ResultVar} {den : HL psh.ks → Option (HL rsh.ks)}
    (hf : P.funcs[fi]? = some fn) (hb : fn.body = some c) (hrs : fn.results.toList = rs) (hok : frameOkH fn nt nargs nres fx = true) (hA : anOk N c = true) (hden : vfunH std T E N nt psh nargs fx rs rsh c = den) : HoldsH P fi ⟨psh, nargs, rsh, nres, den⟩ := by
  subst hrs
  simp only [frameOkH, Bool.and_eq_true, decide_eq_true_eq, List.all_eq_true] at hok
  obtain ⟨⟨⟨hnt, hlen⟩, hnr⟩, hfx⟩ := hok
  intro F w args x d hx hsz hargs
  dsimp only at hsz hargs hx ⊢
  obtain ⟨g, I⟩ := hargs
  refine calls_of_wp hf hb ?_
  have hSI : SI F ⟨w, fun t => args[t]?⟩ { psh.fill nt x with fx := fx } { tmps := args ++ Array.replicate (fn.ntmps - args.size) undef, defers := [] } w := by
    refine ⟨g, I.ob, I.dis, I.inF, I.bxF, fun t v h => ?_, I.nmT, I.nmO, ?_, ⟨rfl, fun t ht => ?_⟩, I.big, I.kept⟩
    · obtain ⟨u, h1, h2⟩ := I.tm t v h
      refine ⟨u, ?_, h2⟩
      rw [Array.getElem?_append_left (Array.getElem?_eq_some_iff.1 h1).1]
      exact h1
    · simp [Sh.fill, hnt]; omega
    · have := hfx t (by simpa using ht)
      rw [Array.getElem?_append_left (by omega)]
  rw [← hden] at hx
  have fin : ∀ s' a' w', SI F ⟨w, fun t => args[t]?⟩ s' a' w' → vretH std T fn.results.toList rsh nargs fx s' = some d →
      a'.defers = [] ∧ ∃ v, (results fn a'.tmps).run P w' = .ok v w' ∧ ∃ vs : List Value, vs.length = nres ∧ v = resVal vs ∧ ∃ g, Inv F ⟨w, fun t => args[t]?⟩ (Nm (rsh.fill (nres + args.size) d)) (rsh.fill (nres + args.size) d) ⟨vs.toArray ++ args, []⟩ w' g := by
    intro s' a' w' hs' hk
    obtain ⟨g, I⟩ := hs'
    unfold vretH at hk
    split at hk
    rotate_left
    · simp [std] at hk
    rename_i hfe
    have hfa : ∀ t ∈ fx, a'.tmps[t]? = args[t]? := fun t ht => I.df.2 t (by rw [hfe]; simpa using ht)
    split at hk
    · rename_i l hl
      obtain ⟨vs, hrun, hvl, hvs⟩ := run_results hT I hl
      have I1 : Inv F ⟨w, fun t => args[t]?⟩ (Nm { s' with nt := fn.results.toList.length + nargs, tm := l ++ fxV (lk s'.tm) fn.results.toList.length fx, fx := [] }) { s' with nt := fn.results.toList.length + nargs, tm := l ++ fxV (lk s'.tm) fn.results.toList.length fx, fx := [] } { tmps := vs.toArray ++ args, defers := [] } w' g := by
        have key : ∀ t v, lk (l ++ fxV (lk s'.tm) fn.results.toList.length fx) t = some v → ∃ u, (vs.toArray ++ args)[t]? = some u ∧ VT w' F g v u ∧ v.nms (Nm s') := by
          intro t v h
          rw [lk_append] at h
          split at h
          · rename_i v' hv'
            simp only [Option.some.injEq] at h
            subst h
            obtain ⟨u, h1, h2, h3⟩ := hvs t _ hv'
            refine ⟨u, ?_, h2, h3⟩
            rw [Array.getElem?_append_left (by simpa using (List.getElem?_eq_some_iff.1 h1).1)]
            simpa using h1
          · obtain ⟨t', ht', rfl, hv⟩ := lk_fxV h
            obtain ⟨u, h1, h2⟩ := I.tm t' v hv
            refine ⟨u, ?_, h2, I.nmT t' v hv⟩
            rw [Array.getElem?_append_right (by simp [hvl])]
            rw [hfa t' ht'] at h1
            simpa [hvl] using h1
        exact ⟨I.ob, I.dis, I.inF, I.bxF, fun t v h => by obtain ⟨u, h1, h2, _⟩ := key t v h; exact ⟨u, h1, h2⟩, fun t v h => by obtain ⟨u, _, _, h3⟩ := key t v h; exact h3, I.nmO, by simp [hvl, hsz], ⟨rfl, fun t h => by simp at h⟩, I.big, I.kept⟩
      split at hk
      · rename_i d' hd'
        simp only [Option.some.injEq] at hk
        subst hk
        obtain ⟨hnt', g1, I1p⟩ := priTm_inv (l := rsh.tm) I1
        obtain ⟨g2, I2⟩ := mtp_inv I1p hd'
        rw [hnt'] at I2
        refine ⟨I.df.1, _, hrun, vs, by rw [hvl, hnr], ?_, g2, ?_⟩
        · cases vs with
          | nil => rfl
          | cons v r => cases r <;> rfl
        · have he : nres + args.size = fn.results.toList.length + nargs := by rw [hnr, hsz]
          rw [he]
          exact I2
      · simp [std] at hk
    · simp [std] at hk
  refine vexec_sound hT hE hm hD hJ c (r := d) hA hx hSI (fun s' a' w' hs' hk => fin s' a' w' hs' hk) (fun id k hl => by simp [lk] at hl) (fun s' a' w' hs' hk => fin s' a' w' hs' hk)

end
end Go.Vm

/- The value machine, part 35: a table of kinds that fits a program's types; tables of contracts. -/
set_option linter.unusedVariables false
set_option linter.unusedSimpArgs false
namespace Go.Vm

def fieldsB (T : Nat → K) : K → List Field → Nat → Bool
  | .pr a b, f :: r, o => decide (f.offset = o) && decide (T f.type = a) && decide (0 < a.sz) && fieldsB T b r (o + a.sz)
  | .un, [], _ => true
  | _, _, _ => false
def shB (T : Nat → K) : K → TypeDesc → Bool
  | .int k, .int k' => decide (k' = k)
  | .bool, .bool => true
  | .str, .string => true
  | .sl e k, .slice e' => decide (e' = e) && decide (T e = k) && decide (k ≠ .un)
  | .arr n k, .array n' e => decide (n' = n) && decide (T e = k) && decide (k ≠ .un)
  | .pr a b, .struct fs => fieldsB T (.pr a b) fs.toList 0
  | _, _ => false

/-- A table of kinds. -/
def tab (l : List (Nat × K)) (t : Nat) : K := (lk l t).getD .un

def tabInfo (P : Program) (l : List (Nat × K)) : List (Option (Nat × Option Value × Bool)) := l.map fun q => (P.info? q.1).map fun i => (i.size, i.zero, decide (0 < i.bytes) && decide (i.bytes ≤ 131072))
def tabWant (l : List (Nat × K)) : List (Option (Nat × Option Value × Bool)) := l.map fun q => some (q.2.sz, some (zV q.2), true)
def tabShape (P : Program) (l : List (Nat × K)) : Bool := l.all fun q => match P.underlying q.1 with | some d => shB (tab l) q.2 d | none => false
def tabEq (P : Program) (l : List (Nat × K)) : Bool := l.all fun q => !(q.2.agg && q.2.eqb) || (!P.stoodInHeld q.1 && !P.eqGuardType P.depth q.1 && (P.fieldsOf q.1).toList.all fun f => decide (f.name ≠ "_"))

theorem fieldsB_ok {T : Nat → K} : ∀ {k : K} {fs : List Field} {o : Nat}, fieldsB T k fs o = true → fieldsOk T k fs o := by
  intro k
  induction k with
  | pr a b iha ihb =>
    intro fs o h
    cases fs with
    | nil => simp [fieldsB] at h
    | cons f r =>
      simp only [fieldsB, Bool.and_eq_true, decide_eq_true_eq] at h
      exact ⟨h.1.1.1, h.1.1.2, h.1.2, ihb h.2⟩
  | un => intro fs o h; cases fs <;> simp_all [fieldsB, fieldsOk]
  | _ => intro fs o h; cases fs <;> simp [fieldsB] at h

theorem shB_ok {T : Nat → K} {k : K} {d : TypeDesc} (h : shB T k d = true) : shapeOk T k d := by
  cases k with
  | int ik => cases d <;> simp_all [shB, shapeOk]
  | bool => cases d <;> simp_all [shB, shapeOk]
  | str => cases d <;> simp_all [shB, shapeOk]
  | sl e k => cases d <;> simp_all [shB, shapeOk]
  | arr n k => cases d <;> simp_all [shB, shapeOk]
  | pr a b =>
    cases d with
    | struct fs => exact ⟨fs, rfl, fieldsB_ok (by simpa [shB] using h)⟩
    | _ => simp [shB] at h
  | un => cases d <;> simp [shB] at h

theorem lk_in {α : Type} : ∀ {l : List (Nat × α)} {n : Nat} {x : α}, lk l n = some x → (n, x) ∈ l := by
  intro l
  induction l with
  | nil => intro n x h; simp [lk] at h
  | cons p r ih =>
    intro n x h
    obtain ⟨m, y⟩ := p
    simp only [lk] at h
    split at h
    · rename_i he; subst he; simp only [Option.some.injEq] at h; subst h; exact List.mem_cons_self
    · exact List.mem_cons_of_mem _ (ih h)

theorem map_eq_at {α γ : Type} {f g : α → γ} : ∀ {l : List α}, l.map f = l.map g → ∀ x ∈ l, f x = g x := by
  intro l
  induction l with
  | nil => intro _ x hx; cases hx
  | cons y r ih =>
    intro h x hx
    simp only [List.map_cons, List.cons.injEq] at h
    rcases List.mem_cons.1 hx with rfl | hx
    · exact h.1
    · exact ih h.2 x hx

theorem tab_ok {P : Program} {l : List (Nat × K)} (h1 : tabInfo P l = tabWant l) (h2 : tabShape P l = true) (h3 : tabEq P l = true) : TOk P (tab l) := by
  intro t ht
  have hl : lk l t = some (tab l t) := by
    simp only [tab] at ht ⊢
    cases h : lk l t with
    | none => rw [h] at ht; exact absurd rfl ht
    | some k => rfl
  have hm := lk_in hl
  refine ⟨?_, ?_, ?_⟩
  · have := map_eq_at h1 _ hm
    dsimp only at this
    cases hi : P.info? t with
    | none => rw [hi] at this; cases this
    | some i =>
      rw [hi] at this
      simp only [Option.map_some, Option.some.injEq, Prod.mk.injEq, Bool.and_eq_true, decide_eq_true_eq] at this
      exact ⟨i, rfl, this.1, this.2.1, this.2.2.1, this.2.2.2⟩
  · simp only [tabShape, List.all_eq_true] at h2
    have := h2 _ hm
    dsimp only at this
    split at this
    · rename_i d hd
      exact ⟨d, hd, shB_ok this⟩
    · cases this
  · intro he
    simp only [tabEq, List.all_eq_true] at h3
    have := h3 _ hm
    dsimp only at this
    rw [he] at this
    simp only [Bool.not_true, Bool.false_or, Bool.and_eq_true, Bool.not_eq_true', List.all_eq_true, decide_eq_true_eq] at this
    exact ⟨this.1.1, this.1.2, this.2⟩

/-! #### Tables of contracts -/
theorem EOk_nil {P : Program} : EOk P (lk []) := fun f e h => by simp [lk] at h
theorem EOk_cons {P : Program} {l : List (Nat × Ent)} {f : Nat} {e : Ent} (h : Holds P f e) (hc : Callable P f) (hl : EOk P (lk l)) : EOk P (lk ((f, e) :: l)) := by
  intro f' e' h'
  simp only [lk] at h'
  split at h'
  · rename_i he; subst he; simp only [Option.some.injEq] at h'; subst h'; exact ⟨h, hc⟩
  · exact hl f' e' h'

end Go.Vm

/- The value machine, part 36: regions of open order: what an operation has made, told of a smaller state; the masks. -/
set_option linter.unusedVariables false
set_option linter.unusedSimpArgs false
namespace Go.Vm

section
variable {P : Program} {T : Nat → K} {E : Nat → Option Ent} {w w' : World} {w0 : W0} {F N : Nat → Prop} {g g' : G} {s : St} {a : Act} {base : Nat} {β : Type}

theorem inv_sub {s' : St} (I : Inv F w0 N s a w g) (ht : ∀ t v, lk s'.tm t = some v → lk s.tm t = some v) (ho : ∀ n o, lk s'.ob n = some o → lk s.ob n = some o) (hn : s'.nf = s.nf) : Inv F w0 N s' a w g :=
  ⟨fun n o h => I.ob n o (ho n o h), fun n m o p b h1 h2 => I.dis n m o p b (ho _ _ h1) (ho _ _ h2), fun n o b h => I.inF n o b (ho _ _ h), I.bxF, fun t v h => I.tm t v (ht t v h), fun t v h => I.nmT t v (ht t v h), fun n o h => I.nmO n o (ho n o h), (congrArg Prod.fst hn).trans I.nt, ⟨I.df.1, fun t h => I.df.2 t (by rw [← show s'.fx = s.fx from congrArg Prod.snd hn]; exact h)⟩, I.big, I.kept⟩

theorem inv_nms {N' : Nat → Prop} (I : Inv F w0 N s a w g) (h : ∀ n, N n → N' n) : Inv F w0 N' s a w g :=
  ⟨I.ob, I.dis, I.inF, I.bxF, I.tm, fun t v hv => TV.nms_mono h (I.nmT t v hv), fun n o ho => ⟨h n (I.nmO n o ho).1, Obj.nms_mono h (I.nmO n o ho).2⟩, I.nt, I.df, I.big, I.kept⟩

/-- What an operation or a call has made, with the names that it may use. -/
structure MadeL (F N : Nat → Prop) (g g' : G) (w w' : World) (lo hi : Nat) (obs : List (Nat × Obj)) : Prop where
  turn : Turn (fun _ => False) (fun _ => False) True N F g g' w w'
  fp : ∀ n, N n → g'.fp n = g.fp n
  kept : Kept (fun _ => False) w w'
  bxF : ∀ b, g'.Bx b → b < w'.heap.size
  new : ∀ n o, lk obs n = some o → lo ≤ n ∧ n < hi ∧ OR w' F g' n o ∧ (∀ b, g'.fp n b → w.heap.size ≤ b ∧ F b) ∧ o.nms (fun m => N m ∨ (lo ≤ m ∧ m < hi))
  dis : ∀ n m o p b, lk obs n = some o → lk obs m = some p → n ≠ m → g'.fp n b → g'.fp m b → False

theorem madeL_of_made {nw : Option Obj} (m : Made F N g g' w w' base nw) : MadeL F N g g' w w' base (base + 1) ((nw.map fun o => (base, o)).toList) := by
  cases nw with
  | none => exact ⟨m.turn, m.fp, m.kept, m.bxF, fun n o h => by simp [lk] at h, fun n m o p b h => by simp [lk] at h⟩
  | some o0 =>
    have hl : ∀ n o, lk ((some o0).map fun o => (base, o)).toList n = some o → n = base ∧ o = o0 := by
      intro n o h
      simp only [Option.map_some, Option.toList, lk] at h
      split at h
      · rename_i he; simp only [Option.some.injEq] at h; exact ⟨he, h.symm⟩
      · cases h
    refine ⟨m.turn, m.fp, m.kept, m.bxF, fun n o h => ?_, fun n q o p b h1 h2 hne _ _ => hne ((hl n o h1).1.trans (hl q p h2).1.symm)⟩
    obtain ⟨rfl, rfl⟩ := hl n o h
    obtain ⟨n1, n2, n3⟩ := m.new _ rfl
    exact ⟨Nat.le_refl _, by omega, n1, n2, Obj.nms_mono (fun q hq => hq.imp id fun e => by omega) n3⟩

theorem inv_oldlt (I : Inv F w0 N s a w g) {n b : Nat} {o : Obj} (h : lk s.ob n = some o) (hb : g.fp n b) : b < w.heap.size := by
  have := I.ob n o h
  cases o with
  | bx v => obtain ⟨a', T', cur, _, h2, _, h4, _⟩ := this; rw [(h4 b).1 hb]; exact (Array.getElem?_eq_some_iff.1 h2).1
  | ls e k deep xs =>
    obtain ⟨bt, hbt⟩ := OL_bt (fun x _ cs f hR b hb => by
      cases deep with
      | true => exact O_bt (by simpa [LR] using hR) b hb
      | false => simp only [LR, Bool.false_eq_true, if_false] at hR; exact (hR.2 b hb).elim) this.1 b hb
    exact hbt.lt

theorem inv_madeL {lo hi : Nat} {obs : List (Nat × Obj)} (I : Inv F w0 N s a w g) (hd : ∀ n, lo ≤ n → n < hi → ¬ N n) (m : MadeL F N g g' w w' lo hi obs) :
    Inv F w0 (fun n => N n ∨ (lo ≤ n ∧ n < hi)) { s with ob := obs ++ s.ob } a w' g' := by
  have old : ∀ n o, lk s.ob n = some o → OR w' F g' n o := fun n o h =>
    OR_turn m.turn (I.nmO n o h).1 (I.nmO n o h).2 o.safe_none (fun b _ hx => hx) (fun b => by rw [m.fp n (I.nmO n o h).1]) (I.ob n o h)
  have kept : Kept F w0.w w' := I.kept.trans ⟨m.kept.os, m.kept.tape, m.kept.output, m.kept.size, fun b hb _ => m.kept.block b hb (fun h => h)⟩
  have hob : ∀ n o, lk (obs ++ s.ob) n = some o → lk obs n = some o ∨ lk s.ob n = some o := by
    intro n o h
    rw [lk_append] at h
    split at h
    · rename_i x hx; simp only [Option.some.injEq] at h; subst h; exact .inl hx
    · exact .inr h
  refine ⟨fun n o h => ?_, fun n q o p b h1 h2 hne hb1 hb2 => ?_, fun n o b h hb => ?_, m.bxF, fun t v h => ?_, fun t v h => TV.nms_mono (fun _ h => .inl h) (I.nmT t v h), fun n o h => ?_, I.nt, I.df, I.big, kept⟩
  · rcases hob n o h with h | h
    · exact (m.new n o h).2.2.1
    · exact old n o h
  · rcases hob n o h1 with h1 | h1
    · rcases hob q p h2 with h2 | h2
      · exact m.dis n q o p b h1 h2 hne hb1 hb2
      · rw [m.fp q (I.nmO q p h2).1] at hb2
        have := ((m.new n o h1).2.2.2.1 b hb1).1
        have := inv_oldlt I h2 hb2
        omega
    · rcases hob q p h2 with h2 | h2
      · rw [m.fp n (I.nmO n o h1).1] at hb1
        have := ((m.new q p h2).2.2.2.1 b hb2).1
        have := inv_oldlt I h1 hb1
        omega
      · rw [m.fp n (I.nmO n o h1).1] at hb1
        rw [m.fp q (I.nmO q p h2).1] at hb2
        exact I.dis n q o p b h1 h2 hne hb1 hb2
  · rcases hob n o h with h | h
    · exact ((m.new n o h).2.2.2.1 b hb).2
    · rw [m.fp n (I.nmO n o h).1] at hb
      exact I.inF n o b h hb
  · obtain ⟨u, h1, h2⟩ := I.tm t v h
    exact ⟨u, h1, VT_turn m.turn (I.nmT t v h) v.safe_none h2⟩
  · rcases hob n o h with h | h
    · obtain ⟨p1, p2, _, _, p5⟩ := m.new n o h
      exact ⟨.inr ⟨p1, p2⟩, p5⟩
    · exact ⟨.inl (I.nmO n o h).1, Obj.nms_mono (fun _ h => .inl h) (I.nmO n o h).2⟩

/-! #### A call -/
theorem shift_nms {b nx : Nat} : ∀ {t : TSh} {r : List K} {d : HL (t.ks r)}, t.ret = true → (t.fill r d).1.nms (fun c => c < nx) → ((t.fill r d).1.shift b).nms (fun n => b ≤ n ∧ n < b + nx) := by
  intro t
  induction t with
  | sc ext k => intro r d _ _; trivial
  | al c => intro r d _ h; simp only [TSh.fill, TV.shift, TV.nms] at h ⊢; omega
  | pr x y ihx ihy =>
    intro r d hr h
    simp only [TSh.ret, Bool.and_eq_true] at hr
    exact ⟨ihx hr.1 h.1, ihy hr.2 h.2⟩
  | un => intro r d _ _; trivial
  | dead m => intro r d _ _; trivial
  | _ => intro r d hr; simp [TSh.ret] at hr

theorem resT_snms {b nx : Nat} : ∀ {l : List (Nat × TSh)} {r : List K} {d : HL (tmks l r)}, (l.all fun q => q.2.ret) = true → (∀ q ∈ (tmfill l r d).1, q.2.nms (fun c => c < nx)) →
    ((resT (tmfill l r d).1).shift b).nms (fun n => b ≤ n ∧ n < b + nx) := by
  intro l
  induction l with
  | nil => intro r d _ _; trivial
  | cons p l ih =>
    intro r d hr hn
    obtain ⟨n, t⟩ := p
    simp only [List.all_cons, Bool.and_eq_true] at hr
    simp only [tmfill, resT, TV.shift]
    exact ⟨shift_nms hr.1 (hn (n, (t.fill (tmks l r) d).1) (by simp [tmfill])), ih hr.2 fun q hq => hn q (by simp [tmfill, hq])⟩

theorem res1_snms {b nx : Nat} {l : List (Nat × TSh)} {r : List K} {d : HL (tmks l r)} (hr : (l.all fun q => q.2.ret) = true) (hn : ∀ q ∈ (tmfill l r d).1, q.2.nms (fun c => c < nx)) :
    ((res1 (tmfill l r d).1).shift b).nms (fun n => b ≤ n ∧ n < b + nx) := by
  cases l with
  | nil => exact resT_snms hr hn
  | cons p l =>
    obtain ⟨n, t⟩ := p
    cases l with
    | nil =>
      simp only [List.all_cons, Bool.and_eq_true] at hr
      exact shift_nms hr.1 (hn (n, (t.fill r d).1) (by simp [tmfill]))
    | cons q l =>
      obtain ⟨m, t'⟩ := q
      exact resT_snms hr hn

theorem call_madeL (I : Inv F w0 N s a w g) {e : Ent} (hd : ∀ n, s.nx ≤ n → n < s.nx + e.rsh.nx → ¬ N n) (hret : e.rsh.retOk = true) {d : HL e.rsh.ks} {v : Value} {g' : G} (hk : Kept (Fr w) w w') (hR : RetOk w w' (e.rsh.fill 0 d) v g') :
    ∃ g2, MadeL F N g g2 w w' s.nx (s.nx + e.rsh.nx) (shiftOb s.nx (e.rsh.fill 0 d).ob) ∧ VT w' F g2 (aft e s d).2 v ∧ (aft e s d).2.nms (fun n => N n ∨ (s.nx ≤ n ∧ n < s.nx + e.rsh.nx)) := by
  simp only [Sh.retOk, Sh.ret, Bool.and_eq_true] at hret
  obtain ⟨⟨hrt, hro⟩, hrn⟩ := hret
  have hnew : ∀ b, Fr w b → F b := fun b hb => I.big b (Nat.le_trans I.kept.size hb)
  let g2 : G := { hd := fun n => if s.nx ≤ n ∧ n < s.nx + e.rsh.nx then g'.hd (n - s.nx) else g.hd n, fp := fun n => if s.nx ≤ n ∧ n < s.nx + e.rsh.nx then g'.fp (n - s.nx) else g.fp n, Bx := g.Bx }
  have hno : ∀ n, N n → ¬ (s.nx ≤ n ∧ n < s.nx + e.rsh.nx) := fun n hn h => hd n h.1 h.2 hn
  have turn : Turn (fun _ => False) (fun _ => False) True N F g g2 w w' :=
    ⟨fun b hb _ => hk.block b hb (fun h => by simp only [Fr] at h; omega), fun _ h => h.elim, fun _ _ h => h.elim, fun _ _ h => h.elim, fun _ _ => Iff.rfl, fun n hn => by simp only [g2]; rw [if_neg (hno n hn)]⟩
  have hhd : ∀ c, c < e.rsh.nx → g2.hd (s.nx + c) = g'.hd c := fun c hc => by simp only [g2]; rw [if_pos (by omega)]; congr 1; omega
  have hfp : ∀ c, c < e.rsh.nx → g2.fp (s.nx + c) = g'.fp c := fun c hc => by simp only [g2]; rw [if_pos (by omega)]; congr 1; omega
  have hnewob : ∀ c o, lk (e.rsh.fill 0 d).ob c = some o → c < e.rsh.nx ∧ ∃ e' k xs, o = .ls e' k true xs := fun c o h => obfill_ret (l := e.rsh.ob) hro h
  have hnm : ∀ q ∈ (tmfill e.rsh.tm (obks e.rsh.ob []) d).1, q.2.nms (fun c => c < e.rsh.nx) := tmfill_mem (P := fun v => v.nms (fun c => c < e.rsh.nx)) (fun n t r' d' hm => nmOk_fill (by simp only [List.all_eq_true] at hrn; exact hrn _ hm))
  refine ⟨g2, ⟨turn, fun n hn => by simp only [g2]; rw [if_neg (hno n hn)], ⟨hk.os, hk.tape, hk.output, hk.size, fun b hb _ => hk.block b hb (fun h => by simp only [Fr] at h; omega)⟩, fun b hb => ?_, fun n o h => ?_, fun n m o p b h1 h2 hne hb1 hb2 => ?_⟩, (res1_shift (g := g2) (F := F) hhd hrt hnm hR.res).1, TV.nms_mono (fun n h => .inr h) (res1_snms hrt hnm)⟩
  · have := I.bxF b hb
    have := hk.size
    omega
  · obtain ⟨c, rfl, hc⟩ := lk_shiftOb _ _ _ _ h
    obtain ⟨q1, e', k, xs, rfl⟩ := hnewob c o hc
    obtain ⟨⟨r1, r2⟩, _⟩ := hR.ob c _ hc
    refine ⟨by omega, by omega, ⟨?_, fun b hb hx => ?_⟩, fun b hb => ?_, trivial⟩
    · rw [hhd c q1, hfp c q1]
      refine OL_imp (fun _ _ => rfl) (fun x _ cs f _ hr => ?_) r1
      simpa [LR] using hr
    · rw [hfp c q1] at hb
      have h1 := hR.inF c _ b hc hb
      have h2 := I.bxF b hx
      simp only [Fr] at h1
      omega
    · rw [hfp c q1] at hb
      have h1 := hR.inF c _ b hc hb
      exact ⟨h1, hnew b h1⟩
  · obtain ⟨c, rfl, hc1⟩ := lk_shiftOb _ _ _ _ h1
    obtain ⟨c', rfl, hc2⟩ := lk_shiftOb _ _ _ _ h2
    rw [hfp c (hnewob c o hc1).1] at hb1
    rw [hfp c' (hnewob c' p hc2).1] at hb2
    exact hR.dis c c' o p b hc1 hc2 (fun h => hne (by rw [h])) hb1 hb2

/-! #### The masks -/
theorem fold_bits {ε : Type} (c : ε → Bool) (on : ε → Nat) (M : Nat → Nat) : ∀ (l : List ε) (m0 k : Nat), (l.foldl (fun m e => if c e = true then m ||| 2 ^ on e ||| M (on e) else m) m0).testBit k = true ↔
    m0.testBit k = true ∨ ∃ e ∈ l, c e = true ∧ (k = on e ∨ (M (on e)).testBit k = true) := by
  intro l
  induction l with
  | nil => intro m0 k; simp
  | cons x r ih =>
    intro m0 k
    rw [List.foldl_cons, ih]
    by_cases hc : c x = true
    · rw [if_pos hc, Nat.testBit_or, Nat.testBit_or, Nat.testBit_two_pow]
      simp only [Bool.or_eq_true, decide_eq_true_eq, List.mem_cons, exists_eq_or_imp, hc, true_and]
      constructor
      · rintro ((((h | h)) | h) | h)
        · exact .inl h
        · exact .inr (.inl (.inl h.symm))
        · exact .inr (.inl (.inr h))
        · exact .inr (.inr h)
      · rintro (h | (h | h) | h)
        · exact .inl (.inl (.inl h))
        · exact .inl (.inl (.inr h.symm))
        · exact .inl (.inr h)
        · exact .inr h
    · rw [if_neg hc]
      simp only [List.mem_cons, exists_eq_or_imp, hc, Bool.false_eq_true, false_and, false_or]

structure MsOk (ops : Array Oper) (ms : List Nat) : Prop where
  back : ∀ (i : Nat) (o : Oper), ops[i]? = some o → ∀ e ∈ o.after, Region.binds .any e = true → e.on < i
  bits : ∀ (i : Nat) (o : Oper), ops[i]? = some o → ∀ k, (ms.getD i 0).testBit k = true ↔ ∃ e ∈ o.after, Region.binds .any e = true ∧ (k = e.on ∨ (ms.getD e.on 0).testBit k = true)

theorem okMs_ok {ops : Array Oper} {ms : List Nat} (h : okMs ops ms = true) : MsOk ops ms := by
  simp only [okMs, List.all_eq_true, List.mem_range] at h
  have key : ∀ (i : Nat) (o : Oper), ops[i]? = some o → (∀ e ∈ o.after, Region.binds .any e = true → e.on < i) ∧ ∀ k, (ms.getD i 0).testBit k = true ↔ ∃ e ∈ o.after, Region.binds .any e = true ∧ (k = e.on ∨ (ms.getD e.on 0).testBit k = true) := by
    intro i o ho
    have hi := h i (Array.getElem?_eq_some_iff.1 ho).1
    rw [ho] at hi
    simp only [Bool.and_eq_true, decide_eq_true_eq, List.all_eq_true, Bool.or_eq_true, Bool.not_eq_true'] at hi
    obtain ⟨h1, h2⟩ := hi
    have hb : ∀ e ∈ o.after, Region.binds .any e = true → e.on < i := fun e he hb => by
      rcases h1 e (Array.mem_toList_iff.2 he) with h | h
      · rw [hb] at h; cases h
      · exact h
    refine ⟨hb, fun k => ?_⟩
    rw [h2]
    have := fold_bits (fun e : Edge => Region.binds .any e && decide (e.on < i)) (fun e => e.on) (fun j => ms.getD j 0) o.after.toList 0 k
    simp only [Bool.and_eq_true, decide_eq_true_eq] at this
    rw [this]
    simp only [Nat.zero_testBit, Bool.false_eq_true, false_or]
    constructor
    · rintro ⟨e, he, ⟨hb1, _⟩, hk⟩; exact ⟨e, Array.mem_toList_iff.1 he, hb1, hk⟩
    · rintro ⟨e, he, hb1, hk⟩; exact ⟨e, Array.mem_toList_iff.2 he, ⟨hb1, hb e he hb1⟩, hk⟩
  exact ⟨fun i o ho => (key i o ho).1, fun i o ho => (key i o ho).2⟩

theorem MsOk.lt {ops : Array Oper} {ms : List Nat} (h : MsOk ops ms) : ∀ (i k : Nat), i < ops.size → (ms.getD i 0).testBit k = true → k < i := by
  intro i
  induction i using Nat.strongRecOn with
  | _ i ih =>
    intro k hi hk
    obtain ⟨o, ho⟩ : ∃ o, ops[i]? = some o := ⟨_, Array.getElem?_eq_getElem hi⟩
    obtain ⟨e, he, hb, hk⟩ := (h.bits i o ho k).1 hk
    have hlt := h.back i o ho e he hb
    rcases hk with rfl | hk
    · exact hlt
    · exact Nat.lt_trans (ih e.on hlt k (by omega) hk) hlt

theorem dsts_inj {ops : Array Oper} (h : dstsOk ops = true) {i j : Nat} {oi oj : Oper} {t : Nat} (hi : ops[i]? = some oi) (hj : ops[j]? = some oj) (h1 : oi.dst = some t) (h2 : oj.dst = some t) : i = j := by
  simp only [dstsOk, decide_eq_true_eq] at h
  have gen : ∀ (l : List Oper) (i j : Nat), (l.filterMap (·.dst)).Nodup → l[i]? = some oi → l[j]? = some oj → i = j := by
    intro l
    induction l with
    | nil => intro i j _ h; simp at h
    | cons x r ih =>
      intro i j hn hi hj
      have hr : (r.filterMap (·.dst)).Nodup := by
        cases hx : x.dst with
        | none => simpa [List.filterMap_cons, hx] using hn
        | some d => rw [List.filterMap_cons, hx] at hn; exact (List.nodup_cons.1 hn).2
      have no : ∀ {o : Oper} {k : Nat}, o.dst = some t → x.dst = some t → r[k]? = some o → False := by
        intro o k ho hx hk
        rw [List.filterMap_cons, hx] at hn
        exact (List.nodup_cons.1 hn).1 (List.mem_filterMap.2 ⟨o, List.mem_of_getElem? hk, ho⟩)
      cases i with
      | zero =>
        simp only [List.getElem?_cons_zero, Option.some.injEq] at hi
        subst hi
        cases j with
        | zero => rfl
        | succ j => simp only [List.getElem?_cons_succ] at hj; exact (no h2 h1 hj).elim
      | succ i =>
        simp only [List.getElem?_cons_succ] at hi
        cases j with
        | zero =>
          simp only [List.getElem?_cons_zero, Option.some.injEq] at hj
          subst hj
          exact (no h1 h2 hi).elim
        | succ j => simp only [List.getElem?_cons_succ] at hj; rw [ih i j hr hi hj]
  exact gen ops.toList i j h (by simpa using hi) (by simpa using hj)

end
end Go.Vm

/- The value machine, part 37: regions of open order do what is computed. -/
set_option linter.unusedVariables false
set_option linter.unusedSimpArgs false
namespace Go.Vm

section
variable {P : Program} {T : Nat → K} {E : Nat → Option Ent} {w w' : World} {w0 : W0} {F N : Nat → Prop} {g g' : G} {s : St} {a : Act} {base : Nat} {β : Type}

/-! #### Items and their lookups -/
theorem lk_tmI_some {m : Nat → Bool} {t : Nat} {v : TV} : ∀ {A : List Item}, lk (tmI m A) t = some v → ∃ it ∈ A, m it.i = true ∧ it.dst = some t ∧ it.v = v := by
  intro A
  induction A with
  | nil => intro h; simp [tmI, lk] at h
  | cons x r ih =>
    intro h
    simp only [tmI] at h
    split at h
    · rename_i hm
      split at h
      · rename_i d hd
        simp only [lk] at h
        split at h
        · rename_i he
          subst he
          simp only [Option.some.injEq] at h
          exact ⟨x, List.mem_cons_self, hm, hd, h⟩
        · obtain ⟨it, h1, h2⟩ := ih h; exact ⟨it, List.mem_cons_of_mem _ h1, h2⟩
      · obtain ⟨it, h1, h2⟩ := ih h; exact ⟨it, List.mem_cons_of_mem _ h1, h2⟩
    · obtain ⟨it, h1, h2⟩ := ih h; exact ⟨it, List.mem_cons_of_mem _ h1, h2⟩

theorem lk_obI_some {m : Nat → Bool} {n : Nat} {o : Obj} : ∀ {A : List Item}, lk (obI m A) n = some o → ∃ it ∈ A, m it.i = true ∧ lk it.obs n = some o := by
  intro A
  induction A with
  | nil => intro h; simp [obI, lk] at h
  | cons x r ih =>
    intro h
    simp only [obI] at h
    split at h
    · rename_i hm
      rw [lk_append] at h
      split at h
      · rename_i y hy
        simp only [Option.some.injEq] at h
        subst h
        exact ⟨x, List.mem_cons_self, hm, hy⟩
      · obtain ⟨it, h1, h2⟩ := ih h; exact ⟨it, List.mem_cons_of_mem _ h1, h2⟩
    · obtain ⟨it, h1, h2⟩ := ih h; exact ⟨it, List.mem_cons_of_mem _ h1, h2⟩

/-- How items stand to each other. -/
def Apart (x y : Item) : Prop := y.i < x.i ∧ y.e ≤ x.b ∧ ∀ t, x.dst = some t → y.dst ≠ some t

theorem lk_tmI_of {m : Nat → Bool} : ∀ {A : List Item} {it : Item} {t : Nat}, A.Pairwise Apart → it ∈ A → m it.i = true → it.dst = some t → lk (tmI m A) t = some it.v := by
  intro A
  induction A with
  | nil => intro it t _ h; cases h
  | cons x r ih =>
    intro it t hp h hm hd
    obtain ⟨hp1, hp2⟩ := List.pairwise_cons.1 hp
    rcases List.mem_cons.1 h with rfl | h
    · simp only [tmI, hm, if_true, hd, lk]
    · have hne : x.dst ≠ some t := fun hx => (hp1 it h).2.2 t hx hd
      have := ih hp2 h hm hd
      simp only [tmI]
      split
      · split
        · rename_i d hd'
          simp only [lk]
          rw [if_neg (by rintro rfl; exact hne hd')]
          exact this
        · exact this
      · exact this

theorem lk_obI_of {m : Nat → Bool} : ∀ {A : List Item} {it : Item} {n : Nat} {o : Obj}, A.Pairwise Apart → (∀ x ∈ A, ∀ n o, lk x.obs n = some o → x.b ≤ n ∧ n < x.e) → it ∈ A → m it.i = true → lk it.obs n = some o → lk (obI m A) n = some o := by
  intro A
  induction A with
  | nil => intro it n o _ _ h; cases h
  | cons x r ih =>
    intro it n o hp hr h hm ho
    obtain ⟨hp1, hp2⟩ := List.pairwise_cons.1 hp
    simp only [obI]
    rcases List.mem_cons.1 h with rfl | h
    · rw [if_pos hm, lk_append, ho]
    · have h2 := ih hp2 (fun y hy => hr y (List.mem_cons_of_mem _ hy)) h hm ho
      split
      · rw [lk_append]
        cases hx : lk x.obs n with
        | none => exact h2
        | some o' =>
          exfalso
          have q1 := hr x List.mem_cons_self n o' hx
          have q2 := hr it (List.mem_cons_of_mem _ h) n o ho
          have := (hp1 it h).2.1
          omega
      · exact h2

theorem apart_eq {A : List Item} (hp : A.Pairwise Apart) : ∀ x ∈ A, ∀ y ∈ A, x.i = y.i → x = y := by
  induction A with
  | nil => intro x h; cases h
  | cons z r ih =>
    obtain ⟨hp1, hp2⟩ := List.pairwise_cons.1 hp
    intro x hx y hy he
    rcases List.mem_cons.1 hx with rfl | hx
    · rcases List.mem_cons.1 hy with rfl | hy
      · rfl
      · have := (hp1 y hy).1; omega
    · rcases List.mem_cons.1 hy with he2 | hy
      · have := (hp1 x hx).1; rw [he2] at he; omega
      · exact ih hp2 x hx y hy he

/-- Different items use different names. -/
theorem apart_nm {A : List Item} (hp : A.Pairwise Apart) : ∀ x ∈ A, ∀ y ∈ A, x.i ≠ y.i → x.e ≤ y.b ∨ y.e ≤ x.b := by
  induction A with
  | nil => intro x h; cases h
  | cons z r ih =>
    obtain ⟨hp1, hp2⟩ := List.pairwise_cons.1 hp
    intro x hx y hy he
    rcases List.mem_cons.1 hx with rfl | hx
    · rcases List.mem_cons.1 hy with rfl | hy
      · exact absurd rfl he
      · exact .inr (hp1 y hy).2.1
    · rcases List.mem_cons.1 hy with he2 | hy
      · rw [he2]; exact .inl (hp1 x hx).2.1
      · exact ih hp2 x hx y hy he

theorem lk_hideT {h : List Nat} {t : Nat} {v : TV} : ∀ {l : List (Nat × TV)}, lk (hideT h l) t = some v → h.contains t = false ∧ lk l t = some v := by
  intro l
  induction l with
  | nil => intro h; simp [hideT, lk] at h
  | cons p r ih =>
    intro hl
    obtain ⟨n, u⟩ := p
    simp only [hideT] at hl
    split at hl
    · rename_i hc
      obtain ⟨h1, h2⟩ := ih hl
      refine ⟨h1, ?_⟩
      simp only [lk]
      rw [if_neg]
      · exact h2
      · rintro rfl; rw [h1] at hc; cases hc
    · rename_i hc
      simp only [lk] at hl ⊢
      split at hl
      · rename_i he
        subst he
        exact ⟨by simpa using hc, by rw [if_pos rfl]; exact hl⟩
      · rename_i he
        obtain ⟨h1, h2⟩ := ih hl
        exact ⟨h1, by rw [if_neg he]; exact h2⟩

/-! #### Bools told anew are the same -/
def nb : TV → TV
  | .sc _ .bool b => .sc true .bool b
  | v => v
def nbL : List (Nat × TV) → List (Nat × TV)
  | [] => []
  | (t, v) :: r => (t, nb v) :: nbL r
def nbI (x : Item) : Item := { x with v := nb x.v }

theorem nb_bool (e b : Bool) : nb (.sc e .bool b) = .sc true .bool b := rfl
theorem VT_nb {v : TV} {u : Value} : VT w F g (nb v) u ↔ VT w F g v u := by
  cases v with
  | sc e k x => cases k <;> exact Iff.rfl
  | _ => exact Iff.rfl
theorem nms_nb {v : TV} : (nb v).nms N ↔ v.nms N := by
  cases v with
  | sc e k x => cases k <;> exact Iff.rfl
  | _ => exact Iff.rfl
theorem lk_nbL {t : Nat} : ∀ {l : List (Nat × TV)}, lk (nbL l) t = (lk l t).map nb := by
  intro l
  induction l with
  | nil => rfl
  | cons p r ih =>
    obtain ⟨n, v⟩ := p
    simp only [nbL, lk]
    split
    · rfl
    · exact ih
theorem nbL_append : ∀ {l l' : List (Nat × TV)}, nbL (l ++ l') = nbL l ++ nbL l' := by
  intro l
  induction l with
  | nil => intro l'; rfl
  | cons p r ih => intro l'; obtain ⟨n, v⟩ := p; simp only [List.cons_append, nbL, ih]
theorem nbL_tmI {m : Nat → Bool} : ∀ {A : List Item}, nbL (tmI m A) = tmI m (A.map nbI) := by
  intro A
  induction A with
  | nil => rfl
  | cons x r ih =>
    simp only [tmI, List.map_cons, nbI]
    split
    · split
      · simp only [nbL, ih]
      · exact ih
    · exact ih
theorem obI_nbI {m : Nat → Bool} : ∀ {A : List Item}, obI m (A.map nbI) = obI m A := by
  intro A
  induction A with
  | nil => rfl
  | cons x r ih => simp only [obI, List.map_cons, nbI, ih]
theorem nbL_hideT {h : List Nat} : ∀ {l : List (Nat × TV)}, nbL (hideT h l) = hideT h (nbL l) := by
  intro l
  induction l with
  | nil => rfl
  | cons p r ih =>
    obtain ⟨n, v⟩ := p
    simp only [hideT, nbL]
    split
    · exact ih
    · simp only [nbL, ih]

theorem inv_nb {s' : St} (I : Inv F w0 N s a w g) (ht : nbL s'.tm = nbL s.tm) (ho : s'.ob = s.ob) (hn : s'.nf = s.nf) : Inv F w0 N s' a w g := by
  have key : ∀ t v', lk s'.tm t = some v' → ∃ v, lk s.tm t = some v ∧ nb v = nb v' := by
    intro t v' h
    have h1 : lk (nbL s'.tm) t = some (nb v') := by rw [lk_nbL, h]; rfl
    rw [ht, lk_nbL, Option.map_eq_some_iff] at h1
    exact h1
  refine ⟨fun n o h => I.ob n o (ho ▸ h), fun n m o p b h1 h2 => I.dis n m o p b (ho ▸ h1) (ho ▸ h2), fun n o b h => I.inF n o b (ho ▸ h), I.bxF, fun t v' h => ?_, fun t v' h => ?_, fun n o h => I.nmO n o (ho ▸ h), (congrArg Prod.fst hn).trans I.nt, ⟨I.df.1, fun t h => I.df.2 t (by rw [← show s'.fx = s.fx from congrArg Prod.snd hn]; exact h)⟩, I.big, I.kept⟩
  · obtain ⟨v, h1, h2⟩ := key t v' h
    obtain ⟨u, h3, h4⟩ := I.tm t v h1
    exact ⟨u, h3, VT_nb.1 (h2 ▸ VT_nb.2 h4)⟩
  · obtain ⟨v, h1, h2⟩ := key t v' h
    exact nms_nb.1 (h2 ▸ nms_nb.2 (I.nmT t v h1))

theorem litL_nb {t : Nat} {e b : Bool} : ∀ {l : List (Nat × TV)}, lk l t = some (.sc e .bool b) → nbL (litL l t b) = nbL l := by
  intro l
  induction l with
  | nil => intro h; rfl
  | cons p r ih =>
    intro h
    obtain ⟨n, u⟩ := p
    simp only [lk] at h
    simp only [litL]
    split at h
    · rename_i he
      simp only [Option.some.injEq] at h
      subst h
      rw [if_pos he]
      rfl
    · rename_i he
      rw [if_neg he]
      simp only [nbL, ih h]

theorem litI_nb {m : Nat → Bool} {t : Nat} {e b : Bool} : ∀ {A : List Item}, lk (tmI m A) t = some (.sc e .bool b) → (litI m A t b).map nbI = A.map nbI := by
  intro A
  induction A with
  | nil => intro h; rfl
  | cons x r ih =>
    intro h
    simp only [tmI] at h
    simp only [litI]
    split at h
    · rename_i hm
      split at h
      · rename_i d hd
        simp only [lk] at h
        split at h
        · rename_i he
          subst he
          simp only [Option.some.injEq] at h
          rw [if_pos ⟨hm, hd⟩]
          obtain ⟨i, dst, v, obs, b', e'⟩ := x
          dsimp only at h
          subst h
          rfl
        · rename_i he
          rw [if_neg (by rintro ⟨_, h2⟩; rw [hd] at h2; injection h2 with h2; exact he h2.symm)]
          simp only [List.map_cons, ih h]
      · rename_i hd
        rw [if_neg (by rintro ⟨_, h2⟩; rw [hd] at h2; cases h2)]
        simp only [List.map_cons, ih h]
    · rename_i hm
      rw [if_neg (by rintro ⟨h1, _⟩; exact hm h1)]
      simp only [List.map_cons, ih h]

/-- The same state and items, but for what is told of bools' being known. -/
structure Eqv (s s' : St) (A A' : List Item) : Prop where
  nt : s'.nf = s.nf
  ob : s'.ob = s.ob
  nx : s'.nx = s.nx
  tm : nbL s'.tm = nbL s.tm
  A : A'.map nbI = A.map nbI
theorem Eqv.refl (s : St) (A : List Item) : Eqv s s A A := ⟨rfl, rfl, rfl, rfl, rfl⟩

theorem litX_eqv {m : Nat → Bool} {A : List Item} {h : List Nat} {t : Nat} {e b : Bool} (hl : lk (view s A m h).tm t = some (.sc e .bool b)) : Eqv s (litX m s A t b).1 A (litX m s A t b).2 := by
  simp only [view, lk_append] at hl
  simp only [litX]
  split at hl
  · rename_i v hv
    simp only [Option.some.injEq] at hl
    subst hl
    rw [hv]
    simp only [Option.isSome_some, if_true]
    exact ⟨rfl, rfl, rfl, rfl, litI_nb hv⟩
  · rename_i hv
    rw [hv]
    simp only [Option.isSome_none, Bool.false_eq_true, if_false]
    exact ⟨rfl, rfl, rfl, litL_nb (lk_hideT hl).2, rfl⟩

theorem Eqv.view {s s' : St} {A A' : List Item} (h : Eqv s s' A A') (m : Nat → Bool) (hd : List Nat) : nbL (view s' A' m hd).tm = nbL (view s A m hd).tm ∧ (view s' A' m hd).ob = (view s A m hd).ob ∧ (view s' A' m hd).nf = (view s A m hd).nf := by
  refine ⟨?_, ?_, h.nt⟩
  · simp only [Vm.view, nbL_append, nbL_tmI, nbL_hideT, h.A, h.tm]
  · simp only [Vm.view, h.ob]
    rw [← obI_nbI (A := A'), h.A, obI_nbI]

/-! #### What an item does -/
def DoesO (P : Program) (F : Nat → Prop) (w0 : W0) (o : Oper) (V : St) (it : Item) : Prop :=
  ∀ (N : Nat → Prop) (g : G) (a : Act) (w : World) (Q : Exit → Act → World → Prop) (K : Act → World → Prop), (∀ n, it.b ≤ n → n < it.e → ¬ N n) → Inv F w0 N V a w g →
    (∀ u w' g', MadeL F N g g' w w' it.b it.e it.obs → VT w' F g' it.v u → it.v.nms (fun n => N n ∨ (it.b ≤ n ∧ n < it.e)) → K (a.put o.dst u) w') → o.wp P a w K Q
def DoesG (P : Program) (F : Nat → Prop) (w0 : W0) (ops : Array Oper) (o : Oper) (V : St) (it : Item) : Prop :=
  ∀ (N : Nat → Prop) (g : G) (a : Act) (w : World) (Q : Exit → Act → World → Prop) (K : Act → World → Prop), (∀ n, it.b ≤ n → n < it.e → ¬ N n) → Inv F w0 N V a w g →
    (∀ u w' g', MadeL F N g g' w w' it.b it.e it.obs → VT w' F g' it.v u → it.v.nms (fun n => N n ∨ (it.b ≤ n ∧ n < it.e)) → K (a.put o.dst u) w') → wpOp P ops Q it.i K a w

theorem madeL_same (I : Inv F w0 N s a w g) : MadeL F N g g w w base base [] :=
  ⟨⟨fun _ _ _ => rfl, fun _ h => h.elim, fun _ _ h => h.elim, fun _ _ h => h.elim, fun _ _ => Iff.rfl, fun _ _ => rfl⟩, fun _ _ => rfl, Kept.refl _ _, I.bxF, fun n o h => by simp [lk] at h, fun n m o p b h => by simp [lk] at h⟩

theorem vpar1_does (hT : TOk P T) (hE : EOk P E) {o : Oper} {i : Nat} {V : St} {k : Item → Option β} {kl : Nat → Bool → Option β} {r : β} (h : vpar1 std T E o i V k kl = some r) :
    FreeD V o.dst ∧
    ((∃ it, it.i = i ∧ it.dst = o.dst ∧ it.b = V.nx ∧ it.b ≤ it.e ∧ (∀ n ob, lk it.obs n = some ob → it.b ≤ n ∧ n < it.e) ∧ DoesO P F w0 o V it ∧ k it = some r) ∨
     (∃ t x y e b, o.op = .pick (.tmp t) x y ∧ lk V.tm t = some (.sc e .bool b) ∧ kl t b = some r)) := by
  unfold vpar1 at h
  split at h
  · rename_i hd
    refine ⟨fun t ht => by rw [ht] at hd; simpa [dstOk] using hd, ?_⟩
    generalize ho : o.op = op at h
    split at h
    · rename_i c x y
      split at h
      · rename_i c' e b t hc
        right
        refine ⟨t, x, y, _, b, rfl, hc, ?_⟩
        rw [brT_std] at h
        cases b with
        | true => simpa using h
        | false => simpa using h
      · simp [std] at h
    · rename_i f args argTypes
      split at h
      · rename_i q hq
        unfold vcall at hq
        split at hq
        · rename_i fi hf
          simp only [Option.bind_eq_some_iff] at hq
          obtain ⟨e, he, hq⟩ := hq
          split at hq
          · rename_i hret
            simp only [Option.bind_eq_some_iff, Option.map_eq_some_iff] at hq
            obtain ⟨vs, hvs, x, hx, rfl⟩ := hq
            simp only [std, Option.bind_eq_some_iff] at h
            obtain ⟨d, hden, h⟩ := h
            left
            refine ⟨_, rfl, rfl, rfl, by simp only [aft]; omega, fun n ob hl => ?_, ?_, h⟩
            · obtain ⟨c, rfl, hc⟩ := lk_shiftOb _ _ _ _ hl
              have hro : (e.rsh.ob.all fun q => q.2.ret && decide (q.1 < e.rsh.nx)) = true := by
                simp only [Sh.retOk, Sh.ret, Bool.and_eq_true] at hret; exact hret.1.2
              have := (obfill_ret (l := e.rsh.ob) hro hc).1
              simp only [aft]
              omega
            · intro N g a w Q K hn I hK
              obtain ⟨hH, fn, hfn, hname, hbody⟩ := hE fi e he
              obtain ⟨cs, hfv, hcs⟩ := VT_leaf (eval_VT I hf) rfl rfl
              simp only [CT] at hcs
              subst hcs
              simp only [List.cons.injEq, and_true] at hfv
              have hrun : (execOp a.eval o).run P w = .ok (.enter fi (args.map a.eval)) w := by
                have hnm : fn.name ≠ "runtime.NumGoroutine" := by simpa using hname
                have hnb : fn.body ≠ none := by intro h; rw [h] at hbody; cases hbody
                simp [execOp, ho, resolve, hfv, Deferred.ofValue, invoke, callFunc, run_program, hfn, hnm, hnb]
              simp only [Oper.wp, hrun, Oper.upon]
              have hargs := (mtA_ok I hvs hx).1
              refine (hH.1 w (args.map a.eval) x d hden (by simpa using hargs)).mono fun en w' hr => ?_
              cases en with
              | returned v =>
                obtain ⟨hk, g', hR⟩ := hr
                obtain ⟨g2, m, hV, hnv⟩ := call_madeL I hn hret hk hR
                exact hK v w' g2 m hV hnv
              | panicked c => exact hr.elim
              | outgrown => exact hr.elim
          · cases hq
        · cases hq
      · simp [std] at h
    · rename_i op' hnp hnc
      split at h
      · rename_i out hout
        rw [chkT_std] at h
        simp only [chk] at h
        split at h
        · rename_i hok
          have h2 : k ⟨i, o.dst, out.v, (out.nw.map fun ob => (V.nx, ob)).toList, V.nx, V.nx + 1⟩ = some r := by
            have h3 : bndO std (out.nw.map fun ob => (V.nx, ob)) (fun nw => (if binds op then bndT std out.v else fun f => f out.v) fun v => k ⟨i, o.dst, v, nw.toList, V.nx, V.nx + 1⟩) = some r := h
            rw [bndO_std] at h3
            split at h3
            · rw [bndT_std] at h3; exact h3
            · exact h3
          left
          refine ⟨_, rfl, rfl, rfl, by dsimp only; omega, fun n ob hl => ?_, ?_, h2⟩
          · dsimp only at hl ⊢
            cases hnw : out.nw with
            | none => rw [hnw] at hl; simp [lk] at hl
            | some o0 =>
              rw [hnw] at hl
              simp only [Option.map_some, Option.toList, lk] at hl
              split at hl
              · rename_i he; subst he; omega
              · cases hl
          · intro N g a w Q K hn I hK
            dsimp only at hn hK
            obtain ⟨u, w', g', hr, hmd, hV, hnv⟩ := vpure2_run hT I (hn V.nx (Nat.le_refl _) (by omega)) (o := o) (by rw [ho]; exact hout) hok
            simp only [Oper.wp, hr, Oper.upon]
            exact hK u w' g' (madeL_of_made hmd) hV (TV.nms_mono (fun n hn => hn.imp id fun h => by omega) hnv)
        · cases h
      · cases h
  · cases h

end
end Go.Vm

/- The value machine, part 38: regions of open order do what is computed: the walk over all orders. -/
set_option linter.unusedVariables false
set_option linter.unusedSimpArgs false
namespace Go.Vm

section
variable {P : Program} {T : Nat → K} {E : Nat → Option Ent} {w w' : World} {w0 : W0} {F N : Nat → Prop} {g g' : G} {s : St} {a : Act} {base : Nat} {β : Type}

@[reducible] def msk (ms : List Nat) (i : Nat) : Nat → Bool := fun j => (ms.getD i 0).testBit j

theorem yieldI_bool (I : Inv F w0 N s a w g) {ops : Array Oper} {j t : Nat} {e b : Bool} (ht : (ops[j]?).bind (·.dst) = some t) (hl : lk s.tm t = some (.sc e .bool b)) : yielded ops a.tmps j = some b := by
  obtain ⟨u, h1, h2⟩ := I.tm t _ hl
  have := VT_bool h2
  subst this
  simp [yielded, ht, h1]

theorem yieldI_tn (I : Inv F w0 N s a w g) {ops : Array Oper} {j t : Nat} (ht : (ops[j]?).bind (·.dst) = some t) (hl : lk s.tm t = some .tn) : yielded ops a.tmps j = none := by
  obtain ⟨u, h1, h2⟩ := I.tm t _ hl
  simp only [VT] at h2
  subst h2
  simp [yielded, ht, h1]

/-- One operation of a region of open order. -/
theorem vst_step (hT : TOk P T) (hE : EOk P E) {ops : Array Oper} {i m0 : Nat} {h0 : List Nat} {o : Oper} {A : List Item} {next : St → List Item → Option β} {r : β} (ho : ops[i]? = some o)
    (h : vst std T E ops i o m0 h0 s A next = some r) :
    ∃ s2 A2 it, Eqv s s2 A A2 ∧ it.i = i ∧ it.dst = o.dst ∧ FreeD s o.dst ∧ it.b = s.nx ∧ it.b ≤ it.e ∧ (∀ n ob, lk it.obs n = some ob → it.b ≤ n ∧ n < it.e) ∧
      DoesG P F w0 ops o (view s A (fun j => m0.testBit j) h0) it ∧ next { s2 with nx := it.e } (it :: A2) = some r := by
  unfold vst at h
  · rw [frcN_eq] at h
    dsimp only at h
    have mkG : ∀ {it : Item}, it.i = i → DoesO P F w0 o (view s A (fun j => m0.testBit j) h0) it → (∀ (N : Nat → Prop) (g : G) (a : Act) (w : World), Inv F w0 N (view s A (fun j => m0.testBit j) h0) a w g → Region.wanted o (yielded ops a.tmps) = true) →
        DoesG P F w0 ops o (view s A (fun j => m0.testBit j) h0) it := by
      intro it hi hO hw N g a w Q K hn I hK
      unfold wpOp
      rw [hi, ho]
      simp only [hw N g a w I, if_true]
      exact .inl (hO N g a w Q K hn I hK)
    have skipG : (∀ (N : Nat → Prop) (g : G) (a : Act) (w : World), Inv F w0 N (view s A (fun j => m0.testBit j) h0) a w g → Region.wanted o (yielded ops a.tmps) = false) →
        DoesG P F w0 ops o (view s A (fun j => m0.testBit j) h0) ⟨i, o.dst, .tn, [], s.nx, s.nx⟩ := by
      intro hw N g a w Q K hn I hK
      unfold wpOp
      rw [ho]
      simp only [hw N g a w I, Bool.false_eq_true, if_false]
      exact hK undef w g (madeL_same I) rfl trivial
    have does_nb : ∀ {V V' : St} {it : Item}, nbL V'.tm = nbL V.tm → V'.ob = V.ob → V'.nf = V.nf → DoesG P F w0 ops o V' it → DoesG P F w0 ops o V it := by
      intro V V' it h1 h2 h3 hG N g a w Q K hn I hK
      exact hG N g a w Q K hn (inv_nb I h1 h2 h3) hK
    have run : ∀ (s1 : St) (A1 : List Item), Eqv s s1 A A1 → (∀ (N : Nat → Prop) (g : G) (a : Act) (w : World), Inv F w0 N (view s A (fun j => m0.testBit j) h0) a w g → Region.wanted o (yielded ops a.tmps) = true) →
        (vpar1 std T E o i (view s1 A1 (fun j => m0.testBit j) h0) (fun it => frcV it.v fun v => next { s1 with nx := it.e } ({ it with v := v } :: A1)) fun t b =>
          match o.op with
          | .pick _ x y => (evo (lk (view (litX (fun j => m0.testBit j) s1 A1 t b).1 (litX (fun j => m0.testBit j) s1 A1 t b).2 (fun j => m0.testBit j) h0).tm) (if b then x else y)).bind fun v =>
              next (litX (fun j => m0.testBit j) s1 A1 t b).1 (⟨i, o.dst, v, [], s1.nx, s1.nx⟩ :: (litX (fun j => m0.testBit j) s1 A1 t b).2)
          | _ => none) = some r →
        ∃ s2 A2 it, Eqv s s2 A A2 ∧ it.i = i ∧ it.dst = o.dst ∧ FreeD s o.dst ∧ it.b = s.nx ∧ it.b ≤ it.e ∧ (∀ n ob, lk it.obs n = some ob → it.b ≤ n ∧ n < it.e) ∧
          DoesG P F w0 ops o (view s A (fun j => m0.testBit j) h0) it ∧ next { s2 with nx := it.e } (it :: A2) = some r := by
      intro s1 A1 q hw h
      simp only [frcV_eq] at h
      obtain ⟨v1, v2, v3⟩ := q.view (fun j => m0.testBit j) h0
      obtain ⟨hd, h⟩ := vpar1_does (F := F) (w0 := w0) hT hE h
      have hd' : FreeD s o.dst := hd.of_nf v3.symm
      rcases h with ⟨it, h1, h2, h3, h4, h5, h6, h7⟩ | ⟨t, x, y, e, b, hop, hl, h⟩
      · refine ⟨s1, A1, it, q, h1, h2, hd', h3.trans q.nx, h4, h5, mkG h1 (fun N g a w Q K hn I hK => h6 N g a w Q K hn (inv_nb I v1 v2 v3) hK) hw, h7⟩
      · rw [hop] at h
        simp only [Option.bind_eq_some_iff] at h
        obtain ⟨v, hv, h⟩ := h
        have q2 := litX_eqv hl
        have q3 : Eqv s (litX (fun j => m0.testBit j) s1 A1 t b).1 A (litX (fun j => m0.testBit j) s1 A1 t b).2 := ⟨q2.nt.trans q.nt, q2.ob.trans q.ob, q2.nx.trans q.nx, q2.tm.trans q.tm, q2.A.trans q.A⟩
        obtain ⟨u1, u2, u3⟩ := q3.view (fun j => m0.testBit j) h0
        have hnx : (litX (fun j => m0.testBit j) s1 A1 t b).1 = { (litX (fun j => m0.testBit j) s1 A1 t b).1 with nx := s1.nx } := by
          have := q2.nx
          generalize (litX (fun j => m0.testBit j) s1 A1 t b).1 = z at this
          cases z
          simp only at this
          subst this
          rfl
        rw [hnx] at h
        refine ⟨_, _, ⟨i, o.dst, v, [], s1.nx, s1.nx⟩, q3, rfl, rfl, hd', q.nx, Nat.le_refl _, fun n ob hh => by simp [lk] at hh, mkG rfl ?_ hw, h⟩
        intro N g a w Q K hn I hK
        have I1 := inv_nb I v1 v2 v3
        have hcv : a.eval (.tmp t) = .bool b := VT_bool (eval_VT I1 (x := .tmp t) (v := .sc e .bool b) hl)
        have hpick : (execOp a.eval o).run P w = .ok (.value (if b then a.eval x else a.eval y)) w := by
          simp [execOp, hop, hcv, asBool]
        simp only [Oper.wp, hpick, Oper.upon]
        have I2 := inv_nb I u1 u2 u3
        have hV := eval_VT I2 hv
        have : (if b = true then a.eval x else a.eval y) = a.eval (if b = true then x else y) := by cases b <;> rfl
        rw [this]
        exact hK _ w g (madeL_same I) hV (TV.nms_mono (fun n h => .inl h) (evo_nms I2 hv))
    split at h
    · rename_i hg
      exact run s A (Eqv.refl s A) (fun N g a w I => by simp [Region.wanted, hg]) h
    · rename_i gg want hg
      split at h
      · cases h
      · rename_i t ht
        split at h
        · rename_i e b hl
          have hwant : ∀ (N : Nat → Prop) (g : G) (a : Act) (w : World), Inv F w0 N (view s A (fun j => m0.testBit j) h0) a w g → Region.wanted o (yielded ops a.tmps) = (b == want) := by
            intro N g a w I
            have hy := yieldI_bool I ht hl
            simp only [Region.wanted, hg, hy]
            cases b <;> cases want <;> rfl
          have q : Eqv s (litX (fun j => m0.testBit j) s A t b).1 A (litX (fun j => m0.testBit j) s A t b).2 := litX_eqv hl
          generalize hz : litX (fun j => m0.testBit j) s A t b = z at q
          have skp : (if dstOk z.1 o.dst = true then next z.1 (⟨i, o.dst, .tn, [], z.1.nx, z.1.nx⟩ :: z.2) else none) = some r → (b == want) = false →
              ∃ s2 A2 it, Eqv s s2 A A2 ∧ it.i = i ∧ it.dst = o.dst ∧ FreeD s o.dst ∧ it.b = s.nx ∧ it.b ≤ it.e ∧ (∀ n ob, lk it.obs n = some ob → it.b ≤ n ∧ n < it.e) ∧
                DoesG P F w0 ops o (view s A (fun j => m0.testBit j) h0) it ∧ next { s2 with nx := it.e } (it :: A2) = some r := by
            intro h hbw
            split at h
            · rename_i hd
              refine ⟨z.1, z.2, ⟨i, o.dst, .tn, [], z.1.nx, z.1.nx⟩, q, rfl, rfl, (dstOk_free hd).of_nf q.nt.symm, q.nx, Nat.le_refl _, fun n ob hh => by simp [lk] at hh, ?_, h⟩
              · rw [q.nx]
                exact skipG (fun N g a w I => by rw [hwant N g a w I, hbw])
            · cases h
          rw [brT_std] at h
          cases b with
          | true =>
            simp only [cond_true] at h
            rw [hz] at h
            cases want with
            | true => exact run z.1 z.2 q (fun N g a w I => by rw [hwant N g a w I]; rfl) h
            | false => exact skp h rfl
          | false =>
            simp only [cond_false] at h
            rw [hz] at h
            cases want with
            | true => exact skp h rfl
            | false => exact run z.1 z.2 q (fun N g a w I => by rw [hwant N g a w I]; rfl) h
        · rename_i hl
          split at h
          · rename_i hd
            refine ⟨s, A, ⟨i, o.dst, .tn, [], s.nx, s.nx⟩, Eqv.refl s A, rfl, rfl, dstOk_free hd, rfl, Nat.le_refl _, fun n ob hh => by simp [lk] at hh, skipG (fun N g a w I => ?_), h⟩
            have hy := yieldI_tn I ht hl
            simp only [Region.wanted, hg, hy]
            rfl
          · cases h
        · simp [std] at h

/-- One operation that comes behind all ahead of it. -/
theorem vops1_sound (hT : TOk P T) (hE : EOk P E) {ops : Array Oper} {i : Nat} {k : St → Option β} {r : β} {Q : Exit → Act → World → Prop} (h : vops std T E ops [i] s k = some r) (hs : SI F w0 s a w) :
    wpOp P ops Q i (fun a' w' => ∃ s', SI F w0 s' a' w' ∧ k s' = some r) a w := by
  simp only [vops] at h
  unfold wpOp
  split at h
  · cases h
  · rename_i o ho
    simp only [ho]
    split at h
    · rename_i hg
      rw [if_pos (by simp [Region.wanted, hg])]
      exact .inl (vone_sound hT hE h hs)
    · rename_i gg want hg
      split at h
      · cases h
      · rename_i t ht
        split at h
        · rename_i e b hl
          have hy := yielded_bool hs ht hl
          have hw : Region.wanted o (yielded ops a.tmps) = (b == want) := by simp only [Region.wanted, hg, hy]; cases b <;> cases want <;> rfl
          rw [hw]
          have hlit : SI F w0 (lit s (.tmp t) b) a w := SI_lit (x := .tmp t) hs hl
          rw [brT_std] at h
          cases b with
          | true =>
            simp only [cond_true] at h
            cases want with
            | true => simp only [if_true] at h; rw [if_pos (show (true == true) = true from rfl)]; exact .inl (vone_sound hT hE h hlit)
            | false =>
              simp only [Bool.false_eq_true, if_false] at h
              rw [if_neg (by simp)]
              split at h
              · rename_i hd; exact ⟨_, SI_skip hlit (by rw [dstOk_lit]; exact hd), h⟩
              · cases h
          | false =>
            simp only [cond_false] at h
            cases want with
            | true =>
              simp only [if_true] at h
              rw [if_neg (by simp)]
              split at h
              · rename_i hd; exact ⟨_, SI_skip hlit (by rw [dstOk_lit]; exact hd), h⟩
              · cases h
            | false => simp only [Bool.false_eq_true, if_false] at h; rw [if_pos (show (false == false) = true from rfl)]; exact .inl (vone_sound hT hE h hlit)
        · rename_i hl
          have hy := yielded_tn hs ht hl
          have hw : Region.wanted o (yielded ops a.tmps) = false := by simp only [Region.wanted, hg, hy]; rfl
          rw [hw]
          simp only [Bool.false_eq_true, if_false]
          split at h
          · rename_i hd; exact ⟨_, SI_skip hs hd, h⟩
          · cases h
        · simp [std] at h

end
end Go.Vm
