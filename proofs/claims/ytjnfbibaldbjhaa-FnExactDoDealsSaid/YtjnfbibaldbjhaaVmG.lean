/- The value machine, joined: what is proved here holds for every loaded program; no condition but those that each theorem states. -/
import Derived.Test.YtjnfbibaldbjhaaVmF
import Derived.WalkKit
import Derived.ProofKit
import Derived.OpenShut
import Derived.ShutString
import Derived.ChangeOld
import Derived.Below
import Derived.Carry
import Derived.SizedLaws
import Derived.JoinedOf
/- The value machine, part 42: what comes in, read as data; what a law's row asks. -/
set_option linter.unusedVariables false
set_option linter.unusedSimpArgs false
namespace Go.Vm
open Go.ChangeShapes Go.WideShapes Go.ChangeAt Go.RowKit

/-- Data within the bounds of what comes in. -/
def wfD : (k : K) → dn k → Prop
  | .int ik, x => (Lit.int ik x).wf = true
  | .bool, _ => True
  | .str, s => ByteArray.size s ≤ maxLen
  | .sl _ k, xs => List.length xs ≤ maxLen ∧ ∀ x ∈ (xs : List (dn k)), wfD k x
  | .arr n k, xs => List.length xs = n ∧ ∀ x ∈ (xs : List (dn k)), wfD k x
  | .pr a b, x => wfD a x.1 ∧ wfD b x.2
  | .un, _ => True

section
variable {H : Type} {enc : TypeId × Value → H} {P : Program} {T : Nat → K} {W W' : World}

theorem cellsOf_sz {t : Nat} (h : TyOk P T t) : P.cellsOf t = (T t).sz := by
  obtain ⟨i, hi, hsz, _⟩ := h.info
  simp [Program.cellsOf, hi, hsz]

theorem cells?_get {w : World} {base n : Nat} {a : Addr} {cs : List Value} (h : w.cells? base a n = some cs) : cs.length = n ∧ ∀ i u, cs[i]? = some u → w.cell? (a.add i) = some u := by
  unfold World.cells? at h
  split at h
  · have hl := mapM_some_length h
    refine ⟨by simpa using hl, fun i u hu => ?_⟩
    have hi := (List.getElem?_eq_some_iff.1 hu).1
    have hi' : i < n := by simp at hl; omega
    have := mapM_some_get h i i (by simp [hi'])
    rw [this]
    exact hu
  · cases h

theorem cell_Bt {w : World} {a : Addr} {v : Value} (h : w.cell? a = some v) : ∃ bt, Bt w a.block bt := by
  simp only [World.cell?] at h
  split at h
  · rename_i cur t fr hb
    exact ⟨t, cur, fr, hb⟩
  · cases h

theorem trod_array {t n e : Nat} {base : Nat} {spare : Nat → Bool} {held : Bool} {fuel : Nat} {cs : List Value} {x : DataW H × List MemPlace} (ht : P.underlying t = some (.array n e)) (h : DataW.trod enc P W base spare held fuel t cs = some x) :
    ∃ (xs : List (DataW H × List MemPlace)) (m : Nat), fuel = m + 1 ∧ cs.length = P.cellsOf t ∧ xs.length = n ∧
      ∀ i, i < n → DataW.trod enc P W base spare held m e ((cs.drop (i * P.cellsOf e)).take (P.cellsOf e)) = xs[i]? := by
  cases fuel with
  | zero => simp [DataW.trod] at h
  | succ m =>
    unfold DataW.trod at h
    rw [ht] at h
    split at h <;> simp_all
    obtain ⟨hl, xs, hp, hd⟩ := h
    exact ⟨xs, by simpa using mapM_some_length hp, fun i hi => mapM_some_get hp i i (by simp [hi])⟩

/-- Slices have elements that take place. -/
def _root_.Go.Vm.K.slp : K → Bool
  | .sl _ k => decide (0 < k.sz) && k.slp
  | .arr _ k => k.slp
  | .pr a b => a.slp && b.slp
  | _ => true

theorem trod_C (hT : TOk P T) : ∀ (k : K), k.slp = true →
    (∀ (t fuel : Nat) (cs : List Value) (y : DataW H × List MemPlace), T t = k → k ≠ .un → DataW.trod enc P W 0 (fun _ => true) true fuel t cs = some y → ∃ x : dn k, C W (okx (Fr W)) k x cs ∧ wfD k x) ∧
    (∀ (fs : List Field) (o n : Nat) (cs : List Value) (g : Nat → Option (DataW H × List MemPlace)), fieldsOk T k fs o → o + k.sz ≤ cs.length → (∀ (i : Nat) (f : Field), fs[i]? = some f → DataW.trod enc P W 0 (fun _ => true) true n f.type ((cs.drop f.offset).take (P.cellsOf f.type)) = g i ∧ (g i).isSome = true) →
      ∃ x : dn k, C W (okx (Fr W)) k x (sub cs o k.sz) ∧ wfD k x) := by
  intro k
  induction k with
  | int ik =>
    intro _
    refine ⟨fun t fuel cs y ht hu h => ?_, fun fs o n cs g hf => by cases fs <;> simp [fieldsOk] at hf⟩
    obtain ⟨dd, hdd, hs⟩ := (hT t (by rw [ht]; exact hu)).und
    rw [ht] at hs
    simp only [shapeOk] at hs
    subst hs
    obtain ⟨n, h1, _, h2⟩ := DataW.trod_int hdd h
    exact ⟨n, h1, h2⟩
  | bool =>
    intro _
    refine ⟨fun t fuel cs y ht hu h => ?_, fun fs o n cs g hf => by cases fs <;> simp [fieldsOk] at hf⟩
    obtain ⟨dd, hdd, hs⟩ := (hT t (by rw [ht]; exact hu)).und
    rw [ht] at hs
    simp only [shapeOk] at hs
    subst hs
    obtain ⟨n, h1, _⟩ := DataW.trod_bool hdd h
    exact ⟨n, h1, trivial⟩
  | str =>
    intro _
    refine ⟨fun t fuel cs y ht hu h => ?_, fun fs o n cs g hf => by cases fs <;> simp [fieldsOk] at hf⟩
    obtain ⟨dd, hdd, hs⟩ := (hT t (by rw [ht]; exact hu)).und
    rw [ht] at hs
    simp only [shapeOk] at hs
    subst hs
    obtain ⟨n, h1, _, h2⟩ := DataW.trod_string hdd h
    exact ⟨n, h1, h2⟩
  | un =>
    intro _
    refine ⟨fun t fuel cs y ht hu h => absurd rfl hu, fun fs o n cs g hf hl h => ⟨(), by simp [C, sub, K.sz], trivial⟩⟩
  | sl e k ih =>
    intro hsl
    simp only [K.slp, Bool.and_eq_true, decide_eq_true_eq] at hsl
    obtain ⟨ihA, _⟩ := ih hsl.2
    refine ⟨fun t fuel cs y ht hu h => ?_, fun fs o n cs g hf => by cases fs <;> simp [fieldsOk] at hf⟩
    obtain ⟨dd, hdd, hs⟩ := (hT t (by rw [ht]; exact hu)).und
    rw [ht] at hs
    obtain ⟨rfl, hTe, hne⟩ := hs
    have hTy := hT e (by rw [hTe]; exact hne)
    have hce : P.cellsOf e = k.sz := by rw [cellsOf_sz hTy, hTe]
    rcases DataW.trod_slice hdd h with ⟨h1, _⟩ | ⟨a, len, cap, elems, rest, n, rfl, h1, _, _, hlc, hcm, hel, hels, _, _⟩
    · exact ⟨[], ⟨none, 0, by simpa using h1, by simp, by simp, fun h => by simp at h, fun ad h => by cases h⟩, by simp [wfD]⟩
    · rw [hce] at hels
      have each : ∀ i, i < len → ∃ (x : dn k) (ds : List Value), C W (okx (Fr W)) k x ds ∧ wfD k x ∧ ds.length = k.sz ∧ ∀ j u, ds[j]? = some u → W.cell? (a.add (i * k.sz + j)) = some u := by
        intro i hi
        have hx := hels i hi
        rw [List.getElem?_eq_getElem (by omega)] at hx
        simp only [Option.bind_eq_some_iff] at hx
        obtain ⟨ds, hds, htr⟩ := hx
        obtain ⟨x, hx1, hx2⟩ := ihA e n ds _ hTe hne htr
        obtain ⟨hl, hg⟩ := cells?_get hds
        refine ⟨x, ds, hx1, hx2, hl, fun j u hu => ?_⟩
        have := hg j u hu
        rwa [show (a.add (i * k.sz)).add j = a.add (i * k.sz + j) from by unfold Addr.add; split <;> split <;> simp_all [Nat.add_assoc]] at this
      classical
      let f : Nat → dn k := fun i => if h : i < len then Classical.choose (each i h) else dz k
      have hf : ∀ i, i < len → ∃ ds, C W (okx (Fr W)) k (f i) ds ∧ wfD k (f i) ∧ ds.length = k.sz ∧ ∀ j u, ds[j]? = some u → W.cell? (a.add (i * k.sz + j)) = some u := by
        intro i hi
        simp only [f, dif_pos hi]
        exact Classical.choose_spec (each i hi)
      have hlen : ((List.range len).map f).length = len := by simp
      have e1 : cs = [.slice (some a) (List.length ((List.range len).map f)) cap] := by rw [hlen]; exact h1
      have e2 : List.length ((List.range len).map f) ≤ cap := by rw [hlen]; exact hlc
      have e3 : List.length ((List.range len).map f) ≤ 9223372036854775807 := by
        have : maxLen ≤ 9223372036854775807 := by decide
        omega
      have e4 : List.length ((List.range len).map f) ≤ maxLen := by omega
      refine ⟨(List.range len).map f, ⟨some a, cap, e1, e2, e3, fun hp => ?_, fun ad had j hj => ?_⟩, e4, fun x hx => ?_⟩
      · rw [hlen] at hp
        obtain ⟨ds, hC, _, hl, hcell⟩ := hf 0 hp
        have hpos : 0 < k.sz := hsl.1
        have h0 := hcell 0 (ds[0]'(by omega)) (by simp)
        obtain ⟨bt, hbt⟩ := cell_Bt h0
        rw [add_block] at hbt
        exact ⟨a, bt, rfl, hbt, fun hF => by have := hbt.lt; simp only [Fr] at hF; omega⟩
      · injection had with had
        subst had
        rw [hlen] at hj
        obtain ⟨ds, hC, _, hl, hcell⟩ := hf j hj
        refine ⟨ds, ?_, hl, hcell⟩
        simpa using hC
      · simp only [List.mem_map, List.mem_range] at hx
        obtain ⟨i, hi, rfl⟩ := hx
        exact (hf i hi).choose_spec.2.1
  | arr n k ih =>
    intro hsl
    obtain ⟨ihA, _⟩ := ih hsl
    refine ⟨fun t fuel cs y ht hu h => ?_, fun fs o n cs g hf => by cases fs <;> simp [fieldsOk] at hf⟩
    have hTt := hT t (by rw [ht]; exact hu)
    obtain ⟨dd, hdd, hs⟩ := hTt.und
    rw [ht] at hs
    obtain ⟨e, rfl, hTe, hne⟩ := hs
    have hTy := hT e (by rw [hTe]; exact hne)
    have hce : P.cellsOf e = k.sz := by rw [cellsOf_sz hTy, hTe]
    obtain ⟨xs, m, _, hl, hxl, hxs⟩ := trod_array hdd h
    rw [cellsOf_sz hTt, ht] at hl
    rw [hce] at hxs
    have each : ∀ i, i < n → ∃ x : dn k, C W (okx (Fr W)) k x ((cs.drop (i * k.sz)).take k.sz) ∧ wfD k x := by
      intro i hi
      have hx := hxs i hi
      rw [List.getElem?_eq_getElem (by omega)] at hx
      exact ihA e m _ _ hTe hne hx
    classical
    let f : Nat → dn k := fun i => if h : i < n then Classical.choose (each i h) else dz k
    have hf : ∀ i, i < n → C W (okx (Fr W)) k (f i) ((cs.drop (i * k.sz)).take k.sz) ∧ wfD k (f i) := by
      intro i hi
      simp only [f, dif_pos hi]
      exact Classical.choose_spec (each i hi)
    refine ⟨(List.range n).map f, ⟨by simp, hl, fun j hj => ?_⟩, by simp, fun x hx => ?_⟩
    · have : j < n := by simpa using hj
      simpa using (hf j this).1
    · simp only [List.mem_map, List.mem_range] at hx
      obtain ⟨i, hi, rfl⟩ := hx
      exact (hf i hi).2
  | pr ka kb iha ihb =>
    intro hsl
    simp only [K.slp, Bool.and_eq_true] at hsl
    obtain ⟨iA, _⟩ := iha hsl.1
    obtain ⟨_, iB⟩ := ihb hsl.2
    have B : ∀ (fs : List Field) (o n : Nat) (cs : List Value) (g : Nat → Option (DataW H × List MemPlace)), fieldsOk T (.pr ka kb) fs o → o + (K.pr ka kb).sz ≤ cs.length → (∀ (i : Nat) (f : Field), fs[i]? = some f → DataW.trod enc P W 0 (fun _ => true) true n f.type ((cs.drop f.offset).take (P.cellsOf f.type)) = g i ∧ (g i).isSome = true) →
        ∃ x : dn (.pr ka kb), C W (okx (Fr W)) (.pr ka kb) x (sub cs o (K.pr ka kb).sz) ∧ wfD (.pr ka kb) x := by
      intro fs o n cs g hf hl h
      cases fs with
      | nil => simp [fieldsOk] at hf
      | cons f r =>
        obtain ⟨f1, f2, f3, f4⟩ := hf
        simp only [K.sz] at hl
        have hTy := hT f.type (by rw [f2]; intro h; rw [h] at f3; simp [K.sz] at f3)
        obtain ⟨h0, hg0⟩ := h 0 f rfl
        obtain ⟨y0, hy0⟩ := Option.isSome_iff_exists.1 hg0
        rw [hy0, f1, cellsOf_sz hTy, f2] at h0
        obtain ⟨x, hx1, hx2⟩ := iA f.type n _ _ f2 (by intro h; rw [h] at f3; simp [K.sz] at f3) h0
        obtain ⟨y, hy1, hy2⟩ := iB r (o + ka.sz) n cs (fun i => g (i + 1)) f4 (by omega) (fun i f' hf' => h (i + 1) f' (by simpa using hf'))
        refine ⟨(x, y), ⟨_, _, ?_, hx1, hy1⟩, hx2, hy2⟩
        simp only [K.sz, sub]
        rw [List.take_add, List.drop_drop]
    refine ⟨fun t fuel cs y ht hu h => ?_, B⟩
    have hTt := hT t (by rw [ht]; exact hu)
    obtain ⟨dd, hdd, hs⟩ := hTt.und
    rw [ht] at hs
    obtain ⟨fs, rfl, hfs⟩ := hs
    obtain ⟨xs, n, _, _, hl, hxl, hxs⟩ := DataW.trod_struct hdd h
    rw [cellsOf_sz hTt, ht] at hl
    obtain ⟨x, hx1, hx2⟩ := B fs.toList 0 n cs (fun i => xs[i]?) hfs (by omega) (fun i f hf => by
      have hf' : fs[i]? = some f := by simpa using hf
      refine ⟨hxs i f hf', ?_⟩
      have := (Array.getElem?_eq_some_iff.1 hf').1
      simp [hxl, this])
    refine ⟨x, ?_, hx2⟩
    rw [← hl, sub_all] at hx1
    exact hx1

/-- An argument, read as data. -/
theorem open_K (hT : TOk P T) {t : Nat} (hne : T t ≠ .un) (hsl : (T t).slp = true) {base : Nat} {v : Value} {d : DataW H} {ps : List MemPlace} (hval : Value.okWide P W .any base t v) (h : DataW.Trod enc P W 0 (fun _ => true) true t v d ps) :
    ∃ x : dn (T t), wfD (T t) x ∧ VT W (Fr W) G0 (.sc true (T t) x) v := by
  obtain ⟨fuel, hf⟩ := h
  obtain ⟨x, hx1, hx2⟩ := (trod_C hT (T t) hsl).1 t fuel _ _ rfl hne hf
  refine ⟨x, hx2, ?_⟩
  obtain ⟨dd, hdd, hs⟩ := (hT t hne).und
  cases hk : (T t).agg with
  | true =>
    have hv : ∃ cs, v = .agg cs := by
      have ha := agg_shape hs
      rw [hk] at ha
      unfold Value.okWide at hval
      rw [hdd] at hval
      cases dd <;> simp at ha <;> exact hval.imp fun cs h => h.1
    obtain ⟨cs, rfl⟩ := hv
    show (if (TV.sc true (T t) x).agg = true then _ else _)
    rw [if_pos (by simpa [TV.agg] using hk)]
    exact ⟨cs.toList, by simp, by simpa [CT, oks, Value.cells] using hx1⟩
  | false =>
    show (if (TV.sc true (T t) x).agg = true then _ else _)
    rw [if_neg (by simp [TV.agg, hk])]
    have hcs : v.cells.toList = [v] := by
      generalize hkk : T t = kk at hs hk
      cases kk with
      | int ik => simp only [shapeOk] at hs; subst hs; obtain ⟨n, rfl⟩ := okWide_int hdd hval; rfl
      | bool => simp only [shapeOk] at hs; subst hs; obtain ⟨n, rfl⟩ := okWide_bool hdd hval; rfl
      | str => simp only [shapeOk] at hs; subst hs; obtain ⟨n, rfl⟩ := okWide_string hdd hval; rfl
      | sl e k => obtain ⟨rfl, _⟩ := hs; obtain ⟨a, l, c, rfl⟩ := okWide_slice hdd hval; rfl
      | _ => simp [K.agg] at hk
    rw [hcs] at hx1
    simpa [CT, oks] using hx1

theorem Below_of {W W' : World} (h : Kept (Fr W) W W') : Below W.heap.size W W' := ⟨h.os, h.tape, h.output, h.size, fun k hk => h.block k hk (by simp only [Fr]; omega)⟩

/-- A law that answers true. -/
theorem law_true {w w' : World} {v : Value} {g : G} (h : RetOk w w' (Sh.fill ⟨[(0, .sc true .bool)], [], 0⟩ 0 (true, ())) v g) : v = .bool true := by
  have := h.res
  exact VT_bool this

end
end Go.Vm

/- The value machine, part 43: a function's contract in one step. -/
set_option linter.unusedVariables false
namespace Go.Vm

theorem fn_ok {P : Program} {T : Nat → K} {E : Nat → Option Ent} {N : An} (hT : TOk P T) (hm : P.follows .mixedOrders = true) (hE : EOk P E) {fi nt : Nat} {fn : Go.Func} {pars : List (Nat × TSh)} {rs : List Go.ResultVar} {rsh : Sh} {den : HL (tmks pars []) → Option (HL rsh.ks)}
    (hf : P.funcs[fi]? = some fn) (hn : (fn.name == "runtime.NumGoroutine") = false) (hb : fn.body.isNone = false) (hrs : fn.results.toList = rs) (hok : frameOk fn nt pars rsh = true) (hA : anOk N (fn.body.getD .skip) = true)
    (hden0 : vfun rgd T E N nt pars rs rsh (fn.body.getD .skip) = den) : Holds P fi ⟨pars, rsh, den, none⟩ ∧ Callable P fi := by
  have hden : vfun std T E N nt pars rs rsh (fn.body.getD .skip) = den := by rw [← hden0, rgd_eq]
  have hbody : fn.body = some (fn.body.getD .skip) := by
    cases h : fn.body with
    | none => rw [h] at hb; cases hb
    | some c => rfl
  exact ⟨holds_of hT hE hm (drOk hT hE) (jnOk_all hT hE) hf hbody hrs hok hA hden, fn, hf, hn, hb⟩

theorem fnH_ok {P : Program} {T : Nat → K} {E : Nat → Option Ent} {N : An} (hT : TOk P T) (hm : P.follows .mixedOrders = true) (hE : EOk P E) {fi nt nargs nres : Nat} {fx : List Nat} {fn : Go.Func} {psh rsh : Sh} {rs : List Go.ResultVar} {den : HL psh.ks → Option (HL rsh.ks)}
    (hf : P.funcs[fi]? = some fn) (hn : (fn.name == "runtime.NumGoroutine") = false) (hb : fn.body.isNone = false) (hrs : fn.results.toList = rs) (hok : frameOkH fn nt nargs nres fx = true) (hA : anOk N (fn.body.getD .skip) = true)
    (hden0 : vfunH rgd T E N nt psh nargs fx rs rsh (fn.body.getD .skip) = den) : Holds P fi ⟨[], ⟨[], [], 0⟩, fun _ => none, some ⟨psh, nargs, rsh, nres, den⟩⟩ ∧ Callable P fi := by
  have hden : vfunH std T E N nt psh nargs fx rs rsh (fn.body.getD .skip) = den := by rw [← hden0, rgd_eq]
  have hbody : fn.body = some (fn.body.getD .skip) := by
    cases h : fn.body with
    | none => rw [h] at hb; cases hb
    | some c => rfl
  refine ⟨⟨fun w args x d hx => (by cases hx), fun eh he => ?_⟩, fn, hf, hn, hb⟩
  simp only [Option.some.injEq] at he
  subst he
  exact holdsH_of hT hE hm (drOk hT hE) (jnOk_all hT hE) hf hbody hrs hok hA hden

theorem EOk_add {P : Program} {l : List (Nat × Ent)} {f : Nat} {e : Ent} (h : Holds P f e ∧ Callable P f) (hl : EOk P (lk l)) : EOk P (lk ((f, e) :: l)) := EOk_cons h.1 h.2 hl

end Go.Vm

/- The value machine, part 44: reading what is computed: the words, loops over lists. -/
set_option linter.unusedVariables false
namespace Go.Vm
section
variable {α β γ σ D : Type}

@[simp] theorem w_bnd (x : α) (f : α → β) : rgd.bnd x f = f x := by rw [rgd_eq]; rfl
@[simp] theorem w_chk (b : Bool) (k : Option β) : rgd.chk b k = if b = true then k else none := by rw [rgd_eq]; rfl
@[simp] theorem w_br (b : Bool) (x y : Option β) : rgd.br b x y = if b = true then x else y := by rw [rgd_eq]; cases b <;> rfl
@[simp] theorem w_cal (x : Option α) (f : α → Option β) : rgd.cal x f = x.bind f := by rw [rgd_eq]; rfl
@[simp] theorem w_jn (x : Option α) (f : α → Option β) : rgd.jn x f = x.bind f := by rw [rgd_eq]; rfl
@[simp] theorem w_out (x : Option β) : (rgd.out x : Option (D ⊕ β)) = x.map Sum.inr := by rw [rgd_eq]; rfl
@[simp] theorem w_lop (step : D → Option (D ⊕ β)) (d : D) : rgd.lop step d = loopW step d := by rw [rgd_eq]; rfl
theorem w_amb (x : Option β) : rgd.amb x x = x := by
  rw [rgd_eq]
  show amb x x = x
  unfold amb
  rw [if_pos rfl]

theorem ite_or (c q : Bool) : (if c = true then some true else some q) = some (c || q) := by cases c <;> rfl
theorem ite_and (c q : Bool) : (if c = true then some q else some false) = some (c && q) := by cases c <;> rfl

theorem loopF_mono {step : D → Option (D ⊕ β)} : ∀ {n m : Nat} {d : D} {r : β}, loopF step n d = some r → n ≤ m → loopF step m d = some r := by
  intro n
  induction n with
  | zero => intro m d r h; simp [loopF] at h
  | succ n ih =>
    intro m d r h hm
    obtain ⟨m, rfl⟩ : ∃ k, m = k + 1 := ⟨m - 1, by omega⟩
    simp only [loopF] at h ⊢
    split at h
    · cases h
    · exact ih h (by omega)
    · exact h

theorem loopW_of {step : D → Option (D ⊕ β)} {n : Nat} {d : D} {r : β} (h : loopF step n d = some r) : loopW step d = some r := by
  have hx : ∃ r, ∃ n, loopF step n d = some r := ⟨r, n, h⟩
  unfold loopW
  rw [dif_pos hx]
  obtain ⟨m, hm⟩ := Classical.choose_spec hx
  have h1 := loopF_mono hm (Nat.le_max_left m n)
  have h2 := loopF_mono h (Nat.le_max_right m n)
  rw [h1] at h2
  exact h2

theorem loopW_inr {step : D → Option (D ⊕ β)} {d : D} {r : β} (h : step d = some (.inr r)) : loopW step d = some r :=
  loopW_of (n := 1) (by simp [loopF, h])

theorem loopW_inl {step : D → Option (D ⊕ β)} {d d' : D} {r : β} (h : step d = some (.inl d')) (h2 : loopW step d' = some r) : loopW step d = some r := by
  obtain ⟨n, hn⟩ := loopW_some h2
  exact loopW_of (n := n + 1) (by simp only [loopF, h]; exact hn)

/-- Through a list, with a state; it may be left. -/
def runL (f : Nat → α → σ → σ ⊕ β) (fin : σ → β) : Nat → List α → σ → β
  | _, [], a => fin a
  | i, x :: r, a =>
    match f i x a with
    | .inl a' => runL f fin (i + 1) r a'
    | .inr q => q

theorem loop_run {step : D → Option (D ⊕ β)} {xs : List α} {st : Nat → σ → D} (P : Nat → σ → Prop) (f : Nat → α → σ → σ ⊕ β) (fin : σ → β)
    (hs : ∀ i (h : i < xs.length) a, P i a → (step (st i a) = some (match f i xs[i] a with | .inl a' => .inl (st (i + 1) a') | .inr q => .inr q)) ∧ ∀ a', f i xs[i] a = .inl a' → P (i + 1) a')
    (he : ∀ a, P xs.length a → step (st xs.length a) = some (.inr (fin a))) {a : σ} (h0 : P 0 a) : loopW step (st 0 a) = some (runL f fin 0 xs a) := by
  have gen : ∀ (m i : Nat) (a : σ), i + m = xs.length → P i a → loopW step (st i a) = some (runL f fin i (xs.drop i) a) := by
    intro m
    induction m with
    | zero =>
      intro i a hi hp
      have hi' : i = xs.length := by omega
      subst hi'
      rw [List.drop_length]
      exact loopW_inr (he a hp)
    | succ m ih =>
      intro i a hi hp
      have hlt : i < xs.length := by omega
      obtain ⟨h1, h2⟩ := hs i hlt a hp
      rw [List.drop_eq_getElem_cons hlt]
      simp only [runL]
      cases hf : f i xs[i] a with
      | inl a' =>
        rw [hf] at h1
        exact loopW_inl h1 (ih (i + 1) a' (by omega) (h2 a' hf))
      | inr q =>
        rw [hf] at h1
        exact loopW_inr h1
  have := gen xs.length 0 a (by omega) h0
  simpa using this

theorem loop_all {step : D → Option (D ⊕ β)} {xs : List α} {st : Nat → D} (p : α → Bool) (r0 r1 : β)
    (hs : ∀ i (h : i < xs.length), step (st i) = some (if p xs[i] = true then .inl (st (i + 1)) else .inr r0)) (he : step (st xs.length) = some (.inr r1)) :
    loopW step (st 0) = some (if xs.all p = true then r1 else r0) := by
  have := loop_run (σ := Unit) (st := fun i _ => st i) (fun _ _ => True) (fun _ x _ => if p x = true then .inl () else .inr r0) (fun _ => r1)
    (fun i h a _ => ⟨by rw [hs i h]; by_cases hp : p xs[i] = true <;> simp [hp], fun _ _ => trivial⟩) (fun _ _ => he) (a := ()) trivial
  rw [this]
  congr 1
  have gen : ∀ (xs : List α) (i : Nat), runL (σ := Unit) (β := β) (fun _ x _ => if p x = true then .inl () else .inr r0) (fun _ => r1) i xs () = if xs.all p = true then r1 else r0 := by
    intro xs
    induction xs with
    | nil => intro i; simp [runL]
    | cons x xs ih =>
      intro i
      simp only [runL, List.all_cons, Bool.and_eq_true]
      by_cases hp : p x = true
      · simp [hp, ih]
      · simp [hp]
  exact gen xs 0

theorem loop_map {step : D → Option (D ⊕ β)} {xs : List α} {F : α → γ} {st : Nat → List γ → D} {fin : List γ → β} {a0 : List γ} (hl : a0.length = xs.length)
    (hs : ∀ i (h : i < xs.length) (a : List γ), a.length = xs.length → step (st i a) = some (.inl (st (i + 1) (a.set i (F xs[i]))))) (he : ∀ a : List γ, a.length = xs.length → step (st xs.length a) = some (.inr (fin a))) :
    loopW step (st 0 a0) = some (fin (xs.map F)) := by
  have gen : ∀ (m i : Nat) (a : List γ), i + m = xs.length → a.length = xs.length → (∀ j, j < i → a[j]? = (xs.map F)[j]?) → loopW step (st i a) = some (fin (xs.map F)) := by
    intro m
    induction m with
    | zero =>
      intro i a hi hla hj
      have hi' : i = xs.length := by omega
      subst hi'
      have : a = xs.map F := by
        apply List.ext_getElem?
        intro j
        by_cases h : j < xs.length
        · exact hj j h
        · rw [List.getElem?_eq_none (by omega), List.getElem?_eq_none (by simp; omega)]
      subst this
      exact loopW_inr (he _ hla)
    | succ m ih =>
      intro i a hi hla hj
      have hlt : i < xs.length := by omega
      refine loopW_inl (hs i hlt a hla) (ih (i + 1) _ (by omega) (by simpa using hla) fun j hj' => ?_)
      by_cases h : j = i
      · subst h; simp [hlt, hla]
      · rw [List.getElem?_set_ne (fun e => h e.symm)]
        exact hj j (by omega)
  exact gen xs.length 0 a0 (by omega) hl (fun j h => by omega)

theorem wrap64 {n : Int} (h1 : -9223372036854775808 ≤ n) (h2 : n ≤ 9223372036854775807) : Go.IntKind.wrap .i64 n = n := by
  have e1 : (2 ^ 64 : Int) = 18446744073709551616 := by decide
  have e2 : (2 ^ (64 - 1) : Int) = 9223372036854775808 := by decide
  simp only [Go.IntKind.wrap, Go.IntKind.bits, Go.IntKind.signed, Bool.true_and, decide_eq_true_eq, e1, e2]
  by_cases h : n % 18446744073709551616 ≥ 9223372036854775808
  · rw [if_pos h]; omega
  · rw [if_neg h]; omega

theorem getD_in {xs : List α} {i : Nat} {d : α} (h : i < xs.length) : xs.getD i d = xs[i] := by simp [h]

theorem wf64 {n : Int} : wfD (.int .i64) n ↔ -9223372036854775808 ≤ n ∧ n ≤ 9223372036854775807 := by
  simp [wfD, Lit.wf, Go.IntKind.min, Go.IntKind.max, Go.IntKind.signed, Go.IntKind.bits]
end
end Go.Vm
