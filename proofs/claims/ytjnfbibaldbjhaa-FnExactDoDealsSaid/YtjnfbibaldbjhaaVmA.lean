/- The value machine, joined: what is proved here holds for every loaded program; no condition but those that each theorem states. -/
import Derived.Laws.AppendOwn
import Derived.Laws.OwnMore
import Derived.Laws.MakeOwn
import Derived.Orders
import Derived.Laws.Strings
import Derived.Laws.StructEq
/- The value machine, part 1: kinds of Go's data, what cells say of them (read; owned), and how that is kept while memory turns. -/
set_option linter.unusedVariables false
set_option linter.unusedSimpArgs false
namespace Go.Vm

inductive K where
  | int (k : IntKind)
  | bool
  | str
  | sl (e : Nat) (k : K)
  | arr (n : Nat) (k : K)
  | pr (a b : K)
  | un
  deriving DecidableEq, Inhabited

@[reducible] def dn : K → Type
  | .int _ => Int
  | .bool => Bool
  | .str => ByteArray
  | .sl _ k => List (dn k)
  | .arr _ k => List (dn k)
  | .pr a b => dn a × dn b
  | .un => Unit

def K.sz : K → Nat
  | .int _ | .bool | .str | .sl _ _ => 1
  | .arr n k => n * k.sz
  | .pr a b => a.sz + b.sz
  | .un => 0

/-- No slice inside. -/
def K.flat : K → Bool
  | .int _ | .bool | .str | .un => true
  | .sl _ _ => false
  | .arr _ k => k.flat
  | .pr a b => a.flat && b.flat

/-- A block of cells of type bt lies at b. -/
def Bt (w : World) (b bt : Nat) : Prop := ∃ cur fr, w.heap[b]? = some (.cells cur bt fr)

/-- Cells that can be read as a datum. ok: what is asked of each block that is come to: its number, its type, the element type as the slice's own type tells it. -/
def C (w : World) (ok : Nat → Nat → Nat → Prop) : (k : K) → dn k → List Value → Prop
  | .int ik, x, cs => cs = [.int ik x]
  | .bool, x, cs => cs = [.bool x]
  | .str, x, cs => cs = [.string x]
  | .sl e k, xs, cs => ∃ (A : Option Addr) (c : Nat), cs = [.slice A (List.length xs) c] ∧ List.length xs ≤ c ∧ List.length xs ≤ 9223372036854775807 ∧
      (0 < List.length xs → ∃ ad bt, A = some ad ∧ Bt w ad.block bt ∧ ok ad.block bt e) ∧
      ∀ ad, A = some ad → ∀ j (h : j < List.length xs), ∃ ds, C w ok k (xs[j]) ds ∧ ds.length = k.sz ∧ ∀ i u, ds[i]? = some u → w.cell? (ad.add (j * k.sz + i)) = some u
  | .arr n k, xs, cs => List.length xs = n ∧ cs.length = n * k.sz ∧ ∀ j (h : j < List.length xs), C w ok k (xs[j]) ((cs.drop (j * k.sz)).take k.sz)
  | .pr a b, x, cs => ∃ c1 c2, cs = c1 ++ c2 ∧ C w ok a x.1 c1 ∧ C w ok b x.2 c2
  | .un, _, cs => cs = []

theorem C_len {w : World} {ok : Nat → Nat → Nat → Prop} : ∀ {k : K} {x : dn k} {cs : List Value}, C w ok k x cs → cs.length = k.sz := by
  intro k
  induction k with
  | int ik => intro x cs h; simp only [C] at h; simp [h, K.sz]
  | bool => intro x cs h; simp only [C] at h; simp [h, K.sz]
  | str => intro x cs h; simp only [C] at h; simp [h, K.sz]
  | sl e k ih => intro x cs h; obtain ⟨A, c, h, _⟩ := h; simp [h, K.sz]
  | arr n k ih => intro x cs h; exact h.2.1
  | pr a b iha ihb =>
    intro x cs h
    obtain ⟨c1, c2, rfl, h1, h2⟩ := h
    simp [K.sz, iha h1, ihb h2]
  | un => intro x cs h; simp only [C] at h; simp [h, K.sz]

theorem add_block (a : Addr) (n : Nat) : (a.add n).block = a.block := by unfold Addr.add; split <;> rfl

/-- What is read stays as it is where the blocks that are come to stay; what is asked of them may be asked less strictly. -/
theorem C_imp {w w' : World} {ok ok' : Nat → Nat → Nat → Prop} (H : ∀ b bt e, ok b bt e → Bt w b bt → w'.heap[b]? = w.heap[b]? ∧ ok' b bt e) :
    ∀ {k : K} {x : dn k} {cs : List Value}, C w ok k x cs → C w' ok' k x cs := by
  intro k
  induction k with
  | int ik => intro x cs h; exact h
  | bool => intro x cs h; exact h
  | str => intro x cs h; exact h
  | sl e k ih =>
    intro xs cs h
    obtain ⟨A, c, rfl, h1, h2, h3, h4⟩ := h
    refine ⟨A, c, rfl, h1, h2, ?_, ?_⟩
    · intro hp
      obtain ⟨ad, bt, rfl, hbt, hok⟩ := h3 hp
      obtain ⟨he, hok'⟩ := H _ _ _ hok hbt
      exact ⟨ad, bt, rfl, by obtain ⟨cur, fr, hc⟩ := hbt; exact ⟨cur, fr, he.trans hc⟩, hok'⟩
    · intro ad hA j hj
      obtain ⟨ds, hd, hl, hc⟩ := h4 ad hA j hj
      obtain ⟨ad', bt, hA', hbt, hok⟩ := h3 (by omega)
      rw [hA] at hA'
      injection hA' with hA'
      subst hA'
      obtain ⟨he, hok'⟩ := H _ _ _ hok hbt
      refine ⟨ds, ih hd, hl, fun i u hu => ?_⟩
      rw [World.cell?_of_block (w := w) (by rw [add_block]; exact he)]
      exact hc i u hu
  | arr n k ih =>
    intro xs cs h
    exact ⟨h.1, h.2.1, fun j hj => ih (h.2.2 j hj)⟩
  | pr a b iha ihb =>
    intro x cs h
    obtain ⟨c1, c2, rfl, h1, h2⟩ := h
    exact ⟨c1, c2, rfl, iha h1, ihb h2⟩
  | un => intro x cs h; exact h

/-- A list that is owned: its whole block, from its head on; R: what is asked of an element (its cells, its footprint). A slice without room owns nothing. -/
def OL (w : World) (e sz : Nat) {α : Type} (R : α → List Value → (Nat → Prop) → Prop) (xs : List α) (v : Value) (fp : Nat → Prop) : Prop :=
  (xs = [] ∧ (∃ A, v = .slice A 0 0) ∧ ∀ b, ¬ fp b) ∨
  ∃ (g cap : Nat) (cur : Array Value) (f : Nat → Nat → Prop) (ds : Nat → List Value), v = .slice (some ⟨g, 0, none⟩) xs.length cap ∧ w.heap[g]? = some (.cells cur e (0, 0)) ∧
    xs.length ≤ cap ∧ cap ≤ 9223372036854775807 ∧ cur.size = cap * sz ∧
    (∀ j (h : j < xs.length), R xs[j] (ds j) (f j) ∧ (ds j).length = sz ∧ ∀ i, i < sz → cur[j * sz + i]? = (ds j)[i]?) ∧
    (∀ j j', j < xs.length → j' < xs.length → j ≠ j' → ∀ b, f j b → f j' b → False) ∧ (∀ j, j < xs.length → ¬ f j g) ∧
    ∀ b, fp b ↔ b = g ∨ ∃ j, j < xs.length ∧ f j b

/-- Cells whose memory is owned, with its footprint. -/
def O (w : World) : (k : K) → dn k → List Value → (Nat → Prop) → Prop
  | .int ik, x, cs, fp => cs = [.int ik x] ∧ ∀ b, ¬ fp b
  | .bool, x, cs, fp => cs = [.bool x] ∧ ∀ b, ¬ fp b
  | .str, x, cs, fp => cs = [.string x] ∧ ∀ b, ¬ fp b
  | .sl e k, xs, cs, fp => ∃ v, cs = [v] ∧ OL w e k.sz (O w k) xs v fp
  | .arr n k, xs, cs, fp => C w (fun _ _ _ => False) (.arr n k) xs cs ∧ ∀ b, ¬ fp b
  | .pr a b, x, cs, fp => ∃ c1 c2 f1 f2, cs = c1 ++ c2 ∧ O w a x.1 c1 f1 ∧ O w b x.2 c2 f2 ∧ (∀ i, f1 i → f2 i → False) ∧ ∀ i, fp i ↔ f1 i ∨ f2 i
  | .un, _, cs, fp => cs = [] ∧ ∀ b, ¬ fp b

theorem OL_imp {w w' : World} {e sz : Nat} {α : Type} {R R' : α → List Value → (Nat → Prop) → Prop} {xs : List α} {v : Value} {fp : Nat → Prop}
    (hb : ∀ b, fp b → w'.heap[b]? = w.heap[b]?) (hR : ∀ x ∈ xs, ∀ cs f, (∀ b, f b → fp b) → R x cs f → R' x cs f) (h : OL w e sz R xs v fp) : OL w' e sz R' xs v fp := by
  rcases h with h | ⟨g, cap, cur, f, ds, hv, hg, h1, h2, h3, h4, h5, h6, h7⟩
  · exact .inl h
  · refine .inr ⟨g, cap, cur, f, ds, hv, by rw [hb g ((h7 g).2 (.inl rfl))]; exact hg, h1, h2, h3, fun j hj => ?_, h5, h6, h7⟩
    obtain ⟨a, b, c⟩ := h4 j hj
    exact ⟨hR _ (List.getElem_mem hj) _ _ (fun b hfb => (h7 b).2 (.inr ⟨j, hj, hfb⟩)) a, b, c⟩

theorem O_len {w : World} : ∀ {k : K} {x : dn k} {cs : List Value} {fp : Nat → Prop}, O w k x cs fp → cs.length = k.sz := by
  intro k
  induction k with
  | int ik => intro x cs fp h; simp only [O] at h; simp [h.1, K.sz]
  | bool => intro x cs fp h; simp only [O] at h; simp [h.1, K.sz]
  | str => intro x cs fp h; simp only [O] at h; simp [h.1, K.sz]
  | sl e k ih => intro x cs fp h; obtain ⟨v, h, _⟩ := h; simp [h, K.sz]
  | arr n k ih => intro x cs fp h; exact h.1.2.1
  | pr a b iha ihb =>
    intro x cs fp h
    obtain ⟨c1, c2, f1, f2, rfl, h1, h2, _⟩ := h
    simp [K.sz, iha h1, ihb h2]
  | un => intro x cs fp h; simp only [O] at h; simp [h.1, K.sz]

theorem O_move {w w' : World} : ∀ {k : K} {x : dn k} {cs : List Value} {fp : Nat → Prop}, (∀ b, fp b → w'.heap[b]? = w.heap[b]?) → O w k x cs fp → O w' k x cs fp := by
  intro k
  induction k with
  | int ik => intro x cs fp hb h; exact h
  | bool => intro x cs fp hb h; exact h
  | str => intro x cs fp hb h; exact h
  | sl e k ih =>
    intro x cs fp hb h
    obtain ⟨v, rfl, h⟩ := h
    exact ⟨v, rfl, OL_imp hb (fun x _ cs f hf hR => ih (fun b hfb => hb b (hf b hfb)) hR) h⟩
  | arr n k ih =>
    intro x cs fp hb h
    exact ⟨C_imp (fun b bt e hf _ => hf.elim) h.1, h.2⟩
  | pr a b iha ihb =>
    intro x cs fp hb h
    obtain ⟨c1, c2, f1, f2, rfl, h1, h2, h3, h4⟩ := h
    exact ⟨c1, c2, f1, f2, rfl, iha (fun i hi => hb i ((h4 i).2 (.inl hi))) h1, ihb (fun i hi => hb i ((h4 i).2 (.inr hi))) h2, h3, h4⟩
  | un => intro x cs fp hb h; exact h

theorem add_plain (g j : Nat) : (⟨g, 0, none⟩ : Addr).add j = ⟨g, j, none⟩ := by unfold Addr.add; split <;> simp_all

/-- What is owned can be read. -/
theorem OL_C {w : World} {ok : Nat → Nat → Nat → Prop} {e : Nat} {k : K} {R : dn k → List Value → (Nat → Prop) → Prop} {xs : List (dn k)} {v : Value} {fp : Nat → Prop}
    (hok : ∀ b, fp b → Bt w b e → ok b e e) (hR : ∀ x ∈ xs, ∀ cs f, (∀ b, f b → fp b) → R x cs f → C w ok k x cs) (h : OL w e k.sz R xs v fp) : C w ok (.sl e k) xs [v] := by
  rcases h with ⟨rfl, ⟨A, rfl⟩, h3⟩ | ⟨g, cap, cur, f, ds, rfl, hg, h1, h2, h3, h4, h5, h6, h7⟩
  · exact ⟨A, 0, rfl, Nat.le_refl _, by simp, fun h => absurd h (by simp), fun ad _ j hj => absurd hj (by simp)⟩
  · refine ⟨some ⟨g, 0, none⟩, cap, rfl, h1, by omega, fun _ => ⟨_, e, rfl, ⟨cur, _, hg⟩, hok g ((h7 g).2 (.inl rfl)) ⟨cur, _, hg⟩⟩, fun ad hA j hj => ?_⟩
    injection hA with hA
    subst hA
    obtain ⟨a, b, c⟩ := h4 j hj
    refine ⟨ds j, hR _ (List.getElem_mem hj) _ _ (fun b hfb => (h7 b).2 (.inr ⟨j, hj, hfb⟩)) a, b, fun i u hu => ?_⟩
    rw [add_plain, cell_of_row w g _ cur e (0, 0) hg, c i (by have := (List.getElem?_eq_some_iff.1 hu).1; omega)]
    exact hu

theorem O_C {w : World} {ok : Nat → Nat → Nat → Prop} : ∀ {k : K} {x : dn k} {cs : List Value} {fp : Nat → Prop}, (∀ b e, fp b → Bt w b e → ok b e e) → O w k x cs fp → C w ok k x cs := by
  intro k
  induction k with
  | int ik => intro x cs fp hb h; exact h.1
  | bool => intro x cs fp hb h; exact h.1
  | str => intro x cs fp hb h; exact h.1
  | sl e k ih =>
    intro x cs fp hb h
    obtain ⟨v, rfl, h⟩ := h
    exact OL_C (fun b hf hbt => hb b e hf hbt) (fun x _ cs f hf hR => ih (fun b e hfb => hb b e (hf b hfb)) hR) h
  | arr n k ih => intro x cs fp hb h; exact C_imp (fun b bt e hf _ => hf.elim) h.1
  | pr a b iha ihb =>
    intro x cs fp hb h
    obtain ⟨c1, c2, f1, f2, rfl, h1, h2, h3, h4⟩ := h
    exact ⟨c1, c2, rfl, iha (fun i e hi => hb i e ((h4 i).2 (.inl hi))) h1, ihb (fun i e hi => hb i e ((h4 i).2 (.inr hi))) h2⟩
  | un => intro x cs fp hb h; exact h.1

/-- A kind without slices leads to no block. -/
theorem C_flat {w w' : World} {ok ok' : Nat → Nat → Nat → Prop} : ∀ {k : K} {x : dn k} {cs : List Value}, k.flat = true → C w ok k x cs → C w' ok' k x cs := by
  intro k
  induction k with
  | int ik => intro x cs hf h; exact h
  | bool => intro x cs hf h; exact h
  | str => intro x cs hf h; exact h
  | sl e k ih => intro x cs hf h; simp [K.flat] at hf
  | arr n k ih => intro x cs hf h; exact ⟨h.1, h.2.1, fun j hj => ih hf (h.2.2 j hj)⟩
  | pr a b iha ihb =>
    intro x cs hf h
    simp only [K.flat, Bool.and_eq_true] at hf
    obtain ⟨c1, c2, rfl, h1, h2⟩ := h
    exact ⟨c1, c2, rfl, iha hf.1 h1, ihb hf.2 h2⟩
  | un => intro x cs hf h; exact h

theorem O_of_flat {w : World} {ok : Nat → Nat → Nat → Prop} : ∀ {k : K} {x : dn k} {cs : List Value}, k.flat = true → C w ok k x cs → O w k x cs (fun _ => False) := by
  intro k
  induction k with
  | int ik => intro x cs hf h; exact ⟨h, fun _ h => h⟩
  | bool => intro x cs hf h; exact ⟨h, fun _ h => h⟩
  | str => intro x cs hf h; exact ⟨h, fun _ h => h⟩
  | sl e k ih => intro x cs hf h; simp [K.flat] at hf
  | arr n k ih => intro x cs hf h; exact ⟨C_flat hf h, fun _ h => h⟩
  | pr a b iha ihb =>
    intro x cs hf h
    simp only [K.flat, Bool.and_eq_true] at hf
    obtain ⟨c1, c2, rfl, h1, h2⟩ := h
    exact ⟨c1, c2, _, _, rfl, iha hf.1 h1, ihb hf.2 h2, fun _ h _ => h, fun _ => ⟨fun h => .inl h, fun h => h.elim id id⟩⟩
  | un => intro x cs hf h; exact ⟨h, fun _ h => h⟩

/-- The element types of the slices inside. -/
def K.hasT (e : Nat) : K → Bool
  | .sl e' k => (e == e') || k.hasT e
  | .arr _ k => k.hasT e
  | .pr a b => a.hasT e || b.hasT e
  | _ => false

/-- What is asked may be asked together with 'the level is one of the kind's'. -/
theorem C_lvl {w : World} {ok : Nat → Nat → Nat → Prop} : ∀ {k : K} {x : dn k} {cs : List Value}, C w ok k x cs → C w (fun b bt e => ok b bt e ∧ k.hasT e = true) k x cs := by
  intro k
  induction k with
  | int ik => intro x cs h; exact h
  | bool => intro x cs h; exact h
  | str => intro x cs h; exact h
  | sl e k ih =>
    intro x cs h
    obtain ⟨A, c, rfl, h1, h2, h3, h4⟩ := h
    refine ⟨A, c, rfl, h1, h2, fun hp => ?_, fun ad hA j hj => ?_⟩
    · obtain ⟨ad, bt, rfl, hbt, hok⟩ := h3 hp
      exact ⟨ad, bt, rfl, hbt, hok, by simp [K.hasT]⟩
    · obtain ⟨ds, hd, hl, hc⟩ := h4 ad hA j hj
      refine ⟨ds, C_imp (fun b bt e' hok hbt => ⟨rfl, hok.1, by simp [K.hasT, hok.2]⟩) (ih hd), hl, hc⟩
  | arr n k ih =>
    intro x cs h
    exact ⟨h.1, h.2.1, fun j hj => C_imp (fun b bt e' hok hbt => ⟨rfl, hok.1, hok.2⟩) (ih (h.2.2 j hj))⟩
  | pr a b iha ihb =>
    intro x cs h
    obtain ⟨c1, c2, rfl, h1, h2⟩ := h
    exact ⟨c1, c2, rfl, C_imp (fun b bt e' hok hbt => ⟨rfl, hok.1, by simp [K.hasT, hok.2]⟩) (iha h1), C_imp (fun b bt e' hok hbt => ⟨rfl, hok.1, by simp [K.hasT, hok.2]⟩) (ihb h2)⟩
  | un => intro x cs h; exact h

theorem OL_bt {w : World} {e sz : Nat} {α : Type} {R : α → List Value → (Nat → Prop) → Prop} {xs : List α} {v : Value} {fp : Nat → Prop}
    (hR : ∀ x ∈ xs, ∀ cs f, R x cs f → ∀ b, f b → ∃ bt, Bt w b bt) (h : OL w e sz R xs v fp) : ∀ b, fp b → ∃ bt, Bt w b bt := by
  intro b hb
  rcases h with ⟨_, _, h⟩ | ⟨g, cap, cur, f, ds, hv, hg, h1, h2, h3, h4, h5, h6, h7⟩
  · exact (h b hb).elim
  · rcases (h7 b).1 hb with rfl | ⟨j, hj, hf⟩
    · exact ⟨e, cur, _, hg⟩
    · exact hR _ (List.getElem_mem hj) _ _ (h4 j hj).1 b hf

theorem O_bt {w : World} : ∀ {k : K} {x : dn k} {cs : List Value} {fp : Nat → Prop}, O w k x cs fp → ∀ b, fp b → ∃ bt, Bt w b bt := by
  intro k
  induction k with
  | int ik => intro x cs fp h b hb; exact (h.2 b hb).elim
  | bool => intro x cs fp h b hb; exact (h.2 b hb).elim
  | str => intro x cs fp h b hb; exact (h.2 b hb).elim
  | sl e k ih =>
    intro x cs fp h
    obtain ⟨v, rfl, h⟩ := h
    exact OL_bt (fun x _ cs f hR => ih hR) h
  | arr n k ih => intro x cs fp h b hb; exact (h.2 b hb).elim
  | pr a b iha ihb =>
    intro x cs fp h i hi
    obtain ⟨c1, c2, f1, f2, rfl, h1, h2, h3, h4⟩ := h
    rcases (h4 i).1 hi with h | h
    · exact iha h1 i h
    · exact ihb h2 i h
  | un => intro x cs fp h b hb; exact (h.2 b hb).elim

end Go.Vm

/- The value machine, part 2: what a slot of a frame may hold, as the machine tells it; the state of a frame; the operations that make a value. -/
set_option linter.unusedVariables false
set_option linter.unusedSimpArgs false
namespace Go.Vm

/-- A step into a datum: field f, o cells on; element i of an array of m, of st cells each. -/
inductive Stp where
  | fld (f o : Nat)
  | ix (i st m : Nat)
  deriving Inhabited

def pOff : List Stp → Nat
  | [] => 0
  | .fld _ o :: r => o + pOff r
  | .ix i st _ :: r => i * st + pOff r

/-- The indices of a path lie in their arrays. -/
def pOk : List Stp → Prop
  | [] => True
  | .fld _ _ :: r => pOk r
  | .ix i _ m :: r => i < m ∧ pOk r

inductive TV where
  | dead (m : Nat)
  | sc (ext : Bool) (k : K) (x : dn k)
  | al (n : Nat)
  | inn (n i st : Nat) (path : List Stp) (e : Nat) (k : K)
  | z
  | pr (a b : TV)
  | un
  | bp (n : Nat) (path : List Stp)
  | ep (n i st : Nat) (path : List Stp)
  | cp (ext : Bool) (e : Nat) (k : K) (x : dn k)
  | fn (f : Nat) (caps : TV)
  | tc (a b : TV)
  | tn

instance : Inhabited TV := ⟨.dead 1⟩

inductive Obj where
  | bx (v : TV)
  | ls (e : Nat) (k : K) (deep : Bool) (xs : List (dn k))

structure St where
  nt : Nat
  tm : List (Nat × TV)
  ob : List (Nat × Obj)
  nx : Nat
  /-- slots that are not written -/
  fx : List Nat := []

def lk {α : Type} : List (Nat × α) → Nat → Option α
  | [], _ => none
  | (m, a) :: r, n => if n = m then some a else lk r n

def del {α : Type} (n : Nat) : List (Nat × α) → List (Nat × α)
  | [] => []
  | (m, a) :: r => if n = m then del n r else (m, a) :: del n r

def dz : (k : K) → dn k
  | .int _ => (0 : Int)
  | .bool => false
  | .str => ByteArray.empty
  | .sl _ _ => []
  | .arr n k => List.replicate n (dz k)
  | .pr a b => (dz a, dz b)
  | .un => ()

def K.agg : K → Bool
  | .arr _ _ | .pr _ _ | .un => true
  | _ => false

def TV.sz : TV → Nat
  | .dead m => m
  | .sc _ k _ => k.sz
  | .pr a b => a.sz + b.sz
  | .un => 0
  | _ => 1

def TV.agg : TV → Bool
  | .sc _ k _ => k.agg
  | .pr _ _ | .un => true
  | _ => false

/-- The value that stands for zero of a kind. -/
def zT : K → TV
  | .sl _ _ => .z
  | .pr a b => .pr (zT a) (zT b)
  | .un => .un
  | k => .sc true k (dz k)

/-! #### Into data -/
def fldD : (k : K) → Nat → dn k → Option ((k' : K) × dn k')
  | .pr a _, 0, x => some ⟨a, x.1⟩
  | .pr _ b, f + 1, x => fldD b f x.2
  | _, _, _ => none
def fldO : K → Nat → Option (Nat × K)
  | .pr a _, 0 => some (0, a)
  | .pr a b, f + 1 => (fldO b f).map fun p => (a.sz + p.1, p.2)
  | _, _ => none
def navD : (k : K) → List Stp → dn k → Option ((k' : K) × dn k')
  | k, [], x => some ⟨k, x⟩
  | k, .fld f o :: r, x =>
    match fldO k f with
    | some p => if p.1 = o then (fldD k f x).bind fun y => navD y.1 r y.2 else none
    | none => none
  | .arr n k, .ix i st m :: r, x => if st = k.sz ∧ m = n ∧ k.flat = true then navD k r ((x : List (dn k)).getD i (dz k)) else none
  | _, .ix _ _ _ :: _, _ => none
def updF : (k : K) → Nat → dn k → ((k' : K) → dn k' → Option (dn k')) → Option (dn k)
  | .pr a _, 0, x, u => (u a x.1).map fun y => (y, x.2)
  | .pr _ b, f + 1, x, u => (updF b f x.2 u).map fun y => (x.1, y)
  | _, _, _, _ => none
def setD (kn : K) (xn : dn kn) : List Stp → (k : K) → dn k → Option (dn k)
  | [], k, _ => if h : kn = k then some (h ▸ xn) else none
  | .fld f o :: r, k, x =>
    match fldO k f with
    | some p => if p.1 = o then updF k f x (fun k' x' => setD kn xn r k' x') else none
    | none => none
  | .ix i st m :: r, .arr n k, x => if st = k.sz ∧ m = n ∧ k.flat = true then (setD kn xn r k ((x : List (dn k)).getD i (dz k))).map fun y => (x : List (dn k)).set i y else none
  | .ix _ _ _ :: _, _, _ => none

/-! #### Into a slot's value -/
def split : TV → Option (TV × TV)
  | .pr a b => some (a, b)
  | .sc e (.pr a b) x => some (.sc (e || a.flat) a x.1, .sc e b x.2)
  | _ => none
def fldT : Nat → TV → Option (Nat × TV)
  | 0, v => (split v).map fun p => (0, p.1)
  | f + 1, v => (split v).bind fun p => (fldT f p.2).map fun q => (p.1.sz + q.1, q.2)
def getP : List Stp → TV → Option TV
  | [], v => some v
  | .fld f o :: r, v => (fldT f v).bind fun p => if p.1 = o then getP r p.2 else none
  | .ix i st m :: r, .sc e (.arr n k) x => if st = k.sz ∧ m = n then getP r (.sc e k ((x : List (dn k)).getD i (dz k))) else none
  | .ix _ _ _ :: _, _ => none
def setF : Nat → TV → (TV → Option TV) → Option (Nat × TV)
  | 0, v, u => (split v).bind fun p => (u p.1).map fun y => (0, .pr y p.2)
  | f + 1, v, u => (split v).bind fun p => (setF f p.2 u).map fun q => (p.1.sz + q.1, .pr p.1 q.2)
/-- What may be put into a cell of a variable. -/
def TV.cellish : TV → Bool
  | .tc _ _ | .tn => false
  | .pr a b => a.cellish && b.cellish
  | _ => true
def setP (nv : TV) : List Stp → TV → Option TV
  | [], v => if nv.sz = v.sz ∧ nv.cellish = true then some nv else none
  | .fld f o :: r, v => (setF f v (setP nv r)).bind fun p => if p.1 = o then some p.2 else none
  | .ix i st m :: r, .sc e (.arr n k) x =>
    if st = k.sz ∧ m = n ∧ k.flat = true then
      match setP nv r (.sc e k ((x : List (dn k)).getD i (dz k))) with
      | some (.sc _ k' y) => if h : k' = k then some (.sc e (.arr n k) ((x : List (dn k)).set i (h ▸ y))) else none
      | _ => none
    else none
  | .ix _ _ _ :: _, _ => none

/-- The value read out of an owned row's element: slices inside are told by where they lie. ch: where in a chain of fields this kind begins. -/
def expK (n i st : Nat) : (k : K) → List Stp → Option (Nat × Nat) → dn k → TV
  | .pr a b, path, none, x => .pr (expK n i st a (path ++ [.fld 0 0]) none x.1) (expK n i st b path (some (1, a.sz)) x.2)
  | .pr a b, path, some c, x => .pr (expK n i st a (path ++ [.fld c.1 c.2]) none x.1) (expK n i st b path (some (c.1 + 1, c.2 + a.sz)) x.2)
  | .sl e k, path, none, _ => .inn n i st path e k
  | .sl _ _, _, some _, _ => .dead 1
  | .un, _, _, _ => .un
  | .int k, _, _, x => .sc true (.int k) x
  | .bool, _, _, x => .sc true .bool x
  | .str, _, _, x => .sc true .str x
  | .arr m k, _, _, x => .sc false (.arr m k) x
def expT (deep : Bool) (n i st : Nat) (path : List Stp) (k : K) (x : dn k) : TV :=
  if k.flat then .sc true k x else if deep then expK n i st k path none x else .sc false k x

def TV.nms (N : Nat → Prop) : TV → Prop
  | .al n | .inn n _ _ _ _ _ | .bp n _ | .ep n _ _ _ => N n
  | .pr a b | .tc a b => a.nms N ∧ b.nms N
  | .fn _ c => c.nms N
  | _ => True
def Obj.nms (N : Nat → Prop) : Obj → Prop
  | .bx v => v.nms N
  | .ls .. => True

/-- May rows of the element types E turn beneath it? I: may what lies in an owned row be told by its place. -/
def TV.safe (E : Nat → Prop) (I : Prop) : TV → Prop
  | .sc false k _ => ∀ e, k.hasT e = true → ¬ E e
  | .cp false e k _ => ¬ E e ∧ ∀ e', k.hasT e' = true → ¬ E e'
  | .inn .. => I
  | .pr a b | .tc a b => a.safe E I ∧ b.safe E I
  | .fn _ c => c.safe E I
  | _ => True
def Obj.safe (E : Nat → Prop) (I : Prop) : Obj → Prop
  | .bx v => v.safe E I
  | .ls _ k deep _ => deep = true ∨ ∀ e, k.hasT e = true → ¬ E e

theorem TV.safe_none : ∀ v : TV, v.safe (fun _ => False) True := by
  intro v
  induction v with
  | sc ext k x => cases ext <;> simp [TV.safe]
  | cp ext e k x => cases ext <;> simp [TV.safe]
  | pr a b iha ihb => exact ⟨iha, ihb⟩
  | tc a b iha ihb => exact ⟨iha, ihb⟩
  | fn f c ih => exact ih
  | _ => simp [TV.safe]
theorem Obj.safe_none (o : Obj) : o.safe (fun _ => False) True := by
  cases o with
  | bx v => exact v.safe_none
  | ls e k deep xs => exact .inr fun _ _ h => h
theorem TV.nms_mono {N N' : Nat → Prop} (h : ∀ n, N n → N' n) : ∀ {v : TV}, v.nms N → v.nms N' := by
  intro v
  induction v with
  | pr a b iha ihb => exact fun k => ⟨iha k.1, ihb k.2⟩
  | tc a b iha ihb => exact fun k => ⟨iha k.1, ihb k.2⟩
  | fn f c ih => exact ih
  | al n => exact h _
  | inn n => exact h _
  | bp n => exact h _
  | ep n => exact h _
  | _ => exact fun _ => trivial
theorem Obj.nms_mono {N N' : Nat → Prop} (h : ∀ n, N n → N' n) {o : Obj} (k : o.nms N) : o.nms N' := by
  cases o with
  | bx v => exact TV.nms_mono h k
  | ls e k' deep xs => trivial

end Go.Vm

/- The value machine, part 3: what a state says of the machine's frame and memory. -/
set_option linter.unusedVariables false
set_option linter.unusedSimpArgs false
namespace Go.Vm

/-- What stands behind the names: the header (or address) of each object, its footprint; which blocks are variables'. -/
structure G where
  hd : Nat → Value
  fp : Nat → Nat → Prop
  Bx : Nat → Prop

def okx (F : Nat → Prop) : Nat → Nat → Nat → Prop := fun b _ _ => ¬ F b
def okt (F Bx : Nat → Prop) : Nat → Nat → Nat → Prop := fun b bt e => ¬ F b ∨ (bt = e ∧ ¬ Bx b)
def oks (F Bx : Nat → Prop) (ext : Bool) : Nat → Nat → Nat → Prop := if ext then okx F else okt F Bx

/-- Cells that are as a slot's value tells. -/
def CT (w : World) (F : Nat → Prop) (g : G) : TV → List Value → Prop
  | .dead m, cs => cs.length = m ∧ ∀ u ∈ cs, u.oneCell' = true
  | .sc ext k x, cs => C w (oks F g.Bx ext) k x cs
  | .al n, cs => cs = [g.hd n] ∧ ∃ A m c, g.hd n = .slice A m c
  | .inn n i st path _ _, cs => ∃ a m c v, g.hd n = .slice (some ⟨a, 0, none⟩) m c ∧ cs = [v] ∧ (∃ A m' c', v = .slice A m' c') ∧ ¬ g.Bx a ∧ (i < m ∧ pOk path) ∧ w.cell? ⟨a, i * st + pOff path, none⟩ = some v
  | .z, cs => ∃ A, cs = [.slice A 0 0]
  | .pr a b, cs => ∃ c1 c2, cs = c1 ++ c2 ∧ CT w F g a c1 ∧ CT w F g b c2
  | .un, cs => cs = []
  | .bp n path, cs => ∃ a, g.hd n = .pointer (some ⟨a, 0, none⟩) ∧ pOk path ∧ cs = [.pointer (some ⟨a, pOff path, none⟩)]
  | .ep n i st path, cs => ∃ a m c, g.hd n = .slice (some ⟨a, 0, none⟩) m c ∧ (i < m ∧ pOk path) ∧ cs = [.pointer (some ⟨a, i * st + pOff path, none⟩)]
  | .cp ext e k x, cs => ∃ ad bt ds, cs = [.pointer (some ad)] ∧ Bt w ad.block bt ∧ oks F g.Bx ext ad.block bt e ∧ C w (oks F g.Bx ext) k x ds ∧ ∀ j u, ds[j]? = some u → w.cell? (ad.add j) = some u
  | .fn f caps, cs => ∃ vs, cs = [.func (.func f) #[] vs.toArray] ∧ CT w F g caps vs
  | .tc _ _, _ => False
  | .tn, _ => False

/-- A value that is as a slot's value tells. -/
def VT (w : World) (F : Nat → Prop) (g : G) : TV → Value → Prop
  | .dead _, _ => True
  | .tc a b, v => ∃ v1 vs, v = .tuple (v1 :: vs).toArray ∧ VT w F g a v1 ∧ VT w F g b (.tuple vs.toArray)
  | .tn, v => v = .tuple #[]
  | tv, v => if tv.agg then ∃ cs, v = .agg cs.toArray ∧ CT w F g tv cs else CT w F g tv [v]

/-- An element of an owned row: owned itself, or only read. -/
def LR (w : World) (F : Nat → Prop) (g : G) (deep : Bool) (k : K) : dn k → List Value → (Nat → Prop) → Prop :=
  fun x cs f => if deep then O w k x cs f else C w (okt F g.Bx) k x cs ∧ ∀ b, ¬ f b

def OR (w : World) (F : Nat → Prop) (g : G) (n : Nat) : Obj → Prop
  | .bx v => ∃ a T cur, g.hd n = .pointer (some ⟨a, 0, none⟩) ∧ w.heap[a]? = some (.cells cur T (0, 0)) ∧ CT w F g v cur.toList ∧ (∀ b, g.fp n b ↔ b = a) ∧ g.Bx a
  | .ls e k deep xs => OL w e k.sz (LR w F g deep k) xs (g.hd n) (g.fp n) ∧ ∀ b, g.fp n b → ¬ g.Bx b

/-- What has become of the world that the call began in: blocks outside of F are as they were. -/
structure Kept (F : Nat → Prop) (w w' : World) : Prop where
  os : w'.os = w.os
  tape : w'.tape = w.tape
  output : w'.output = w.output
  size : w.heap.size ≤ w'.heap.size
  block : ∀ b, b < w.heap.size → ¬ F b → w'.heap[b]? = w.heap[b]?

/-- The world that the call began in, its arguments. -/
structure W0 where
  w : World
  ar : Nat → Option Value

structure Inv (F : Nat → Prop) (w0 : W0) (N : Nat → Prop) (s : St) (a : Act) (w : World) (g : G) : Prop where
  ob : ∀ n o, lk s.ob n = some o → OR w F g n o
  dis : ∀ n m o p b, lk s.ob n = some o → lk s.ob m = some p → n ≠ m → g.fp n b → g.fp m b → False
  inF : ∀ n o b, lk s.ob n = some o → g.fp n b → F b
  bxF : ∀ b, g.Bx b → b < w.heap.size
  tm : ∀ t v, lk s.tm t = some v → ∃ u, a.tmps[t]? = some u ∧ VT w F g v u
  nmT : ∀ t v, lk s.tm t = some v → v.nms N
  nmO : ∀ n o, lk s.ob n = some o → N n ∧ o.nms N
  nt : s.nt = a.tmps.size
  df : a.defers = [] ∧ ∀ t, s.fx.contains t = true → a.tmps[t]? = w0.ar t
  big : ∀ b, w0.w.heap.size ≤ b → F b
  kept : Kept F w0.w w

theorem Kept.refl (F : Nat → Prop) (w : World) : Kept F w w := ⟨rfl, rfl, rfl, Nat.le_refl _, fun _ _ _ => rfl⟩
theorem Kept.trans {F : Nat → Prop} {w w1 w2 : World} (h : Kept F w w1) (k : Kept F w1 w2) : Kept F w w2 :=
  ⟨k.os.trans h.os, k.tape.trans h.tape, k.output.trans h.output, Nat.le_trans h.size k.size, fun b hb hF => (k.block b (Nat.lt_of_lt_of_le hb h.size) hF).trans (h.block b hb hF)⟩

/-- A block that holds an object lies in the heap. -/
theorem Bt.lt {w : World} {b bt : Nat} (h : Bt w b bt) : b < w.heap.size := by
  obtain ⟨cur, fr, h⟩ := h
  exact (Array.getElem?_eq_some_iff.1 h).1

/-- How a world may turn beneath what a slot tells. X: the blocks that may have turned; E: the element types of those of them that are rows; N: the names that keep their meaning. -/
structure Turn (X : Nat → Prop) (E : Nat → Prop) (I : Prop) (N : Nat → Prop) (F : Nat → Prop) (g g' : G) (w w' : World) : Prop where
  blk : ∀ b, b < w.heap.size → ¬ X b → w'.heap[b]? = w.heap[b]?
  XF : ∀ b, X b → F b
  ty : ∀ b bt, X b → ¬ g.Bx b → Bt w b bt → E bt
  inn : I → ∀ b, X b → g.Bx b
  bx : ∀ b, b < w.heap.size → (g'.Bx b ↔ g.Bx b)
  hd : ∀ n, N n → g'.hd n = g.hd n

section
variable {X E : Nat → Prop} {I : Prop} {N F : Nat → Prop} {g g' : G} {w w' : World}

theorem oks_turn (t : Turn X E I N F g g' w w') {ext : Bool} {b bt e : Nat} (he : ext = false → ¬ E e) (hok : oks F g.Bx ext b bt e) (hbt : Bt w b bt) :
    w'.heap[b]? = w.heap[b]? ∧ oks F g'.Bx ext b bt e := by
  cases ext with
  | true =>
    simp only [oks, if_true, okx] at hok ⊢
    exact ⟨t.blk b hbt.lt (fun hx => hok (t.XF b hx)), hok⟩
  | false =>
    simp only [oks, okt, Bool.false_eq_true, if_false] at hok ⊢
    refine ⟨t.blk b hbt.lt (fun hx => ?_), ?_⟩
    · rcases hok with h | ⟨rfl, h⟩
      · exact h (t.XF b hx)
      · exact he rfl (t.ty b bt hx h hbt)
    · rcases hok with h | h
      · exact .inl h
      · exact .inr ⟨h.1, fun hb => h.2 ((t.bx b hbt.lt).1 hb)⟩

theorem C_turn (t : Turn X E I N F g g' w w') {ext : Bool} {k : K} {x : dn k} {cs : List Value} (he : ext = false → ∀ e, k.hasT e = true → ¬ E e)
    (h : C w (oks F g.Bx ext) k x cs) : C w' (oks F g'.Bx ext) k x cs :=
  C_imp (fun _ _ e hok hbt => oks_turn t (fun hx => he hx e hok.2) hok.1 hbt) (C_lvl h)

theorem cell_turn {b j : Nat} {v : Value} (hb : w'.heap[b]? = w.heap[b]?) (h : w.cell? ⟨b, j, none⟩ = some v) : w'.cell? ⟨b, j, none⟩ = some v :=
  (World.cell?_of_block (w := w) hb).trans h

theorem Bt.turn {b bt : Nat} (h : Bt w b bt) (hb : w'.heap[b]? = w.heap[b]?) : Bt w' b bt := by
  obtain ⟨cur, fr, h⟩ := h
  exact ⟨cur, fr, hb.trans h⟩

theorem CT_turn (t : Turn X E I N F g g' w w') : ∀ {v : TV} {cs : List Value}, v.nms N → v.safe E I → CT w F g v cs → CT w' F g' v cs := by
  intro v
  induction v with
  | dead m => exact fun _ _ h => h
  | sc ext k x =>
    intro cs _ hs h
    exact C_turn t (fun hx => by subst hx; exact hs) h
  | al n => intro cs hn _ h; simp only [CT] at h ⊢; rw [t.hd n hn]; exact h
  | inn n i st path e k =>
    intro cs hn hs h
    obtain ⟨a, m, c, v, h1, h2, h2', h3, hi, h4⟩ := h
    have hlt := World.block_lt_of_cell? w _ h4
    exact ⟨a, m, c, v, (t.hd n hn).trans h1, h2, h2', fun hb => h3 ((t.bx a hlt).1 hb), hi, cell_turn (t.blk a hlt fun hx => h3 (t.inn hs a hx)) h4⟩
  | z => exact fun _ _ h => h
  | pr a b iha ihb =>
    intro cs hn hs h
    obtain ⟨c1, c2, rfl, h1, h2⟩ := h
    exact ⟨c1, c2, rfl, iha hn.1 hs.1 h1, ihb hn.2 hs.2 h2⟩
  | un => exact fun _ _ h => h
  | bp n path =>
    intro cs hn _ h
    obtain ⟨a, h1, h2⟩ := h
    exact ⟨a, (t.hd n hn).trans h1, h2⟩
  | ep n i st path =>
    intro cs hn _ h
    obtain ⟨a, m, c, h1, hi, h2⟩ := h
    exact ⟨a, m, c, (t.hd n hn).trans h1, hi, h2⟩
  | cp ext e k x =>
    intro cs _ hs h
    obtain ⟨ad, bt, ds, h1, h2, h3, h4, h5⟩ := h
    obtain ⟨hb, ho⟩ := oks_turn t (ext := ext) (fun hx => by subst hx; exact hs.1) h3 h2
    refine ⟨ad, bt, ds, h1, h2.turn hb, ho, C_turn t (fun hx => by subst hx; exact hs.2) h4, fun j u hu => ?_⟩
    exact (World.cell?_of_block (w := w) (by rw [add_block]; exact hb)).trans (h5 j u hu)
  | fn f caps ih =>
    intro cs hn hs h
    obtain ⟨vs, h1, h2⟩ := h
    exact ⟨vs, h1, ih hn hs h2⟩
  | tc a b => exact fun _ _ h => h
  | tn => exact fun _ _ h => h

theorem VT_turn (t : Turn X E I N F g g' w w') : ∀ {v : TV} {u : Value}, v.nms N → v.safe E I → VT w F g v u → VT w' F g' v u := by
  intro v
  have gen : ∀ {v : TV} {u : Value}, v.nms N → v.safe E I → (if v.agg then ∃ cs, u = .agg cs.toArray ∧ CT w F g v cs else CT w F g v [u]) →
      (if v.agg then ∃ cs, u = .agg cs.toArray ∧ CT w' F g' v cs else CT w' F g' v [u]) := by
    intro v u hn hs h
    split at h
    · rename_i hag
      rw [if_pos hag]
      obtain ⟨cs, h1, h2⟩ := h
      exact ⟨cs, h1, CT_turn t hn hs h2⟩
    · rename_i hag
      rw [if_neg hag]
      exact CT_turn t hn hs h
  induction v with
  | tc a b iha ihb =>
    intro u hn hs h
    obtain ⟨v1, vs, h1, h2, h3⟩ := h
    exact ⟨v1, vs, h1, iha hn.1 hs.1 h2, ihb hn.2 hs.2 h3⟩
  | tn => exact fun _ _ h => h
  | dead m => exact fun _ _ h => h
  | _ => intro u hn hs h; exact gen (v := _) hn hs h

theorem OR_turn (t : Turn X E I N F g g' w w') {n : Nat} {o : Obj} (hn : N n) (hm : o.nms N) (hs : o.safe E I) (hX : ∀ b, g.fp n b → ¬ X b) (hfp : ∀ b, g'.fp n b ↔ g.fp n b) (h : OR w F g n o) : OR w' F g' n o := by
  cases o with
  | bx v =>
    obtain ⟨a, T, cur, h1, h2, h3, h4, h5⟩ := h
    have hlt : a < w.heap.size := (Array.getElem?_eq_some_iff.1 h2).1
    exact ⟨a, T, cur, (t.hd n hn).trans h1, (t.blk a hlt (hX a ((h4 a).2 rfl))).trans h2, CT_turn t hm hs h3, fun b => (hfp b).trans (h4 b), (t.bx a hlt).2 h5⟩
  | ls e k deep xs =>
    obtain ⟨h1, h2⟩ := h
    have hfe : g'.fp n = g.fp n := funext fun b => propext (hfp b)
    have hbt : ∀ b, g.fp n b → ∃ bt, Bt w b bt := by
      refine OL_bt (fun x _ cs f hR b hb => ?_) h1
      cases deep with
      | true => exact O_bt (by simpa [LR] using hR) b hb
      | false => simp only [LR, Bool.false_eq_true, if_false] at hR; exact (hR.2 b hb).elim
    have hlt : ∀ b, g.fp n b → b < w.heap.size := fun b hb => (hbt b hb).elim fun _ h => h.lt
    refine ⟨?_, fun b hb hx => h2 b ((hfp b).1 hb) ((t.bx b (hlt b ((hfp b).1 hb))).1 hx)⟩
    rw [hfe, t.hd n hn]
    refine OL_imp (fun b hb => t.blk b (hlt b hb) (hX b hb)) (fun x _ cs f hf hR => ?_) h1
    cases deep with
    | true =>
      simp only [LR, if_true] at hR ⊢
      exact O_move (fun b hfb => t.blk b (hlt b (hf b hfb)) (hX b (hf b hfb))) hR
    | false =>
      simp only [LR, Bool.false_eq_true, if_false] at hR ⊢
      have hs' : ∀ e, k.hasT e = true → ¬ E e := by
        rcases hs with h | h
        · cases h
        · exact h
      have hc := C_turn (ext := false) t (fun _ => hs') (show C w (oks F g.Bx false) k x cs by simpa [oks] using hR.1)
      exact ⟨by simpa [oks] using hc, hR.2⟩
end

end Go.Vm

/- The value machine, part 4: what an operation that makes a value does to a state. -/
set_option linter.unusedVariables false
set_option linter.unusedSimpArgs false
namespace Go.Vm

def LIM : Int := 1073741824

/-- What an operation makes: may it (else the code panics, or we do not know), its value, the objects that it lays. -/
structure Out where
  ok : Bool
  v : TV
  nw : Option Obj

def cv : Value → Option TV
  | .int k n => some (.sc true (.int k) n)
  | .bool b => some (.sc false .bool b)
  | .string s => some (.sc true .str s)
  | .slice none 0 0 => some .z
  | .pointer none => some (.dead 1)
  | _ => none

def evo (lt : Nat → Option TV) : Operand → Option TV
  | .tmp t => lt t
  | .const v => cv v
  | .func f => some (.fn f .un)
  | .global _ => none

/-- The byte at i of a string, as a number. -/
def bt (s : ByteArray) (i : Nat) : Int := if h : i < s.size then ((s[i]'h).toNat : Int) else 0

def bitop (op : BinOp) (k : IntKind) (x y : Int) : Option Int :=
  let a := BitVec.ofInt k.bits x
  let b := BitVec.ofInt k.bits y
  match op with
  | .and => some (k.wrap (a &&& b).toNat)
  | .or => some (k.wrap (a ||| b).toNat)
  | .xor => some (k.wrap (a ^^^ b).toNat)
  | .andNot => some (k.wrap (a &&& ~~~b).toNat)
  | _ => none

def vint (op : BinOp) (k : IntKind) (x y : Int) : Option Out :=
  match op with
  | .add => some ⟨true, .sc true (.int k) (k.wrap (x + y)), none⟩
  | .sub => some ⟨true, .sc true (.int k) (k.wrap (x - y)), none⟩
  | .mul => some ⟨true, .sc true (.int k) (k.wrap (x * y)), none⟩
  | .quo => some ⟨decide (y ≠ 0), .sc true (.int k) (k.wrap (x.tdiv y)), none⟩
  | .rem => some ⟨decide (y ≠ 0), .sc true (.int k) (x.tmod y), none⟩
  | .eql => some ⟨true, .sc true .bool (decide (x = y)), none⟩
  | .neq => some ⟨true, .sc true .bool (decide (x ≠ y)), none⟩
  | .lss => some ⟨true, .sc true .bool (decide (x < y)), none⟩
  | .leq => some ⟨true, .sc true .bool (decide (x ≤ y)), none⟩
  | .gtr => some ⟨true, .sc true .bool (decide (x > y)), none⟩
  | .geq => some ⟨true, .sc true .bool (decide (x ≥ y)), none⟩
  | .shl | .shr => none
  | op => (bitop op k x y).map fun r => ⟨true, .sc true (.int k) r, none⟩

def vshift (op : BinOp) (k : IntKind) (x y : Int) : Option Out :=
  match op with
  | .shl => some ⟨decide (0 ≤ y), .sc true (.int k) (k.wrap (x * 2 ^ min y.toNat k.bits)), none⟩
  | .shr => some ⟨decide (0 ≤ y), .sc true (.int k) (x.fdiv (2 ^ min y.toNat k.bits)), none⟩
  | _ => none

def vstr (op : BinOp) (x y : ByteArray) : Option Out :=
  match op with
  | .add => some ⟨decide ((x.size : Int) + y.size ≤ 4611686018427387904), .sc true .str (x ++ y), none⟩
  | .eql => some ⟨true, .sc true .bool (decide (x = y)), none⟩
  | .neq => some ⟨true, .sc true .bool (!decide (x = y)), none⟩
  | .lss => some ⟨true, .sc true .bool (Op.bytesLess x.toList y.toList), none⟩
  | _ => none

def vbool (op : BinOp) (x y : Bool) : Option Out :=
  match op with
  | .eql => some ⟨true, .sc true .bool (x == y), none⟩
  | .neq => some ⟨true, .sc true .bool (!(x == y)), none⟩
  | _ => none

def isShift : BinOp → Bool
  | .shl | .shr => true
  | _ => false

def vbin (T : Nat → K) (op : BinOp) (t : Nat) : TV → TV → Option Out
  | .sc _ (.int k1) x, .sc _ (.int k2) y =>
    if isShift op then vshift op k1 x y else if k1 = k2 then vint op k1 x y else none
  | .sc _ .str x, .sc _ .str y => vstr op x y
  | .sc _ .bool x, .sc _ .bool y => if T t = .bool then vbool op x y else none
  | _, _ => none

/-- The content of a slice, of a given kind. -/
def lst (lo : Nat → Option Obj) (e : Nat) (k : K) : TV → Option (List (dn k))
  | .al n =>
    match lo n with
    | some (.ls e' k' _ xs) => if h : e' = e ∧ k' = k then some (h.2 ▸ xs) else none
    | _ => none
  | .sc _ (.sl e' k') xs => if h : e' = e ∧ k' = k then some (h.2 ▸ xs) else none
  | .inn n i st path _ _ =>
    match lo n with
    | some (.ls _ k0 _ xs) =>
      if st = k0.sz then
        match navD k0 path (xs.getD i (dz k0)) with
        | some ⟨.sl e' k', ys⟩ => if h : e' = e ∧ k' = k then some (h.2 ▸ ys) else none
        | _ => none
      else none
    | _ => none
  | .z => some []
  | _ => none

def asI : TV → Option Int
  | .sc _ (.int _) x => some x
  | _ => none

/-- The address of x[i]. -/
def vidx (T : Nat → K) (lo : Nat → Option Obj) (t : Nat) (v : TV) (i : Int) : Option Out :=
  match T t with
  | .sl e k =>
    match v with
    | .al n => (lst lo e k (.al n)).map fun xs => ⟨decide (0 ≤ i ∧ i < xs.length), .ep n i.toNat k.sz [], none⟩
    | .sc ext (.sl e' k') xs => (lst lo e k (.sc ext (.sl e' k') xs)).map fun xs => ⟨decide (0 ≤ i ∧ i < xs.length), .cp ext e k (xs.getD i.toNat (dz k)), none⟩
    | .inn n j st path e' k' => (lst lo e k (.inn n j st path e' k')).map fun xs => ⟨decide (0 ≤ i ∧ i < xs.length), .cp false e k (xs.getD i.toNat (dz k)), none⟩
    | _ => none
  | .arr m k =>
    match v with
    | .bp n path => some ⟨decide (0 ≤ i ∧ i < (m : Int)), .bp n (path ++ [.ix i.toNat k.sz m]), none⟩
    | .ep n j st path => some ⟨decide (0 ≤ i ∧ i < (m : Int)), .ep n j st (path ++ [.ix i.toNat k.sz m]), none⟩
    | .cp ext e (.arr m' k') x => if h : m' = m ∧ k' = k then some ⟨decide (0 ≤ i ∧ i < (m : Int)), .cp ext e k ((h.2 ▸ x : List (dn k)).getD i.toNat (dz k)), none⟩ else none
    | _ => none
  | _ => none

def vload (T : Nat → K) (lo : Nat → Option Obj) (t : Nat) : TV → Option TV
  | .bp n path =>
    match lo n with
    | some (.bx c) => (getP path c).bind fun r => if r.sz = (T t).sz ∧ r.agg = (T t).agg then some r else none
    | _ => none
  | .ep n i st path =>
    match lo n with
    | some (.ls _ k deep xs) =>
      if st = k.sz then (navD k path (xs.getD i (dz k))).bind fun y => if y.1 = T t then some (expT deep n i st path y.1 y.2) else none else none
    | _ => none
  | .cp ext e k x => if k = T t then some (.sc (ext || k.flat) k x) else none
  | _ => none

def vfld (T : Nat → K) (s f : Nat) : TV → Option TV
  | .bp n path => (fldO (T s) f).map fun p => .bp n (path ++ [.fld f p.1])
  | .ep n i st path => (fldO (T s) f).map fun p => .ep n i st (path ++ [.fld f p.1])
  | .cp ext e k x => if k = T s then (fldD k f x).map fun y => .cp ext e y.1 y.2 else none
  | _ => none

def nth : TV → Nat → Option TV
  | .tc a _, 0 => some a
  | .tc _ b, i + 1 => nth b i
  | _, _ => none

def sameOp : Operand → Operand → Bool
  | .tmp a, .tmp b => a == b
  | .const (.int k a), .const (.int k' b) => k == k' && a == b
  | _, _ => false

def vlen (lo : Nat → Option Obj) : K → TV → Option Int
  | .str, .sc _ .str s => some s.size
  | .sl e k, v => (lst lo e k v).map fun xs => (xs.length : Int)
  | _, _ => none

def setFs : TV → List (Nat × TV) → Option TV
  | v, [] => some v
  | v, (f, x) :: r => (setF f v (setP x [])).bind fun p => setFs p.2 r

def live : TV → Bool
  | .dead _ | .tc _ _ | .tn => false
  | _ => true

/-- Data of a kind without slices. -/
def flatD (k : K) : TV → Option (dn k)
  | .sc _ k' x => if h : k' = k then if k.flat then some (h ▸ x) else none else none
  | .pr a b =>
    match k with
    | .pr ka kb => (flatD ka a).bind fun x => (flatD kb b).map fun y => (x, y)
    | _ => none
  | .un =>
    match k with
    | .un => some ()
    | _ => none
  | _ => none

def flatDs (k : K) : List TV → Option (List (dn k))
  | [] => some []
  | v :: r => (flatD k v).bind fun x => (flatDs k r).map fun xs => x :: xs

def evs (lt : Nat → Option TV) : List (Nat × Operand) → Option (List (Nat × TV))
  | [] => some []
  | (i, x) :: r => (evo lt x).bind fun v => (evs lt r).map fun vs => (i, v) :: vs

/-- Are the parts numbered 0, 1, ..? -/
def inOrd : Nat → List (Nat × TV) → Bool
  | _, [] => true
  | i, (j, _) :: r => i == j && inOrd (i + 1) r

def caps (lt : Nat → Option TV) : List Operand → Option TV
  | [] => some .un
  | x :: r => (evo lt x).bind fun v => if live v = true ∧ v.agg = false then (caps lt r).map fun vs => .pr v vs else none

def one (v : Option TV) : Option Out := v.map fun v => ⟨true, v, none⟩

def vpure (T : Nat → K) (lt : Nat → Option TV) (lo : Nat → Option Obj) (base : Nat) (op : Op) : Option Out :=
  match op with
  | .move x | .assign x => one (evo lt x)
  | .alloc t => if T t = .un then none else some ⟨true, .bp base [], some (.bx (zT (T t)))⟩
  | .box t x => (evo lt x).bind fun v => if v.sz = (T t).sz ∧ live v = true ∧ T t ≠ .un then some ⟨true, .bp base [], some (.bx v)⟩ else none
  | .load t p => if T t = .un then none else (evo lt p).bind fun v => one (vload T lo t v)
  | .fieldAddr s p f => (evo lt p).bind fun v => one (vfld T s f v)
  | .indexAddr t x ix => (evo lt x).bind fun v => (evo lt ix).bind fun i => (asI i).bind fun i => vidx T lo t v i
  | .nilCheck x => (evo lt x).bind fun v =>
    match v with
    | .bp .. | .ep .. | .cp .. | .fn .. => some ⟨true, v, none⟩
    | _ => none
  | .binOp op t x y _ => (evo lt x).bind fun a => (evo lt y).bind fun b => vbin T op t a b
  | .unOp .not _ x => (evo lt x).bind fun a =>
    match a with
    | .sc _ .bool b => some ⟨true, .sc true .bool (!b), none⟩
    | _ => none
  | .unOp .neg _ x => (evo lt x).bind fun a =>
    match a with
    | .sc _ (.int k) n => some ⟨true, .sc true (.int k) (k.wrap (0 - n)), none⟩
    | _ => none
  | .convert s d x => if T s = .un then none else (evo lt x).bind fun a =>
    match a, T d with
    | .sc _ (.int _) n, .int k => some ⟨true, .sc true (.int k) (k.wrap n), none⟩
    | _, _ => none
  | .extract x i => (evo lt x).bind fun v => one (nth v i)
  | .index t x ix => (evo lt x).bind fun v => (evo lt ix).bind fun i => (asI i).bind fun i =>
    match T t, v with
    | .str, .sc _ .str s => some ⟨decide (0 ≤ i ∧ i < s.size), .sc true (.int .u8) (bt s i.toNat), none⟩
    | _, _ => none
  | .makeSlice t l c =>
    if sameOp l c then (evo lt l).bind fun l => (asI l).bind fun l =>
      match T t with
      | .sl e k => some ⟨decide (0 ≤ l ∧ l ≤ LIM), .al base, some (.ls e k true (List.replicate l.toNat (dz k)))⟩
      | _ => none
    else none
  | .buildSlice t len parts => (evs lt parts.toList).bind fun vs =>
    match T t with
    | .sl e k => if len = vs.length ∧ inOrd 0 vs = true ∧ len ≤ 4096 ∧ k.sz ≤ 4096 then (flatDs k (vs.map (·.2))).map fun xs => ⟨true, .al base, some (.ls e k true xs)⟩ else none
    | _ => none
  | .build t parts => (evs lt parts.toList).bind fun vs =>
    match T t with
    | .pr a b => if (vs.all fun q => live q.2) = true then one (setFs (zT (.pr a b)) vs) else none
    | .arr n k => if vs.isEmpty then one (some (zT (.arr n k))) else none
    | _ => none
  | .makeFunc (.func f) first captured => if first.isEmpty then one ((caps lt captured.toList).map fun c => .fn f c) else none
  | .call { callee := .builtin .len, args, argTypes } =>
    match args.toList, argTypes.toList with
    | [x], [t] => (evo lt x).bind fun v => (vlen lo (T t) v).map fun n => ⟨true, .sc true (.int .i64) n, none⟩
    | _, _ => none
  | _ => none

end Go.Vm

/- The value machine, part 5: the ways into data and into slots' values, and the cells that lie there. -/
set_option linter.unusedVariables false
set_option linter.unusedSimpArgs false
namespace Go.Vm

def sub (cs : List Value) (o n : Nat) : List Value := (cs.drop o).take n

theorem sub_all (cs : List Value) : sub cs 0 cs.length = cs := by simp [sub]
theorem sub_sub (cs : List Value) (o n o' m : Nat) (h : (sub (sub cs o n) o' m).length = m) : sub (sub cs o n) o' m = sub cs (o + o') m := by
  simp only [sub, List.length_take, List.length_drop] at h ⊢
  rw [List.drop_take, List.take_take, List.drop_drop]
  congr 1
  omega
theorem sub_left (c1 c2 : List Value) (n : Nat) (h : c1.length = n) : sub (c1 ++ c2) 0 n = c1 := by subst h; simp [sub]
theorem sub_right (c1 c2 : List Value) (n o m : Nat) (h : c1.length = n) : sub (c1 ++ c2) (n + o) m = sub c2 o m := by
  subst h
  have h0 : List.drop (c1.length + o) c1 = [] := List.drop_eq_nil_of_le (by omega)
  simp [sub, List.drop_append, h0]
theorem sub_get (cs : List Value) (o n j : Nat) (hj : j < n) : (sub cs o n)[j]? = cs[o + j]? := by
  simp [sub, List.getElem?_take, hj, List.getElem?_drop]
theorem sub_right0 (c1 c2 : List Value) (n m : Nat) (h : c1.length = n) (h2 : c2.length = m) : sub (c1 ++ c2) n m = c2 := by
  have := sub_right c1 c2 n 0 m h
  rw [Nat.add_zero] at this
  rw [this]
  subst h2
  simp [sub]

variable {w : World} {F : Nat → Prop} {g : G} {ok : Nat → Nat → Nat → Prop}

theorem CT_len : ∀ {v : TV} {cs : List Value}, CT w F g v cs → cs.length = v.sz := by
  intro v
  induction v with
  | dead m => intro cs h; exact h.1
  | sc ext k x => intro cs h; exact C_len h
  | al n => intro cs h; simp [h.1, TV.sz]
  | inn n i st path e k => intro cs h; obtain ⟨_, _, _, _, _, rfl, _⟩ := h; simp [TV.sz]
  | z => intro cs h; obtain ⟨_, rfl⟩ := h; simp [TV.sz]
  | pr a b iha ihb => intro cs h; obtain ⟨c1, c2, rfl, h1, h2⟩ := h; simp [TV.sz, iha h1, ihb h2]
  | un => intro cs h; simp only [CT] at h; simp [h, TV.sz]
  | bp n path => intro cs h; obtain ⟨_, _, _, rfl⟩ := h; simp [TV.sz]
  | ep n i st path => intro cs h; obtain ⟨_, _, _, _, _, rfl⟩ := h; simp [TV.sz]
  | cp ext e k x => intro cs h; obtain ⟨_, _, _, rfl, _⟩ := h; simp [TV.sz]
  | fn f caps ih => intro cs h; obtain ⟨_, rfl, _⟩ := h; simp [TV.sz]
  | tc a b => intro cs h; exact h.elim
  | tn => intro cs h; exact h.elim

theorem C_or {ext : Bool} {k : K} {x : dn k} {cs : List Value} (h : C w (oks F g.Bx ext) k x cs) : C w (oks F g.Bx (ext || k.flat)) k x cs := by
  cases hk : k.flat with
  | true => exact C_flat hk h
  | false => rw [Bool.or_false]; exact h

theorem split_CT {v a b : TV} {cs : List Value} (h : CT w F g v cs) (hs : split v = some (a, b)) : ∃ c1 c2, cs = c1 ++ c2 ∧ CT w F g a c1 ∧ CT w F g b c2 := by
  cases v with
  | pr a' b' => simp only [split, Option.some.injEq, Prod.mk.injEq] at hs; obtain ⟨rfl, rfl⟩ := hs; exact h
  | sc ext k x =>
    cases k with
    | pr ka kb => simp only [split, Option.some.injEq, Prod.mk.injEq] at hs; obtain ⟨rfl, rfl⟩ := hs; obtain ⟨c1, c2, h0, h1, h2⟩ := h; exact ⟨c1, c2, h0, C_or h1, h2⟩
    | _ => simp [split] at hs
  | _ => simp [split] at hs

theorem fldT_CT : ∀ {f : Nat} {v r : TV} {o : Nat} {cs : List Value}, CT w F g v cs → fldT f v = some (o, r) → CT w F g r (sub cs o r.sz) := by
  intro f
  induction f with
  | zero =>
    intro v r o cs h hf
    simp only [fldT, Option.map_eq_some_iff] at hf
    obtain ⟨⟨a, b⟩, hs, he⟩ := hf
    simp only [Prod.mk.injEq] at he
    obtain ⟨rfl, rfl⟩ := he
    obtain ⟨c1, c2, rfl, h1, h2⟩ := split_CT h hs
    rw [sub_left _ _ _ (CT_len h1)]
    exact h1
  | succ f ih =>
    intro v r o cs h hf
    simp only [fldT, Option.bind_eq_some_iff, Option.map_eq_some_iff] at hf
    obtain ⟨⟨a, b⟩, hs, ⟨o', r'⟩, hf, he⟩ := hf
    simp only [Prod.mk.injEq] at he
    obtain ⟨rfl, rfl⟩ := he
    obtain ⟨c1, c2, rfl, h1, h2⟩ := split_CT h hs
    rw [sub_right _ _ _ _ _ (CT_len h1)]
    exact ih h2 hf

theorem getD_lt {α : Type} (xs : List α) (i : Nat) (d : α) (h : i < xs.length) : xs.getD i d = xs[i] := by
  simp [List.getD_eq_getElem?_getD, h]

theorem getP_CT : ∀ {path : List Stp} {v r : TV} {cs : List Value}, CT w F g v cs → getP path v = some r → pOk path → CT w F g r (sub cs (pOff path) r.sz) := by
  intro path
  induction path with
  | nil =>
    intro v r cs h hg _
    simp only [getP, Option.some.injEq] at hg
    subst hg
    rw [pOff, ← CT_len h, sub_all]
    exact h
  | cons s path ih =>
    intro v r cs h hg hp
    cases s with
    | fld f o =>
      simp only [getP, Option.bind_eq_some_iff] at hg
      obtain ⟨⟨o', r'⟩, hf, hg⟩ := hg
      split at hg
      · rename_i he
        simp only at he hg
        subst he
        have h1 := fldT_CT h hf
        have h2 := ih h1 hg hp
        rw [pOff]
        rw [sub_sub _ _ _ _ _ (CT_len h2)] at h2
        exact h2
      · cases hg
    | ix i st m =>
      cases v with
      | sc ext k x =>
        cases k with
        | arr n k =>
          simp only [getP] at hg
          split at hg
          · rename_i he
            obtain ⟨rfl, rfl⟩ := he
            have hlt : i < List.length x := by rw [h.1]; exact hp.1
            rw [getD_lt _ _ _ hlt] at hg
            have h1 : CT w F g (.sc ext k x[i]) (sub cs (i * k.sz) k.sz) := h.2.2 i hlt
            have h2 := ih h1 hg hp.2
            rw [sub_sub _ _ _ _ _ (CT_len h2)] at h2
            rw [pOff]
            exact h2
          · cases hg
        | _ => simp [getP] at hg
      | _ => simp [getP] at hg

theorem fld_C : ∀ {k : K} {f : Nat} {x : dn k} {cs : List Value} {o : Nat} {k' k'' : K} {y : dn k''}, C w ok k x cs → fldO k f = some (o, k') → fldD k f x = some ⟨k'', y⟩ →
    k'' = k' ∧ C w ok k'' y (sub cs o k''.sz) := by
  intro k
  induction k with
  | pr a b iha ihb =>
    intro f x cs o k' k'' y h ho hd
    obtain ⟨c1, c2, rfl, h1, h2⟩ := h
    cases f with
    | zero =>
      simp only [fldO, Option.some.injEq, Prod.mk.injEq] at ho
      simp only [fldD, Option.some.injEq, Sigma.mk.injEq] at hd
      obtain ⟨rfl, rfl⟩ := ho
      obtain ⟨rfl, hd⟩ := hd
      cases hd
      rw [sub_left _ _ _ (C_len h1)]
      exact ⟨rfl, h1⟩
    | succ f =>
      simp only [fldO, Option.map_eq_some_iff] at ho
      obtain ⟨⟨o', k1⟩, ho, he⟩ := ho
      simp only [Prod.mk.injEq] at he
      obtain ⟨rfl, rfl⟩ := he
      obtain ⟨hk, hc⟩ := ihb h2 ho hd
      rw [sub_right _ _ _ _ _ (C_len h1)]
      exact ⟨hk, hc⟩
  | _ => intro f x cs o k' k'' y h ho hd; simp [fldO] at ho

theorem nav_C : ∀ {path : List Stp} {k k' : K} {x : dn k} {y : dn k'} {cs : List Value}, C w ok k x cs → navD k path x = some ⟨k', y⟩ → pOk path → C w ok k' y (sub cs (pOff path) k'.sz) := by
  intro path
  induction path with
  | nil =>
    intro k k' x y cs h hn _
    simp only [navD, Option.some.injEq, Sigma.mk.injEq] at hn
    obtain ⟨rfl, hn⟩ := hn
    cases hn
    rw [pOff, ← C_len h, sub_all]
    exact h
  | cons s path ih =>
    intro k k' x y cs h hn hp
    cases s with
    | fld f o =>
      simp only [navD] at hn
      cases hf : fldO k f with
      | none => rw [hf] at hn; cases hn
      | some p =>
        obtain ⟨o', k1⟩ := p
        rw [hf] at hn
        simp only at hn
        split at hn
        · rename_i he
          simp only [Option.bind_eq_some_iff] at hn
          obtain ⟨⟨k2, x2⟩, hd, hn⟩ := hn
          obtain ⟨hk, hc⟩ := fld_C h hf hd
          have h2 := ih hc hn hp
          rw [sub_sub _ _ _ _ _ (C_len h2)] at h2
          rw [pOff, ← he]
          exact h2
        · cases hn
    | ix i st m =>
      cases k with
      | arr n k =>
        simp only [navD] at hn
        split at hn
        · rename_i he
          obtain ⟨rfl, rfl, _⟩ := he
          have hlt : i < List.length x := by rw [h.1]; exact hp.1
          rw [getD_lt _ _ _ hlt] at hn
          have h1 : C w ok k x[i] (sub cs (i * k.sz) k.sz) := h.2.2 i hlt
          have h2 := ih h1 hn hp.2
          rw [sub_sub _ _ _ _ _ (C_len h2)] at h2
          rw [pOff]
          exact h2
        · cases hn
      | _ => simp [navD] at hn

theorem fld_O : ∀ {k : K} {f : Nat} {x : dn k} {cs : List Value} {fp : Nat → Prop} {o : Nat} {k' k'' : K} {y : dn k''}, O w k x cs fp → fldO k f = some (o, k') → fldD k f x = some ⟨k'', y⟩ →
    k'' = k' ∧ ∃ fp', O w k'' y (sub cs o k''.sz) fp' ∧ ∀ b, fp' b → fp b := by
  intro k
  induction k with
  | pr a b iha ihb =>
    intro f x cs fp o k' k'' y h ho hd
    obtain ⟨c1, c2, f1, f2, rfl, h1, h2, h3, h4⟩ := h
    cases f with
    | zero =>
      simp only [fldO, Option.some.injEq, Prod.mk.injEq] at ho
      simp only [fldD, Option.some.injEq, Sigma.mk.injEq] at hd
      obtain ⟨rfl, rfl⟩ := ho
      obtain ⟨rfl, hd⟩ := hd
      cases hd
      rw [sub_left _ _ _ (O_len h1)]
      exact ⟨rfl, f1, h1, fun b hb => (h4 b).2 (.inl hb)⟩
    | succ f =>
      simp only [fldO, Option.map_eq_some_iff] at ho
      obtain ⟨⟨o', k1⟩, ho, he⟩ := ho
      simp only [Prod.mk.injEq] at he
      obtain ⟨rfl, rfl⟩ := he
      obtain ⟨hk, fp', hc, hs⟩ := ihb h2 ho hd
      rw [sub_right _ _ _ _ _ (O_len h1)]
      exact ⟨hk, fp', hc, fun b hb => (h4 b).2 (.inr (hs b hb))⟩
  | _ => intro f x cs fp o k' k'' y h ho hd; simp [fldO] at ho

theorem nav_O : ∀ {path : List Stp} {k k' : K} {x : dn k} {y : dn k'} {cs : List Value} {fp : Nat → Prop}, O w k x cs fp → navD k path x = some ⟨k', y⟩ → pOk path →
    ∃ fp', O w k' y (sub cs (pOff path) k'.sz) fp' ∧ ∀ b, fp' b → fp b := by
  intro path
  induction path with
  | nil =>
    intro k k' x y cs fp h hn _
    simp only [navD, Option.some.injEq, Sigma.mk.injEq] at hn
    obtain ⟨rfl, hn⟩ := hn
    cases hn
    rw [pOff, ← O_len h, sub_all]
    exact ⟨fp, h, fun _ h => h⟩
  | cons s path ih =>
    intro k k' x y cs fp h hn hp
    cases s with
    | fld f o =>
      simp only [navD] at hn
      cases hf : fldO k f with
      | none => rw [hf] at hn; cases hn
      | some p =>
        obtain ⟨o', k1⟩ := p
        rw [hf] at hn
        simp only at hn
        split at hn
        · rename_i he
          simp only [Option.bind_eq_some_iff] at hn
          obtain ⟨⟨k2, x2⟩, hd, hn⟩ := hn
          obtain ⟨hk, fp1, hc, hs⟩ := fld_O h hf hd
          obtain ⟨fp2, h2, hs2⟩ := ih hc hn hp
          rw [sub_sub _ _ _ _ _ (O_len h2)] at h2
          rw [pOff, ← he]
          exact ⟨fp2, h2, fun b hb => hs b (hs2 b hb)⟩
        · cases hn
    | ix i st m =>
      cases k with
      | arr n k =>
        simp only [navD] at hn
        split at hn
        · rename_i he
          obtain ⟨rfl, rfl, hfl⟩ := he
          have hlt : i < List.length x := by rw [h.1.1]; exact hp.1
          rw [getD_lt _ _ _ hlt] at hn
          have h1 : O w k x[i] (sub cs (i * k.sz) k.sz) (fun _ => False) := O_of_flat hfl (h.1.2.2 i hlt)
          obtain ⟨fp2, h2, hs2⟩ := ih h1 hn hp.2
          rw [sub_sub _ _ _ _ _ (O_len h2)] at h2
          rw [pOff]
          exact ⟨fp2, h2, fun b hb => (hs2 b hb).elim⟩
        · cases hn
      | _ => simp [navD] at hn

end Go.Vm

/- The value machine, part 6: what an operation that makes a value does on the machine. -/
set_option linter.unusedVariables false
set_option linter.unusedSimpArgs false
namespace Go.Vm

/-! #### Types -/
/-- The cells of zero. -/
def zC : K → List Value
  | .int k => [.int k 0]
  | .bool => [.bool false]
  | .str => [.string ByteArray.empty]
  | .sl _ _ => [.slice none 0 0]
  | .arr n k => (List.replicate n (zC k)).flatten
  | .pr a b => zC a ++ zC b
  | .un => []
def zV (k : K) : Value := if k.agg then .agg (zC k).toArray else (zC k).headD undef

def fieldsOk (T : Nat → K) : K → List Field → Nat → Prop
  | .pr a b, f :: r, o => f.offset = o ∧ T f.type = a ∧ 0 < a.sz ∧ fieldsOk T b r (o + a.sz)
  | .un, [], _ => True
  | _, _, _ => False

def shapeOk (T : Nat → K) (k : K) (d : TypeDesc) : Prop :=
  match k with
  | .int ik => d = .int ik
  | .bool => d = .bool
  | .str => d = .string
  | .sl e k => d = .slice e ∧ T e = k ∧ k ≠ .un
  | .arr n k => ∃ e, d = .array n e ∧ T e = k ∧ k ≠ .un
  | .pr a b => ∃ fs, d = .struct fs ∧ fieldsOk T (.pr a b) fs.toList 0
  | .un => False

/-- Can be compared, cell by cell. -/
def K.eqb : K → Bool
  | .int _ | .bool | .str | .un => true
  | .sl _ _ => false
  | .arr _ k => k.eqb
  | .pr a b => a.eqb && b.eqb

structure TyOk (P : Program) (T : Nat → K) (t : Nat) : Prop where
  info : ∃ i, P.info? t = some i ∧ i.size = (T t).sz ∧ i.zero = some (zV (T t)) ∧ 0 < i.bytes ∧ i.bytes ≤ 131072
  und : ∃ d, P.underlying t = some d ∧ shapeOk T (T t) d
  eq : ((T t).agg && (T t).eqb) = true → P.stoodInHeld t = false ∧ P.eqGuardType P.depth t = false ∧ ∀ f ∈ (P.fieldsOf t).toList, f.name ≠ "_"

def TOk (P : Program) (T : Nat → K) : Prop := ∀ t, T t ≠ .un → TyOk P T t

theorem zC_len : ∀ k : K, (zC k).length = k.sz := by
  intro k
  induction k with
  | arr n k ih => simp [zC, K.sz, ih]
  | pr a b iha ihb => simp [zC, K.sz, iha, ihb]
  | _ => simp [zC, K.sz]

theorem zT_sz : ∀ k : K, (zT k).sz = k.sz := by
  intro k
  induction k with
  | pr a b iha ihb => simp [zT, TV.sz, K.sz, iha, ihb]
  | _ => simp [zT, TV.sz, K.sz]

theorem sub_flatten_replicate (n : Nat) (c : List Value) (j : Nat) (hj : j < n) : sub (List.replicate n c).flatten (j * c.length) c.length = c := by
  induction n generalizing j with
  | zero => omega
  | succ n ih =>
    rw [List.replicate_succ, List.flatten_cons]
    cases j with
    | zero => rw [Nat.zero_mul]; exact sub_left _ _ _ rfl
    | succ j =>
      rw [Nat.succ_mul, Nat.add_comm, sub_right _ _ _ _ _ rfl]
      exact ih j (by omega)

theorem C_zero {w : World} {ok : Nat → Nat → Nat → Prop} : ∀ k : K, C w ok k (dz k) (zC k) := by
  intro k
  induction k with
  | int ik => rfl
  | bool => rfl
  | str => rfl
  | sl e k ih => exact ⟨none, 0, rfl, Nat.le_refl _, by simp [dz], fun h => absurd h (by simp [dz]), fun _ h => by cases h⟩
  | arr n k ih =>
    refine ⟨by simp [dz], by simp [zC, zC_len], fun j hj => ?_⟩
    have hj' : j < n := by simpa [dz] using hj
    have : (dz (.arr n k))[j] = dz k := by simp [dz]
    rw [this]
    have h2 := sub_flatten_replicate n (zC k) j hj'
    rw [zC_len] at h2
    show C w ok k (dz k) (sub (zC (.arr n k)) (j * k.sz) k.sz)
    rw [zC, h2]
    exact ih
  | pr a b iha ihb => exact ⟨zC a, zC b, rfl, iha, ihb⟩
  | un => rfl

section
variable {P : Program} {T : Nat → K} {w : World} {F N : Nat → Prop} {g : G}

theorem CT_zero : ∀ k : K, CT w F g (zT k) (zC k) := by
  intro k
  induction k with
  | int ik => exact C_zero _
  | bool => exact C_zero _
  | str => exact C_zero _
  | sl e k ih => exact ⟨none, rfl⟩
  | arr n k ih => exact C_zero _
  | pr a b iha ihb => exact ⟨zC a, zC b, rfl, iha, ihb⟩
  | un => rfl

theorem agg_shape {k : K} {d : TypeDesc} (h : shapeOk T k d) : (match d with | .struct _ | .array _ _ => true | _ => false) = k.agg := by
  cases k with
  | int ik => simp only [shapeOk] at h; subst h; rfl
  | bool => simp only [shapeOk] at h; subst h; rfl
  | str => simp only [shapeOk] at h; subst h; rfl
  | sl e k => obtain ⟨h, _⟩ := h; subst h; rfl
  | arr n k => obtain ⟨e, h, _⟩ := h; subst h; rfl
  | pr a b => obtain ⟨e, h, _⟩ := h; subst h; rfl
  | un => exact h.elim

theorem run_isAgg {t : Nat} (h : TyOk P T t) (w : World) : (isAgg t).run P w = .ok (T t).agg w := by
  obtain ⟨d, hd, hs⟩ := h.und
  have ha := agg_shape hs
  unfold isAgg
  rw [Sem.run_bind, run_underlying hd w, Result.andThen_ok]
  cases d <;> simp_all

/-- The value that is read out of a variable's cells. -/
def valOf (agg : Bool) (ds : List Value) : Value := if agg then .agg ds.toArray else ds.headD undef

theorem leaf_sz {t : Nat} {k : K} (hk : k.agg = false) : k.sz = 1 := by
  cases k <;> simp_all [K.agg, K.sz]

theorem run_loadVar {t : Nat} (h : TyOk P T t) (ad : Addr) (ds : List Value) (hl : ds.length = (T t).sz) (hc : ∀ j u, ds[j]? = some u → w.cell? (ad.add j) = some u) :
    (loadVar t ad).run P w = .ok (valOf (T t).agg ds) w := by
  obtain ⟨i, hi, hsz, _⟩ := h.info
  have ha := run_isAgg h w
  cases hk : (T t).agg with
  | true =>
    rw [hk] at ha
    have hls := run_loadCells_list (P := P) w ad ds hc
    rw [hl] at hls
    simp [loadVar, Sem.run_bind, ha, sizeOf, typeInfo, hi, hsz, hls, valOf]
  | false =>
    rw [hk] at ha
    have h1 := leaf_sz (t := t) hk
    rw [h1] at hl
    obtain ⟨u, rfl⟩ : ∃ u, ds = [u] := by
      match ds, hl with
      | [u], _ => exact ⟨u, rfl⟩
    have h0 := hc 0 u rfl
    rw [show ad.add 0 = ad from rfl] at h0
    simp [loadVar, Sem.run_bind, ha, valOf, load, Sem.run, h0]

theorem VT_of_CT {v : TV} {cs : List Value} (h : CT w F g v cs) (h1 : v.agg = false → cs.length = 1) : VT w F g v (valOf v.agg cs) := by
  have gen : (if v.agg then ∃ ds, valOf v.agg cs = .agg ds.toArray ∧ CT w F g v ds else CT w F g v [valOf v.agg cs]) := by
    cases ha : v.agg with
    | true => rw [if_pos rfl]; exact ⟨cs, by simp [valOf], h⟩
    | false =>
      rw [if_neg (by simp)]
      have h1 := h1 ha
      obtain ⟨u, rfl⟩ : ∃ u, cs = [u] := by
        match cs, h1 with
        | [u], _ => exact ⟨u, rfl⟩
      simpa [valOf] using h
  cases v with
  | tc a b => exact h.elim
  | tn => exact h.elim
  | dead m => trivial
  | _ => exact gen

theorem leaf_one {v : TV} {cs : List Value} (h : CT w F g v cs) (hd : ∀ m, v ≠ .dead m) (ha : v.agg = false) : cs.length = 1 := by
  rw [CT_len h]
  cases v with
  | dead m => exact absurd rfl (hd m)
  | sc ext k x => exact leaf_sz (t := 0) ha
  | pr a b => simp [TV.agg] at ha
  | un => simp [TV.agg] at ha
  | _ => rfl

/-! #### Operands -/
variable {w0 : W0} {s : St} {a : Act}

theorem eval_VT (I : Inv F w0 N s a w g) {x : Operand} {v : TV} (h : evo (lk s.tm) x = some v) : VT w F g v (a.eval x) := by
  cases x with
  | tmp t =>
    obtain ⟨u, hu, hv⟩ := I.tm t v h
    simp only [Act.eval, Array.getD_eq_getD_getElem?, hu, Option.getD_some]
    exact hv
  | const c =>
    simp only [evo] at h
    simp only [Act.eval]
    cases c with
    | int k n => simp only [cv, Option.some.injEq] at h; subst h; exact rfl
    | bool b => simp only [cv, Option.some.injEq] at h; subst h; exact rfl
    | string b => simp only [cv, Option.some.injEq] at h; subst h; exact rfl
    | slice A n c =>
      cases A with
      | some _ => simp [cv] at h
      | none =>
        cases n with
        | succ _ => simp [cv] at h
        | zero =>
          cases c with
          | succ _ => simp [cv] at h
          | zero => simp only [cv, Option.some.injEq] at h; subst h; exact ⟨none, rfl⟩
    | pointer A =>
      cases A with
      | some _ => simp [cv] at h
      | none => simp only [cv, Option.some.injEq] at h; subst h; exact trivial
    | _ => simp [cv] at h
  | global n => simp [evo] at h
  | func f =>
    simp only [evo, Option.some.injEq] at h
    subst h
    exact ⟨[], rfl, rfl⟩

theorem VT_leaf {v : TV} {u : Value} (h : VT w F g v u) (ha : v.agg = false) (hl : live v = true) : CT w F g v [u] := by
  cases v with
  | tc a b => simp [live] at hl
  | tn => simp [live] at hl
  | dead m => simp [live] at hl
  | _ => simpa [VT, ha] using h

theorem VT_agg {v : TV} {u : Value} (h : VT w F g v u) (ha : v.agg = true) : ∃ cs, u = .agg cs.toArray ∧ CT w F g v cs := by
  cases v with
  | tc a b => simp [TV.agg] at ha
  | tn => simp [TV.agg] at ha
  | dead m => simp [TV.agg] at ha
  | _ => simpa [VT, ha] using h

/-- The cells of a value that may be put into memory. -/
theorem VT_cells {v : TV} {u : Value} (h : VT w F g v u) (hl : live v = true) : ∃ cs, u.cells = cs.toArray ∧ CT w F g v cs := by
  cases ha : v.agg with
  | true =>
    obtain ⟨cs, rfl, hc⟩ := VT_agg h ha
    exact ⟨cs, rfl, hc⟩
  | false =>
    have hc := VT_leaf h ha hl
    refine ⟨[u], ?_, hc⟩
    have hne : ∀ x, u ≠ .agg x := by
      intro x hx
      subst hx
      cases v with
      | sc ext k y => cases k <;> simp [CT, C, TV.agg, K.agg] at hc ha
      | al n => obtain ⟨h1, A, m, c, h2⟩ := hc; rw [h2] at h1; simp at h1
      | inn n i st path e k => obtain ⟨_, _, _, v, _, h1, ⟨A, m', c', h2⟩, _⟩ := hc; subst h2; simp at h1
      | z => obtain ⟨A, h1⟩ := hc; simp at h1
      | bp n path => obtain ⟨_, _, _, h1⟩ := hc; simp at h1
      | ep n i st path => obtain ⟨_, _, _, _, _, h1⟩ := hc; simp at h1
      | cp ext e k x => obtain ⟨_, _, _, h1, _⟩ := hc; simp at h1
      | fn f c => obtain ⟨_, h1, _⟩ := hc; simp at h1
      | _ => simp_all [TV.agg, live]
    cases u <;> simp_all [Value.cells]

theorem asI_VT {v : TV} {u : Value} {i : Int} (h : VT w F g v u) (hi : asI v = some i) : ∃ k, u = .int k i := by
  cases v with
  | sc ext k x =>
    cases k with
    | int ik =>
      simp only [asI, Option.some.injEq] at hi
      subst hi
      have := VT_leaf h rfl rfl
      simp only [CT, C, List.cons.injEq, and_true] at this
      exact ⟨ik, this⟩
    | _ => simp [asI] at hi
  | _ => simp [asI] at hi

end
end Go.Vm

/- The value machine, part 7: the operations that make a value, one by one. -/
set_option linter.unusedVariables false
set_option linter.unusedSimpArgs false
namespace Go.Vm

/-- What an operation has made: nothing that was there has turned; base names what it has laid. -/
structure Made (F N : Nat → Prop) (g g' : G) (w w' : World) (base : Nat) (nw : Option Obj) : Prop where
  turn : Turn (fun _ => False) (fun _ => False) True N F g g' w w'
  fp : ∀ n, N n → g'.fp n = g.fp n
  kept : Kept (fun _ => False) w w'
  bxF : ∀ b, g'.Bx b → b < w'.heap.size
  new : ∀ o, nw = some o → OR w' F g' base o ∧ (∀ b, g'.fp base b → w.heap.size ≤ b ∧ F b) ∧ o.nms (fun n => N n ∨ n = base)

section
variable {P : Program} {T : Nat → K} {w w' : World} {w0 : W0} {F N : Nat → Prop} {g g' : G} {s : St} {a : Act} {base : Nat}

theorem Made.same (I : Inv F w0 N s a w g) : Made F N g g w w base none :=
  ⟨⟨fun _ _ _ => rfl, fun _ h => h.elim, fun _ _ h => h.elim, fun _ _ h => h.elim, fun _ _ => Iff.rfl, fun _ _ => rfl⟩, fun _ _ => rfl, Kept.refl _ _, I.bxF, fun _ h => by cases h⟩

def G.box (g : G) (n b : Nat) : G := { hd := fun m => if m = n then .pointer (some ⟨b, 0, none⟩) else g.hd m, fp := fun m c => if m = n then c = b else g.fp m c, Bx := fun c => g.Bx c ∨ c = b }
def G.row (g : G) (n : Nat) (v : Value) (f : Nat → Prop) : G := { hd := fun m => if m = n then v else g.hd m, fp := fun m => if m = n then f else g.fp m, Bx := g.Bx }

theorem heap_alloc (w : World) (o : Go.Obj) (b : Nat) (h : b < w.heap.size) : (w.alloc o).heap[b]? = w.heap[b]? := heap_alloc_old w o b h
theorem size_alloc (w : World) (o : Go.Obj) : (w.alloc o).heap.size = w.heap.size + 1 := by show (w.heap.push o).size = _; simp

theorem kept_alloc (F : Nat → Prop) (w : World) (o : Go.Obj) : Kept F w (w.alloc o) := ⟨rfl, rfl, rfl, by rw [size_alloc]; omega, fun b hb _ => heap_alloc w o b hb⟩

theorem new_F (I : Inv F w0 N s a w g) : F w.heap.size := I.big _ I.kept.size

theorem made_box (I : Inv F w0 N s a w g) (hb : ¬ N base) {v : TV} {cs : List Value} (t : Nat) (hc : CT w F g v cs) (hn : v.nms N) :
    Made F N g (g.box base w.heap.size) w (w.alloc (.cells cs.toArray t)) base (some (.bx v)) ∧
      VT (w.alloc (.cells cs.toArray t)) F (g.box base w.heap.size) (.bp base []) (.pointer (some ⟨w.heap.size, 0, none⟩)) := by
  have turn : Turn (fun _ => False) (fun _ => False) True N F g (g.box base w.heap.size) w (w.alloc (.cells cs.toArray t)) := by
    refine ⟨fun b hb _ => heap_alloc w _ b hb, fun _ h => h.elim, fun _ _ h => h.elim, fun _ _ h => h.elim, fun b hb => ?_, fun n hn => ?_⟩
    · simp only [G.box]; constructor
      · rintro (h | h)
        · exact h
        · omega
      · exact .inl
    · simp only [G.box]; rw [if_neg]; rintro rfl; exact hb hn
  refine ⟨⟨turn, fun n hn => ?_, kept_alloc _ _ _, fun b hb => ?_, fun o ho => ?_⟩, ?_⟩
  · simp only [G.box]; funext c; rw [if_neg]; rintro rfl; exact hb hn
  · rw [size_alloc]
    rcases hb with h | h
    · have := I.bxF b h; omega
    · omega
  · injection ho with ho
    subst ho
    refine ⟨⟨w.heap.size, t, cs.toArray, by simp [G.box], heap_alloc_new w _, CT_turn turn hn v.safe_none hc, fun b => by simp [G.box], .inr rfl⟩, fun b hb => ?_, TV.nms_mono (fun n h => .inl h) hn⟩
    simp only [G.box, if_true] at hb
    subst hb
    exact ⟨Nat.le_refl _, new_F I⟩
  · exact ⟨w.heap.size, by simp [G.box], trivial, by simp [pOff]⟩

theorem made_row (I : Inv F w0 N s a w g) (hb : ¬ N base) {e : Nat} {k : K} {deep : Bool} {xs : List (dn k)} {cur : Array Value} {u : Value} {f : Nat → Prop}
    (hu : ∃ A m c, u = .slice A m c) (hf : ∀ b, f b → w.heap.size ≤ b)
    (ho : ∀ g', Turn (fun _ => False) (fun _ => False) True N F g g' w (w.alloc (.cells cur e)) → OL (w.alloc (.cells cur e)) e k.sz (LR (w.alloc (.cells cur e)) F g' deep k) xs u f) :
    Made F N g (g.row base u f) w (w.alloc (.cells cur e)) base (some (.ls e k deep xs)) ∧ VT (w.alloc (.cells cur e)) F (g.row base u f) (.al base) u := by
  have turn : Turn (fun _ => False) (fun _ => False) True N F g (g.row base u f) w (w.alloc (.cells cur e)) := by
    refine ⟨fun b hb _ => heap_alloc w _ b hb, fun _ h => h.elim, fun _ _ h => h.elim, fun _ _ h => h.elim, fun b hb => Iff.rfl, fun n hn => ?_⟩
    simp only [G.row]; rw [if_neg]; rintro rfl; exact hb hn
  refine ⟨⟨turn, fun n hn => ?_, kept_alloc _ _ _, fun b hb => ?_, fun o ho' => ?_⟩, ?_⟩
  · simp only [G.row]; rw [if_neg]; rintro rfl; exact hb hn
  · rw [size_alloc]; have := I.bxF b hb; omega
  · injection ho' with ho'
    subst ho'
    refine ⟨⟨by simpa [G.row] using ho _ turn, fun b hb hx => ?_⟩, fun b hb => ?_, trivial⟩
    · simp only [G.row, if_true] at hb hx
      have h1 := hf b hb
      have h2 := I.bxF b hx
      omega
    · simp only [G.row, if_true] at hb
      exact ⟨hf b hb, I.big b (Nat.le_trans I.kept.size (hf b hb))⟩
  · obtain ⟨A, m, c, rfl⟩ := hu
    exact ⟨by simp [G.row], A, m, c, by simp [G.row]⟩

/-- What vpure_run says. -/
def Runs (P : Program) (F N : Nat → Prop) (g : G) (w : World) (base : Nat) (a : Act) (o : Oper) (out : Out) : Prop :=
  ∃ u w' g', (execOp a.eval o).run P w = .ok (.value u) w' ∧ Made F N g g' w w' base out.nw ∧ VT w' F g' out.v u ∧ out.v.nms (fun n => N n ∨ (n = base ∧ out.nw ≠ none))

theorem Runs.pure (I : Inv F w0 N s a w g) {o : Oper} {v : TV} {u : Value} (hr : (execOp a.eval o).run P w = .ok (.value u) w) (hv : VT w F g v u) (hn : v.nms N) {b : Bool} :
    Runs P F N g w base a o ⟨b, v, none⟩ := ⟨u, w, g, hr, Made.same I, hv, TV.nms_mono (fun _ h => .inl h) hn⟩

theorem evo_nms (I : Inv F w0 N s a w g) {x : Operand} {v : TV} (h : evo (lk s.tm) x = some v) : v.nms N := by
  cases x with
  | tmp t => exact I.nmT t v h
  | const c =>
    simp only [evo] at h
    cases c with
    | int k n => simp only [cv, Option.some.injEq] at h; subst h; trivial
    | bool b => simp only [cv, Option.some.injEq] at h; subst h; trivial
    | string b => simp only [cv, Option.some.injEq] at h; subst h; trivial
    | slice A n c =>
      cases A with
      | some _ => simp [cv] at h
      | none =>
        cases n with
        | succ _ => simp [cv] at h
        | zero =>
          cases c with
          | succ _ => simp [cv] at h
          | zero => simp only [cv, Option.some.injEq] at h; subst h; trivial
    | pointer A =>
      cases A with
      | some _ => simp [cv] at h
      | none => simp only [cv, Option.some.injEq] at h; subst h; exact trivial
    | _ => simp [cv] at h
  | global n => simp [evo] at h
  | func f => simp only [evo, Option.some.injEq] at h; subst h; trivial

theorem run_move (I : Inv F w0 N s a w g) {o : Oper} {x : Operand} {v : TV} (ho : o.op = .move x ∨ o.op = .assign x) (h : evo (lk s.tm) x = some v) :
    Runs P F N g w base a o ⟨true, v, none⟩ := by
  refine Runs.pure I (u := a.eval x) ?_ (eval_VT I h) (evo_nms I h)
  rcases ho with ho | ho <;> simp [execOp, ho]

theorem zV_cells (k : K) : (zV k).cells = (zC k).toArray := by
  cases k <;> simp [zV, K.agg, zC, Value.cells]

theorem zT_nms (k : K) : (zT k).nms N := by
  induction k with
  | pr a b iha ihb => exact ⟨iha, ihb⟩
  | _ => trivial

theorem run_alloc (hT : TOk P T) (I : Inv F w0 N s a w g) (hb : ¬ N base) {o : Oper} {t : Nat} (ho : o.op = .alloc t) (ht : T t ≠ .un) :
    Runs P F N g w base a o ⟨true, .bp base [], some (.bx (zT (T t)))⟩ := by
  obtain ⟨i, hi, hsz, hz, _⟩ := (hT t ht).info
  obtain ⟨m, hv⟩ := made_box I hb t (CT_zero (w := w) (F := F) (g := g) (T t)) (zT_nms _)
  refine ⟨_, _, _, ?_, m, hv, .inr ⟨rfl, by simp⟩⟩
  simp [execOp, ho, Instr.alloc, zeroValue, typeInfo, hi, hz, newVar, newRow, zV_cells]

theorem run_box (I : Inv F w0 N s a w g) (hb : ¬ N base) {o : Oper} {t : Nat} {x : Operand} {v : TV} (ho : o.op = .box t x) (h : evo (lk s.tm) x = some v) (hl : live v = true) :
    Runs P F N g w base a o ⟨true, .bp base [], some (.bx v)⟩ := by
  obtain ⟨cs, hcs, hc⟩ := VT_cells (eval_VT I h) hl
  obtain ⟨m, hv⟩ := made_box I hb t hc (evo_nms I h)
  refine ⟨_, _, _, ?_, m, hv, .inr ⟨rfl, by simp⟩⟩
  simp [execOp, ho, Instr.box, newVar, newRow, hcs]

theorem getP_nms : ∀ {path : List Stp} {v r : TV}, v.nms N → getP path v = some r → r.nms N := by
  have sp : ∀ {v a b : TV}, v.nms N → split v = some (a, b) → a.nms N ∧ b.nms N := by
    intro v a b h hs
    cases v with
    | pr a' b' => simp only [split, Option.some.injEq, Prod.mk.injEq] at hs; obtain ⟨rfl, rfl⟩ := hs; exact h
    | sc ext k x =>
      cases k with
      | pr ka kb => simp only [split, Option.some.injEq, Prod.mk.injEq] at hs; obtain ⟨rfl, rfl⟩ := hs; exact ⟨trivial, trivial⟩
      | _ => simp [split] at hs
    | _ => simp [split] at hs
  have fl : ∀ {f : Nat} {v r : TV} {o : Nat}, v.nms N → fldT f v = some (o, r) → r.nms N := by
    intro f
    induction f with
    | zero =>
      intro v r o h hf
      simp only [fldT, Option.map_eq_some_iff] at hf
      obtain ⟨⟨a, b⟩, hs, he⟩ := hf
      simp only [Prod.mk.injEq] at he
      obtain ⟨rfl, rfl⟩ := he
      exact (sp h hs).1
    | succ f ih =>
      intro v r o h hf
      simp only [fldT, Option.bind_eq_some_iff, Option.map_eq_some_iff] at hf
      obtain ⟨⟨a, b⟩, hs, ⟨o', r'⟩, hf, he⟩ := hf
      simp only [Prod.mk.injEq] at he
      obtain ⟨rfl, rfl⟩ := he
      exact ih (sp h hs).2 hf
  intro path
  induction path with
  | nil => intro v r h hg; simp only [getP, Option.some.injEq] at hg; subst hg; exact h
  | cons st path ih =>
    intro v r h hg
    cases st with
    | fld f o =>
      simp only [getP, Option.bind_eq_some_iff] at hg
      obtain ⟨⟨o', r'⟩, hf, hg⟩ := hg
      split at hg
      · exact ih (fl h hf) hg
      · cases hg
    | ix i st m =>
      cases v with
      | sc ext k x =>
        cases k with
        | arr n k =>
          simp only [getP] at hg
          split at hg
          · exact ih (v := .sc ext k _) trivial hg
          · cases hg
        | _ => simp [getP] at hg
      | _ => simp [getP] at hg

theorem expK_nms {n i st : Nat} (hn : N n) : ∀ (k : K) (path : List Stp) (c : Option (Nat × Nat)) (x : dn k), (expK n i st k path c x).nms N := by
  intro k
  induction k with
  | pr a b iha ihb =>
    intro path c x
    cases c with
    | none => exact ⟨iha _ _ _, ihb _ _ _⟩
    | some c => exact ⟨iha _ _ _, ihb _ _ _⟩
  | sl e k ih => intro path c x; cases c <;> first | exact hn | trivial
  | _ => intro path c x; trivial

theorem expT_nms {n i st : Nat} (hn : N n) (deep : Bool) (path : List Stp) (k : K) (x : dn k) : (expT deep n i st path k x).nms N := by
  unfold expT
  split
  · trivial
  · split
    · exact expK_nms hn _ _ _ _
    · trivial

theorem sub_cells {ad : Addr} {ds : List Value} (h : ∀ j u, ds[j]? = some u → w.cell? (ad.add j) = some u) (o n : Nat) :
    ∀ j u, (sub ds o n)[j]? = some u → w.cell? ((ad.add o).add j) = some u := by
  intro j u hu
  have hadd : (ad.add o).add j = ad.add (o + j) := by
    unfold Addr.add
    by_cases h1 : o = 0 <;> by_cases h2 : j = 0 <;> simp [h1, h2, Nat.add_assoc]
  rw [hadd]
  apply h
  simp only [sub, List.getElem?_take, List.getElem?_drop] at hu
  split at hu
  · exact hu
  · cases hu

theorem add_off (b o j : Nat) : (⟨b, o, none⟩ : Addr).add j = ⟨b, o + j, none⟩ := by
  unfold Addr.add; split <;> simp_all

theorem run_load_bp (hT : TOk P T) (I : Inv F w0 N s a w g) {o : Oper} {t n : Nat} {p : Operand} {path : List Stp} {c r : TV} (ho : o.op = .load t p)
    (h : evo (lk s.tm) p = some (.bp n path)) (hn : lk s.ob n = some (.bx c)) (hg : getP path c = some r) (hsz : r.sz = (T t).sz) (hag : r.agg = (T t).agg) (ht : T t ≠ .un) :
    Runs P F N g w base a o ⟨true, r, none⟩ := by
  obtain ⟨b, h1, h2, h3⟩ := VT_leaf (eval_VT I h) rfl rfl
  obtain ⟨b', Tb, cur, h4, h5, h6, _⟩ := I.ob n _ hn
  rw [h1] at h4
  have hbb : b = b' := by simpa using h4
  subst hbb
  have hr := getP_CT h6 hg h2
  have hl : (sub cur.toList (pOff path) r.sz).length = (T t).sz := by rw [CT_len hr, hsz]
  have hcell : ∀ j u, (sub cur.toList (pOff path) r.sz)[j]? = some u → w.cell? ((⟨b, pOff path, none⟩ : Addr).add j) = some u := by
    have := sub_cells (w := w) (ad := ⟨b, 0, none⟩) (ds := cur.toList) (fun j u hu => by rw [add_plain, cell_of_row w b j cur Tb (0, 0) h5]; simpa using hu) (pOff path) r.sz
    rwa [add_plain] at this
  have hrun := run_loadVar (hT t ht) _ _ hl hcell
  have hp : a.eval p = .pointer (some ⟨b, pOff path, none⟩) := by simpa using h3
  refine Runs.pure I (u := valOf (T t).agg (sub cur.toList (pOff path) r.sz)) ?_ ?_ (getP_nms (I.nmO n _ hn).2 hg)
  · simp [execOp, ho, Instr.loadAt, hp, Instr.sureAddr, hrun]
  · rw [← hag]
    refine VT_of_CT hr fun hf => ?_
    rw [hl]
    rw [hag] at hf
    exact leaf_sz (t := t) hf

end
end Go.Vm

/- The value machine, part 8: more of the operations that make a value. -/
set_option linter.unusedVariables false
set_option linter.unusedSimpArgs false
namespace Go.Vm

theorem pOff_append (p q : List Stp) : pOff (p ++ q) = pOff p + pOff q := by
  induction p with
  | nil => simp [pOff]
  | cons s p ih => cases s <;> simp [pOff, ih, Nat.add_assoc]
theorem pOk_append (p q : List Stp) : pOk (p ++ q) ↔ pOk p ∧ pOk q := by
  induction p with
  | nil => simp [pOk]
  | cons s p ih => cases s <;> simp [pOk, ih, and_assoc]

section
variable {P : Program} {T : Nat → K} {w w' : World} {w0 : W0} {F N : Nat → Prop} {g g' : G} {s : St} {a : Act} {base : Nat}

/-- The row that an object's header names. -/
theorem row_of {n e : Nat} {k : K} {deep : Bool} {xs : List (dn k)} {b m c : Nat} (h : OR w F g n (.ls e k deep xs)) (hh : g.hd n = .slice (some ⟨b, 0, none⟩) m c) {i : Nat} (hi : i < m) :
    m = xs.length ∧ ¬ g.Bx b ∧ g.fp n b ∧ ∃ (cur : Array Value) (f : Nat → Nat → Prop) (ds : Nat → List Value), w.heap[b]? = some (.cells cur e (0, 0)) ∧ xs.length ≤ c ∧ c ≤ 9223372036854775807 ∧ cur.size = c * k.sz ∧
      (∀ j (h : j < xs.length), LR w F g deep k xs[j] (ds j) (f j) ∧ (ds j).length = k.sz ∧ ∀ i, i < k.sz → cur[j * k.sz + i]? = (ds j)[i]?) ∧
      (∀ j j', j < xs.length → j' < xs.length → j ≠ j' → ∀ b, f j b → f j' b → False) ∧ (∀ j, j < xs.length → ¬ f j b) ∧
      ∀ b', g.fp n b' ↔ b' = b ∨ ∃ j, j < xs.length ∧ f j b' := by
  obtain ⟨h1, h2⟩ := h
  rcases h1 with ⟨_, ⟨A, hA⟩, _⟩ | ⟨b', c', cur, f, ds, hv, hg, h3, h4, h5, h6, h7, h8, h9⟩
  · rw [hh] at hA
    injection hA with _ hm _
    omega
  · rw [hh] at hv
    injection hv with hb hm hc
    injection hb with hb
    injection hb with hb
    subst hb hc
    exact ⟨hm, h2 b ((h9 b).2 (.inl rfl)), (h9 b).2 (.inl rfl), cur, f, ds, hg, h3, h4, h5, h6, h7, h8, h9⟩

theorem expK_CT {n i st b m c : Nat} (hh : g.hd n = .slice (some ⟨b, 0, none⟩) m c) (hi : i < m) (hbx : ¬ g.Bx b) :
    ∀ (k : K) (path : List Stp) (ch : Option (Nat × Nat)) (x : dn k) (cs : List Value) (fp : Nat → Prop), O w k x cs fp → pOk path →
      (∀ j u, cs[j]? = some u → w.cell? ⟨b, i * st + pOff path + (ch.map (·.2)).getD 0 + j, none⟩ = some u) → CT w F g (expK n i st k path ch x) cs := by
  intro k
  induction k with
  | int ik => intro path ch x cs fp h _ _; exact h.1
  | bool => intro path ch x cs fp h _ _; exact h.1
  | str => intro path ch x cs fp h _ _; exact h.1
  | sl e k ih =>
    intro path ch x cs fp h hp hc
    obtain ⟨v, rfl, h⟩ := h
    cases ch with
    | none =>
      refine ⟨b, m, c, v, hh, rfl, ?_, hbx, ⟨hi, hp⟩, by simpa using hc 0 v rfl⟩
      rcases h with ⟨_, ⟨A, rfl⟩, _⟩ | ⟨_, _, _, _, _, rfl, _⟩
      · exact ⟨_, _, _, rfl⟩
      · exact ⟨_, _, _, rfl⟩
    | some q =>
      refine ⟨rfl, fun u hu => ?_⟩
      simp only [List.mem_singleton] at hu
      subst hu
      rcases h with ⟨_, ⟨A, rfl⟩, _⟩ | ⟨_, _, _, _, _, rfl, _⟩ <;> rfl
  | arr n' k ih => intro path ch x cs fp h _ _; exact C_imp (fun _ _ _ hf _ => hf.elim) h.1
  | pr ka kb iha ihb =>
    intro path ch x cs fp h hp hc
    obtain ⟨c1, c2, f1, f2, rfl, h1, h2, _⟩ := h
    have hl1 := O_len h1
    have left : ∀ (f o : Nat), (ch.map (·.2)).getD 0 = o → ∀ j u, c1[j]? = some u → w.cell? ⟨b, i * st + pOff (path ++ [.fld f o]) + ((none : Option (Nat × Nat)).map (·.2)).getD 0 + j, none⟩ = some u := by
      intro f o ho j u hu
      have := hc j u (by rw [List.getElem?_append_left (List.getElem?_eq_some_iff.1 hu).1]; exact hu)
      rw [ho] at this
      simpa [pOff_append, pOff, Nat.add_assoc] using this
    have right : ∀ (f o : Nat), (ch.map (·.2)).getD 0 = o → ∀ j u, c2[j]? = some u → w.cell? ⟨b, i * st + pOff path + ((some (f, o + ka.sz)).map (·.2)).getD 0 + j, none⟩ = some u := by
      intro f o ho j u hu
      have := hc (ka.sz + j) u (by rw [List.getElem?_append_right (by omega), hl1]; simpa using hu)
      rw [ho] at this
      simpa [Nat.add_assoc] using this
    cases ch with
    | none =>
      refine ⟨c1, c2, rfl, iha _ _ _ _ _ h1 ((pOk_append _ _).2 ⟨hp, trivial⟩) (left 0 0 rfl), ihb _ _ _ _ _ h2 hp ?_⟩
      have := right 1 0 rfl
      simpa using this
    | some q => exact ⟨c1, c2, rfl, iha _ _ _ _ _ h1 ((pOk_append _ _).2 ⟨hp, trivial⟩) (left q.1 q.2 rfl), ihb _ _ _ _ _ h2 hp (right (q.1 + 1) q.2 rfl)⟩
  | un => intro path ch x cs fp h _ _; exact h.1

theorem run_load_ep (hT : TOk P T) (I : Inv F w0 N s a w g) {o : Oper} {t n i st e : Nat} {k : K} {deep : Bool} {xs : List (dn k)} {p : Operand} {path : List Stp} {k' : K} {y : dn k'} (ho : o.op = .load t p)
    (h : evo (lk s.tm) p = some (.ep n i st path)) (hn : lk s.ob n = some (.ls e k deep xs)) (hst : st = k.sz) (hg : navD k path (xs.getD i (dz k)) = some ⟨k', y⟩) (hk : k' = T t) (ht : T t ≠ .un) :
    Runs P F N g w base a o ⟨true, expT deep n i st path k' y, none⟩ := by
  obtain ⟨b, m, c, h1, ⟨hi, hpo⟩, h3⟩ := VT_leaf (eval_VT I h) rfl rfl
  obtain ⟨hm, hbx, _, cur, f, ds, hcur, _, _, _, hds, _, _, hfp⟩ := row_of (I.ob n _ hn) h1 hi
  subst hm hst
  rw [getD_lt _ _ _ hi] at hg
  obtain ⟨hR, hdl, hdc⟩ := hds i hi
  have hcell0 : ∀ j u, (ds i)[j]? = some u → w.cell? ((⟨b, i * k.sz, none⟩ : Addr).add j) = some u := by
    intro j u hu
    have hj : j < k.sz := by have := (List.getElem?_eq_some_iff.1 hu).1; omega
    rw [add_off, cell_of_row w b _ cur e (0, 0) hcur, hdc j hj]
    exact hu
  have hcell := sub_cells hcell0 (pOff path) k'.sz
  rw [add_off] at hcell
  have hC : C w (okt F g.Bx) k' y (sub (ds i) (pOff path) k'.sz) := by
    cases deep with
    | true =>
      simp only [LR, if_true] at hR
      exact nav_C (O_C (fun b' e' hf hbt => .inr ⟨rfl, (I.ob n _ hn).2 b' ((hfp b').2 (.inr ⟨i, hi, hf⟩))⟩) hR) hg hpo
    | false => simp only [LR, Bool.false_eq_true, if_false] at hR; exact nav_C hR.1 hg hpo
  have hl : (sub (ds i) (pOff path) k'.sz).length = (T t).sz := by rw [C_len hC, hk]
  have hrun := run_loadVar (hT t ht) _ _ hl hcell
  have hp : a.eval p = .pointer (some ⟨b, i * k.sz + pOff path, none⟩) := by simpa using h3
  have hv : CT w F g (expT deep n i k.sz path k' y) (sub (ds i) (pOff path) k'.sz) := by
    unfold expT
    split
    · rename_i hfl; exact C_flat hfl hC
    · split
      · rename_i hd
        subst hd
        simp only [LR, if_true] at hR
        obtain ⟨fp', hO, _⟩ := nav_O hR hg hpo
        refine expK_CT h1 hi hbx k' path none y _ fp' hO hpo fun j u hu => ?_
        have := hcell j u hu
        rw [add_off] at this
        simpa using this
      · exact hC
  have hag : (expT deep n i k.sz path k' y).agg = (T t).agg := by
    rw [← hk]
    unfold expT
    split
    · rfl
    · split
      · cases k' <;> rfl
      · rfl
  refine Runs.pure I (u := valOf (T t).agg (sub (ds i) (pOff path) k'.sz)) ?_ ?_ (expT_nms (I.nmO n _ hn).1 _ _ _ _)
  · simp [execOp, ho, Instr.loadAt, hp, Instr.sureAddr, hrun]
  · rw [← hag]
    refine VT_of_CT hv fun hf => ?_
    rw [hl]
    rw [hag] at hf
    exact leaf_sz (t := t) hf

theorem run_load_cp (hT : TOk P T) (I : Inv F w0 N s a w g) {o : Oper} {t e : Nat} {k : K} {x : dn k} {ext : Bool} {p : Operand} (ho : o.op = .load t p)
    (h : evo (lk s.tm) p = some (.cp ext e k x)) (hk : k = T t) (ht : T t ≠ .un) :
    Runs P F N g w base a o ⟨true, .sc (ext || k.flat) k x, none⟩ := by
  obtain ⟨ad, bt, ds, h1, _, _, hC, hcell⟩ := VT_leaf (eval_VT I h) rfl rfl
  have hl : ds.length = (T t).sz := by rw [C_len hC, hk]
  have hrun := run_loadVar (hT t ht) _ _ hl hcell
  have hp : a.eval p = .pointer (some ad) := by simpa using h1
  refine Runs.pure I (v := .sc (ext || k.flat) k x) (u := valOf (T t).agg ds) ?_ ?_ trivial
  · simp [execOp, ho, Instr.loadAt, hp, Instr.sureAddr, hrun]
  · have := VT_of_CT (v := .sc (ext || k.flat) k x) (C_or hC) fun hf => by rw [hl]; exact leaf_sz (t := t) (by rw [← hk]; exact hf)
    rw [← hk]
    exact this

/-! #### Addresses of fields -/
theorem fields_at : ∀ {k : K} {fs : List Field} {o f o' : Nat} {k' : K}, fieldsOk T k fs o → fldO k f = some (o', k') → ∃ fd, fs[f]? = some fd ∧ fd.offset = o + o' ∧ T fd.type = k' ∧ 0 < k'.sz := by
  intro k
  induction k with
  | pr ka kb iha ihb =>
    intro fs o f o' k' h hf
    cases fs with
    | nil => exact h.elim
    | cons fd fs =>
      obtain ⟨h1, h2, h3, h4⟩ := h
      cases f with
      | zero =>
        simp only [fldO, Option.some.injEq, Prod.mk.injEq] at hf
        obtain ⟨rfl, rfl⟩ := hf
        exact ⟨fd, rfl, by omega, h2, h3⟩
      | succ f =>
        simp only [fldO, Option.map_eq_some_iff] at hf
        obtain ⟨⟨o1, k1⟩, hf, he⟩ := hf
        simp only [Prod.mk.injEq] at he
        obtain ⟨rfl, rfl⟩ := he
        obtain ⟨fd', a, b, c, d⟩ := ihb h4 hf
        exact ⟨fd', by simpa using a, by omega, c, d⟩
  | _ => intro fs o f o' k' h hf; simp [fldO] at hf

theorem fldD_none : ∀ {k : K} {f : Nat} {x : dn k}, fldO k f = none → fldD k f x = none := by
  intro k
  induction k with
  | pr ka kb iha ihb =>
    intro f x hf
    cases f with
    | zero => simp [fldO] at hf
    | succ f =>
      simp only [fldO, Option.map_eq_none_iff] at hf
      exact ihb hf
  | _ => intro f x hf; rfl

theorem run_fieldAt (hT : TOk P T) {st f o : Nat} {k' : K} (hf : fldO (T st) f = some (o, k')) (ad : Addr) (w : World) :
    (Instr.fieldAt st (.pointer (some ad)) f).run P w = .ok (.pointer (some (ad.add o))) w := by
  have ht : T st ≠ .un := by intro h; rw [h] at hf; simp [fldO] at hf
  obtain ⟨d, hd, hs⟩ := (hT st ht).und
  cases hk : T st with
  | pr ka kb =>
    rw [hk] at hs hf
    obtain ⟨fs, rfl, hfs⟩ := hs
    obtain ⟨fd, h1, h2, h3, h4⟩ := fields_at hfs hf
    have ht2 : T fd.type ≠ .un := by intro h; rw [h] at h3; subst h3; simp [K.sz] at h4
    obtain ⟨i, hi, hsz, _⟩ := (hT fd.type ht2).info
    have hne : i.size ≠ 0 := by rw [hsz, h3]; omega
    have h1' : fs[f]? = some fd := by simpa using h1
    have ho : fd.offset = o := by omega
    simp [Instr.fieldAt, run_underlying hd, h1', Instr.sureAddr, fieldPlace, sizeOf, typeInfo, hi, hne, ho]
  | _ => rw [hk] at hf; simp [fldO] at hf

theorem run_fld (hT : TOk P T) (I : Inv F w0 N s a w g) {o : Oper} {st f : Nat} {p : Operand} {v r : TV} (ho : o.op = .fieldAddr st p f) (h : evo (lk s.tm) p = some v) (hv : vfld T st f v = some r) :
    Runs P F N g w base a o ⟨true, r, none⟩ := by
  have hV := eval_VT I h
  have hN := evo_nms I h
  cases v with
  | bp n path =>
    simp only [vfld, Option.map_eq_some_iff] at hv
    obtain ⟨⟨o', k'⟩, hf, rfl⟩ := hv
    obtain ⟨b, h1, h2, h3⟩ := VT_leaf hV rfl rfl
    have hp : a.eval p = .pointer (some ⟨b, pOff path, none⟩) := by simpa using h3
    refine Runs.pure I (v := .bp n (path ++ [.fld f o'])) (u := .pointer (some ⟨b, pOff path + o', none⟩)) ?_ ?_ (show N n from hN)
    · simp [execOp, ho, hp, run_fieldAt hT hf, add_off]
    · exact ⟨b, h1, (pOk_append _ _).2 ⟨h2, trivial⟩, by simp [pOff_append, pOff]⟩
  | ep n i st' path =>
    simp only [vfld, Option.map_eq_some_iff] at hv
    obtain ⟨⟨o', k'⟩, hf, rfl⟩ := hv
    obtain ⟨b, m, c, h1, h2, h3⟩ := VT_leaf hV rfl rfl
    have hp : a.eval p = .pointer (some ⟨b, i * st' + pOff path, none⟩) := by simpa using h3
    refine Runs.pure I (v := .ep n i st' (path ++ [.fld f o'])) (u := .pointer (some ⟨b, i * st' + pOff path + o', none⟩)) ?_ ?_ (show N n from hN)
    · simp [execOp, ho, hp, run_fieldAt hT hf, add_off]
    · exact ⟨b, m, c, h1, ⟨h2.1, (pOk_append _ _).2 ⟨h2.2, trivial⟩⟩, by simp [pOff_append, pOff, Nat.add_assoc]⟩
  | cp ext e k x =>
    simp only [vfld] at hv
    split at hv
    · rename_i hk
      subst hk
      simp only [Option.map_eq_some_iff] at hv
      obtain ⟨⟨k1, x1⟩, hd, rfl⟩ := hv
      obtain ⟨ad, bt, ds, h1, h2, h3, hC, hcell⟩ := VT_leaf hV rfl rfl
      have hp : a.eval p = .pointer (some ad) := by simpa using h1
      cases hf : fldO (T st) f with
      | none => rw [fldD_none hf] at hd; cases hd
      | some q =>
        obtain ⟨o', k2⟩ := q
        obtain ⟨rfl, hC2⟩ := fld_C hC hf hd
        refine Runs.pure I (v := .cp ext e _ x1) (u := .pointer (some (ad.add o'))) ?_ ?_ trivial
        · simp [execOp, ho, hp, run_fieldAt hT hf]
        · exact ⟨ad.add o', bt, _, rfl, by rw [add_block]; exact h2, by rw [add_block]; exact h3, hC2, sub_cells hcell _ _⟩
    · cases hv
  | _ => simp [vfld] at hv

end
end Go.Vm

/- The value machine, part 9: slices' contents, indices, arithmetic. -/
set_option linter.unusedVariables false
set_option linter.unusedSimpArgs false
namespace Go.Vm

section
variable {P : Program} {T : Nat → K} {w w' : World} {w0 : W0} {F N : Nat → Prop} {g g' : G} {s : St} {a : Act} {base : Nat}

theorem ext_okt {ext : Bool} {k : K} {x : dn k} {cs : List Value} (h : C w (oks F g.Bx ext) k x cs) : C w (okt F g.Bx) k x cs := by
  cases ext with
  | true => exact C_imp (fun b bt e hok _ => ⟨rfl, .inl hok⟩) h
  | false => exact h

theorem OR_C {n e : Nat} {k : K} {deep : Bool} {xs : List (dn k)} (h : OR w F g n (.ls e k deep xs)) : C w (okt F g.Bx) (.sl e k) xs [g.hd n] := by
  obtain ⟨h1, h2⟩ := h
  refine OL_C (fun b hf _ => .inr ⟨rfl, h2 b hf⟩) (fun x _ cs f hf hR => ?_) h1
  cases deep with
  | true =>
    simp only [LR, if_true] at hR
    exact O_C (fun b e' hfb _ => .inr ⟨rfl, h2 b (hf b hfb)⟩) hR
  | false => simp only [LR, Bool.false_eq_true, if_false] at hR; exact hR.1

/-- An element's cells in the row, and what they say. -/
theorem elem_C {n i e m c b : Nat} {k : K} {deep : Bool} {xs : List (dn k)} (h : OR w F g n (.ls e k deep xs)) (hh : g.hd n = .slice (some ⟨b, 0, none⟩) m c) (hi : i < m) :
    ∃ (hl : i < xs.length) (ds : List Value), C w (okt F g.Bx) k xs[i] ds ∧ ds.length = k.sz ∧ ∀ j u, ds[j]? = some u → w.cell? ⟨b, i * k.sz + j, none⟩ = some u := by
  obtain ⟨hm, hbx, _, cur, f, ds, hcur, _, _, _, hds, _, _, hfp⟩ := row_of h hh hi
  subst hm
  obtain ⟨hR, hdl, hdc⟩ := hds i hi
  refine ⟨hi, ds i, ?_, hdl, fun j u hu => ?_⟩
  · cases deep with
    | true =>
      simp only [LR, if_true] at hR
      exact O_C (fun b' e' hf hbt => .inr ⟨rfl, h.2 b' ((hfp b').2 (.inr ⟨i, hi, hf⟩))⟩) hR
    | false => simp only [LR, Bool.false_eq_true, if_false] at hR; exact hR.1
  · have hj : j < k.sz := by have := (List.getElem?_eq_some_iff.1 hu).1; omega
    rw [cell_of_row w b _ cur e (0, 0) hcur, hdc j hj]
    exact hu

theorem lst_C (I : Inv F w0 N s a w g) {e : Nat} {k : K} {v : TV} {u : Value} {xs : List (dn k)} (hV : VT w F g v u) (h : lst (lk s.ob) e k v = some xs) : C w (okt F g.Bx) (.sl e k) xs [u] := by
  cases v with
  | al n =>
    simp only [lst] at h
    split at h
    · rename_i e' k' deep ys hn
      split at h
      · rename_i he
        obtain ⟨rfl, rfl⟩ := he
        simp only [Option.some.injEq] at h
        subst h
        have hc := VT_leaf hV rfl rfl
        have h1 := hc.1
        simp only [List.cons.injEq, and_true] at h1
        rw [h1]
        exact OR_C (I.ob n _ hn)
      · cases h
    · cases h
  | sc ext k0 x =>
    cases k0 with
    | sl e' k' =>
      simp only [lst] at h
      split at h
      · rename_i he
        obtain ⟨rfl, rfl⟩ := he
        simp only [Option.some.injEq] at h
        subst h
        exact ext_okt (VT_leaf hV rfl rfl)
      · cases h
    | _ => simp [lst] at h
  | inn n i st path e0 k0 =>
    simp only [lst] at h
    split at h
    · rename_i e' k' deep ys hn
      split at h
      · rename_i hst
        split at h
        · rename_i e1 k1 zs hnav
          split at h
          · rename_i he
            obtain ⟨rfl, rfl⟩ := he
            simp only [Option.some.injEq] at h
            subst h
            obtain ⟨b, m, c, v', h1, h2, _, _, ⟨hi, hp⟩, hcell⟩ := VT_leaf hV rfl rfl
            simp only [List.cons.injEq, and_true] at h2
            subst h2
            obtain ⟨hl, ds, hC, hdl, hdc⟩ := elem_C (I.ob n _ hn) h1 hi
            rw [getD_lt _ _ _ hl] at hnav
            have h3 := nav_C hC hnav hp
            have h4 := C_len h3
            simp only [K.sz] at h3 h4
            obtain ⟨x, hx⟩ : ∃ x, sub ds (pOff path) 1 = [x] := by
              match hq : sub ds (pOff path) 1, h4 with
              | [x], _ => exact ⟨x, rfl⟩
            have h5 : ds[pOff path]? = some x := by
              have := sub_get ds (pOff path) 1 0 (by omega)
              rw [hx] at this
              simpa using this.symm
            have h6 := hdc _ _ h5
            rw [← hst, hcell] at h6
            injection h6 with h6
            subst h6
            rw [← hx]
            exact h3
          · cases h
        · cases h
      · cases h
    · cases h
  | z =>
    simp only [lst, Option.some.injEq] at h
    subst h
    obtain ⟨A, hA⟩ := VT_leaf hV rfl rfl
    simp only [List.cons.injEq, and_true] at hA
    subst hA
    exact ⟨A, 0, rfl, Nat.le_refl _, by simp, fun h => absurd h (by simp), fun ad _ j hj => absurd hj (by simp)⟩
  | _ => simp [lst] at h

theorem run_len (hT : TOk P T) (I : Inv F w0 N s a w g) {o : Oper} {x : Operand} {t : Nat} {v : TV} {n : Int} (ho : o.op = .call { callee := .builtin .len, args := #[x], argTypes := #[t] })
    (h : evo (lk s.tm) x = some v) (hn : vlen (lk s.ob) (T t) v = some n) :
    Runs P F N g w base a o ⟨true, .sc true (.int .i64) n, none⟩ := by
  have hV := eval_VT I h
  refine Runs.pure I (v := .sc true (.int .i64) n) (u := .int .i64 n) ?_ rfl trivial
  cases hk : T t with
  | str =>
    rw [hk] at hn
    cases v with
    | sc ext k0 s0 =>
      cases k0 with
      | str =>
        simp only [vlen, Option.some.injEq] at hn
        subst hn
        obtain ⟨d, hd, hs⟩ := (hT t (by rw [hk]; simp)).und
        rw [hk] at hs
        simp only [shapeOk] at hs
        subst hs
        have hx := VT_leaf hV rfl rfl
        simp only [CT, C, List.cons.injEq, and_true] at hx
        simp [execOp, ho, resolve, invoke, builtin, hx, Builtin.len_, run_underlying hd, goInt]
      | _ => simp [vlen] at hn
    | _ => simp [vlen] at hn
  | sl e k =>
    rw [hk] at hn
    simp only [vlen, Option.map_eq_some_iff] at hn
    obtain ⟨xs, hx, rfl⟩ := hn
    obtain ⟨A, c, h1, _⟩ := lst_C I hV hx
    simp only [List.cons.injEq, and_true] at h1
    obtain ⟨d, hd, hs⟩ := (hT t (by rw [hk]; simp)).und
    rw [hk] at hs
    obtain ⟨rfl, _⟩ := hs
    simp [execOp, ho, resolve, invoke, builtin, h1, Builtin.len_, run_underlying hd, goInt]
  | _ => rw [hk] at hn; simp [vlen] at hn

/-! #### Indices -/
theorem run_indexAt_sl {t e : Nat} {k : K} (hT : TOk P T) (hk : T t = .sl e k) {A : Option Addr} {ad : Addr} {m c : Nat} (hA : A = some ad) {i : Int} {ik : IntKind} (h0 : 0 ≤ i) (h1 : i < m) (w : World) :
    (Instr.indexAt t (.slice A m c) (.int ik i)).run P w = .ok (.pointer (some (ad.add (i.toNat * k.sz)))) w := by
  obtain ⟨d, hd, hs⟩ := (hT t (by rw [hk]; simp)).und
  rw [hk] at hs
  obtain ⟨rfl, he, hne⟩ := hs
  obtain ⟨inf, hi, hsz, _⟩ := (hT e (by rw [he]; exact hne)).info
  rw [he] at hsz
  subst hA
  simp [Instr.indexAt, asIntOf, run_underlying hd, h0, h1, sizeOf, typeInfo, hi, hsz]

theorem run_indexAt_arr {t m : Nat} {k : K} (hT : TOk P T) (hk : T t = .arr m k) {ad : Addr} {i : Int} {ik : IntKind} (h0 : 0 ≤ i) (h1 : i < m) (w : World) :
    (Instr.indexAt t (.pointer (some ad)) (.int ik i)).run P w = .ok (.pointer (some (ad.add (i.toNat * k.sz)))) w := by
  obtain ⟨d, hd, hs⟩ := (hT t (by rw [hk]; simp)).und
  rw [hk] at hs
  obtain ⟨e, rfl, he, hne⟩ := hs
  obtain ⟨inf, hi, hsz, _⟩ := (hT e (by rw [he]; exact hne)).info
  rw [he] at hsz
  simp [Instr.indexAt, asIntOf, run_underlying hd, Instr.sureAddr, h0, h1, sizeOf, typeInfo, hi, hsz]

/-- The pointer to an element of what can be read. -/
theorem cp_elem {ext : Bool} {e m : Nat} {k : K} {xs : List (dn k)} {A : Option Addr} {c : Nat} (h : C w (oks F g.Bx ext) (.sl e k) xs [.slice A m c]) {i : Nat} (hi : i < xs.length) :
    m = xs.length ∧ ∃ ad, A = some ad ∧ VT w F g (.cp ext e k (xs.getD i (dz k))) (.pointer (some (ad.add (i * k.sz)))) := by
  obtain ⟨A', c', h1, _, _, h2, h3⟩ := h
  simp only [List.cons.injEq, Value.slice.injEq, and_true] at h1
  obtain ⟨rfl, rfl, rfl⟩ := h1
  obtain ⟨ad, bt, rfl, hbt, hok⟩ := h2 (by omega)
  obtain ⟨ds, hd, hl, hc⟩ := h3 ad rfl i hi
  refine ⟨rfl, ad, rfl, ad.add (i * k.sz), bt, ds, rfl, by rw [add_block]; exact hbt, by rw [add_block]; exact hok, by rw [getD_lt _ _ _ hi]; exact hd, fun j u hu => ?_⟩
  have hadd : (ad.add (i * k.sz)).add j = ad.add (i * k.sz + j) := by
    unfold Addr.add
    by_cases h1 : i * k.sz = 0 <;> by_cases h2 : j = 0 <;> simp [h1, h2, Nat.add_assoc]
  rw [hadd]
  exact hc j u hu

theorem run_idx (hT : TOk P T) (I : Inv F w0 N s a w g) {o : Oper} {t : Nat} {x ix : Operand} {v vi : TV} {i : Int} {out : Out} (ho : o.op = .indexAddr t x ix) (h : evo (lk s.tm) x = some v)
    (hi : evo (lk s.tm) ix = some vi) (hi2 : asI vi = some i) (hv : vidx T (lk s.ob) t v i = some out) (hok : out.ok = true) : Runs P F N g w base a o out := by
  have hV := eval_VT I h
  have hN := evo_nms I h
  obtain ⟨ik, hik⟩ := asI_VT (eval_VT I hi) hi2
  unfold vidx at hv
  split at hv
  · rename_i e k hk
    split at hv
    · rename_i n
      simp only [Option.map_eq_some_iff] at hv
      obtain ⟨xs, hx, rfl⟩ := hv
      simp only [decide_eq_true_eq] at hok
      have hC := lst_C I hV hx
      simp only [lst] at hx
      split at hx
      · rename_i e' k' deep ys hn
        split at hx
        · rename_i he
          obtain ⟨rfl, rfl⟩ := he
          simp only [Option.some.injEq] at hx
          subst hx
          obtain ⟨h1, A, m, c, h2⟩ := VT_leaf hV rfl rfl
          simp only [List.cons.injEq, and_true] at h1
          rw [h2] at h1
          obtain ⟨h3, _⟩ := I.ob n _ hn
          rcases h3 with ⟨h3, _⟩ | ⟨b, cap, cur, f, ds, h3, _⟩
          · rw [h3] at hok; simp at hok; omega
          · rw [h3] at h2
            simp only [Value.slice.injEq] at h2
            obtain ⟨rfl, rfl, rfl⟩ := h2
            have hr := run_indexAt_sl hT hk (A := some ⟨b, 0, none⟩) rfl (c := cap) (ik := ik) hok.1 hok.2 w
            refine Runs.pure I (v := .ep n i.toNat k'.sz []) (u := .pointer (some ⟨b, i.toNat * k'.sz, none⟩)) ?_ ?_ hN
            · simp [execOp, ho, h1, hik, hr, add_plain]
            · exact ⟨b, _, _, h3, ⟨by omega, trivial⟩, by simp [pOff]⟩
        · cases hx
      · cases hx
    · rename_i ext e' k' xs0
      simp only [Option.map_eq_some_iff] at hv
      obtain ⟨xs, hx, rfl⟩ := hv
      simp only [decide_eq_true_eq] at hok
      simp only [lst] at hx
      split at hx
      · rename_i he
        obtain ⟨rfl, rfl⟩ := he
        simp only [Option.some.injEq] at hx
        subst hx
        have hC := VT_leaf hV rfl rfl
        obtain ⟨A, c, h1, _⟩ := id hC
        simp only [List.cons.injEq, and_true] at h1
        rw [h1] at hC
        obtain ⟨hm, ad, hA, hcp⟩ := cp_elem (i := i.toNat) hC (by omega)
        have hr := run_indexAt_sl hT hk hA (m := List.length xs0) (c := c) (ik := ik) hok.1 hok.2 w
        refine Runs.pure I (v := .cp ext e' k' _) (u := .pointer (some (ad.add (i.toNat * k'.sz)))) ?_ hcp trivial
        simp [execOp, ho, h1, hik, hr]
      · cases hx
    · rename_i n j st path e' k'
      simp only [Option.map_eq_some_iff] at hv
      obtain ⟨xs, hx, rfl⟩ := hv
      simp only [decide_eq_true_eq] at hok
      have hC := lst_C I hV hx
      obtain ⟨A, c, h1, _⟩ := id hC
      simp only [List.cons.injEq, and_true] at h1
      rw [h1] at hC
      obtain ⟨hm, ad, hA, hcp⟩ := cp_elem (ext := false) (i := i.toNat) hC (by omega)
      have hr := run_indexAt_sl hT hk hA (m := xs.length) (c := c) (ik := ik) hok.1 hok.2 w
      refine Runs.pure I (v := .cp false e k _) (u := .pointer (some (ad.add (i.toNat * k.sz)))) ?_ hcp trivial
      simp [execOp, ho, h1, hik, hr]
    · cases hv
  · rename_i m k hk
    split at hv
    · rename_i n path
      simp only [Option.some.injEq] at hv
      subst hv
      simp only [decide_eq_true_eq] at hok
      obtain ⟨b, h1, h2, h3⟩ := VT_leaf hV rfl rfl
      simp only [List.cons.injEq, and_true] at h3
      have hr := run_indexAt_arr hT hk (ad := ⟨b, pOff path, none⟩) (ik := ik) hok.1 hok.2 w
      refine Runs.pure I (v := .bp n (path ++ [.ix i.toNat k.sz m])) (u := .pointer (some ⟨b, pOff path + i.toNat * k.sz, none⟩)) ?_ ?_ (show N n from hN)
      · simp [execOp, ho, h3, hik, hr, add_off]
      · exact ⟨b, h1, (pOk_append _ _).2 ⟨h2, by omega, trivial⟩, by simp [pOff_append, pOff]⟩
    · rename_i n j st path
      simp only [Option.some.injEq] at hv
      subst hv
      simp only [decide_eq_true_eq] at hok
      obtain ⟨b, m', c, h1, h2, h3⟩ := VT_leaf hV rfl rfl
      simp only [List.cons.injEq, and_true] at h3
      have hr := run_indexAt_arr hT hk (ad := ⟨b, j * st + pOff path, none⟩) (ik := ik) hok.1 hok.2 w
      refine Runs.pure I (v := .ep n j st (path ++ [.ix i.toNat k.sz m])) (u := .pointer (some ⟨b, j * st + pOff path + i.toNat * k.sz, none⟩)) ?_ ?_ (show N n from hN)
      · simp [execOp, ho, h3, hik, hr, add_off]
      · exact ⟨b, m', c, h1, ⟨h2.1, (pOk_append _ _).2 ⟨h2.2, by omega, trivial⟩⟩, by simp [pOff_append, pOff, Nat.add_assoc]⟩
    · rename_i ext e m' k' x'
      split at hv
      · rename_i he
        obtain ⟨rfl, rfl⟩ := he
        simp only [Option.some.injEq] at hv
        subst hv
        simp only [decide_eq_true_eq] at hok
        obtain ⟨ad, bt, ds, h1, h2, h3, hC, hcell⟩ := VT_leaf hV rfl rfl
        simp only [List.cons.injEq, and_true] at h1
        have hr := run_indexAt_arr hT hk (ad := ad) (ik := ik) hok.1 hok.2 w
        have hlt : i.toNat < List.length x' := by rw [hC.1]; omega
        refine Runs.pure I (v := .cp ext e k' _) (u := .pointer (some (ad.add (i.toNat * k'.sz)))) ?_ ?_ trivial
        · simp [execOp, ho, h1, hik, hr]
        · refine ⟨_, bt, _, rfl, by rw [add_block]; exact h2, by rw [add_block]; exact h3, ?_, sub_cells hcell _ k'.sz⟩
          rw [getD_lt _ _ _ hlt]
          exact hC.2.2 i.toNat hlt
      · cases hv
    · cases hv
  · cases hv

end
end Go.Vm

/- The value machine, part 10: arithmetic and the small operations. -/
set_option linter.unusedVariables false
set_option linter.unusedSimpArgs false
namespace Go.Vm

section
variable {P : Program} {T : Nat → K} {w w' : World} {w0 : W0} {F N : Nat → Prop} {g g' : G} {s : St} {a : Act} {base : Nat}

theorem run_nil (I : Inv F w0 N s a w g) {o : Oper} {x : Operand} {v : TV} (ho : o.op = .nilCheck x) (h : evo (lk s.tm) x = some v)
    (hv : (∃ n p, v = .bp n p) ∨ (∃ n i st p, v = .ep n i st p) ∨ (∃ e t k y, v = .cp e t k y) ∨ ∃ f c, v = .fn f c) : Runs P F N g w base a o ⟨true, v, none⟩ := by
  have hV := eval_VT I h
  have hN := evo_nms I h
  rcases hv with ⟨n, p, rfl⟩ | ⟨n, i, st, p, rfl⟩ | ⟨e, t, k, y, rfl⟩ | ⟨f, c, rfl⟩
  · obtain ⟨b, h1, h2, h3⟩ := VT_leaf hV rfl rfl
    simp only [List.cons.injEq, and_true] at h3
    refine Runs.pure I (v := .bp n p) (u := a.eval x) ?_ hV hN
    simp [execOp, ho, h3]
  · obtain ⟨b, m, c, h1, h2, h3⟩ := VT_leaf hV rfl rfl
    simp only [List.cons.injEq, and_true] at h3
    refine Runs.pure I (v := .ep n i st p) (u := a.eval x) ?_ hV hN
    simp [execOp, ho, h3]
  · obtain ⟨ad, bt, ds, h1, _⟩ := VT_leaf hV rfl rfl
    simp only [List.cons.injEq, and_true] at h1
    refine Runs.pure I (v := .cp e t k y) (u := a.eval x) ?_ hV hN
    simp [execOp, ho, h1]
  · obtain ⟨vs, h1, _⟩ := VT_leaf hV rfl rfl
    simp only [List.cons.injEq, and_true] at h1
    refine Runs.pure I (v := .fn f c) (u := a.eval x) ?_ hV hN
    simp [execOp, ho, h1]

theorem sc_int {ext : Bool} {k : IntKind} {n : Int} {u : Value} (h : VT w F g (.sc ext (.int k) n) u) : u = .int k n := by
  have := VT_leaf h rfl rfl
  simpa [CT, C] using this
theorem sc_bool {ext : Bool} {b : Bool} {u : Value} (h : VT w F g (.sc ext .bool b) u) : u = .bool b := by
  have := VT_leaf h rfl rfl
  simpa [CT, C] using this
theorem sc_str {ext : Bool} {b : ByteArray} {u : Value} (h : VT w F g (.sc ext .str b) u) : u = .string b := by
  have := VT_leaf h rfl rfl
  simpa [CT, C] using this

theorem Runs.int (I : Inv F w0 N s a w g) {o : Oper} {k : IntKind} {n : Int} {b : Bool} (hr : (execOp a.eval o).run P w = .ok (.value (.int k n)) w) :
    Runs P F N g w base a o ⟨b, .sc true (.int k) n, none⟩ := Runs.pure I (v := .sc true (.int k) n) hr rfl trivial
theorem Runs.bool (I : Inv F w0 N s a w g) {o : Oper} {n : Bool} {b : Bool} (hr : (execOp a.eval o).run P w = .ok (.value (.bool n)) w) :
    Runs P F N g w base a o ⟨b, .sc true .bool n, none⟩ := Runs.pure I (v := .sc true .bool n) hr rfl trivial

theorem beqd (x y : Int) : (x == y) = decide (x = y) := by rw [Bool.eq_iff_iff]; simp
theorem run_guard_int (op : BinOp) (t : Nat) (x y : Operand) (k k' : IntKind) (m n : Int) (w : World) : (eqGuard op t x y (.int k m) (.int k' n)).run P w = .ok () w := by
  cases op <;> simp [eqGuard]
theorem run_guard_bool (op : BinOp) (t : Nat) (x y : Operand) (m n : Bool) (w : World) : (eqGuard op t x y (.bool m) (.bool n)).run P w = .ok () w := by
  cases op <;> simp [eqGuard]
theorem run_guard_str (op : BinOp) (t : Nat) (x y : Operand) (m n : ByteArray) (w : World) : (eqGuard op t x y (.string m) (.string n)).run P w = .ok () w := by
  cases op <;> simp [eqGuard]

theorem run_vint (I : Inv F w0 N s a w g) {o : Oper} {op : BinOp} {t ty : Nat} {x y : Operand} {k : IntKind} {m n : Int} {out : Out} (ho : o.op = .binOp op t x y ty)
    (hx : a.eval x = .int k m) (hy : a.eval y = .int k n) (hv : vint op k m n = some out) (hok : out.ok = true) : Runs P F N g w base a o out := by
  have hg := run_guard_int (P := P) op t x y k k m n w
  cases op <;> simp only [vint, Option.some.injEq, bitop, Option.map_some, Option.map_none, reduceCtorEq] at hv <;> try subst hv
  case add => exact Runs.int I (by simp [execOp, ho, hx, hy, hg, binOp, Op.intArith])
  case sub => exact Runs.int I (by simp [execOp, ho, hx, hy, hg, binOp, Op.intArith])
  case mul => exact Runs.int I (by simp [execOp, ho, hx, hy, hg, binOp, Op.intArith])
  case quo =>
    have hn : n ≠ 0 := by simpa using hok
    exact Runs.int I (by simp [execOp, ho, hx, hy, hg, binOp, Op.intDiv, hn])
  case rem =>
    have hn : n ≠ 0 := by simpa using hok
    exact Runs.int I (by simp [execOp, ho, hx, hy, hg, binOp, Op.intDiv, hn])
  case and => exact Runs.int I (by simp [execOp, ho, hx, hy, hg, binOp, Op.intBits])
  case or => exact Runs.int I (by simp [execOp, ho, hx, hy, hg, binOp, Op.intBits])
  case xor => exact Runs.int I (by simp [execOp, ho, hx, hy, hg, binOp, Op.intBits])
  case andNot => exact Runs.int I (by simp [execOp, ho, hx, hy, hg, binOp, Op.intBits])
  case eql => exact Runs.bool I (by simp [execOp, ho, hx, hy, hg, binOp, Op.intCmp, beqd])
  case neq => exact Runs.bool I (by simp [execOp, ho, hx, hy, hg, binOp, Op.intCmp, bne, beqd])
  case lss => exact Runs.bool I (by simp [execOp, ho, hx, hy, hg, binOp, Op.intCmp])
  case leq => exact Runs.bool I (by simp [execOp, ho, hx, hy, hg, binOp, Op.intCmp])
  case gtr => exact Runs.bool I (by simp [execOp, ho, hx, hy, hg, binOp, Op.intCmp])
  case geq => exact Runs.bool I (by simp [execOp, ho, hx, hy, hg, binOp, Op.intCmp])

theorem run_vshift (I : Inv F w0 N s a w g) {o : Oper} {op : BinOp} {t ty : Nat} {x y : Operand} {k k' : IntKind} {m n : Int} {out : Out} (ho : o.op = .binOp op t x y ty)
    (hx : a.eval x = .int k m) (hy : a.eval y = .int k' n) (hv : vshift op k m n = some out) (hok : out.ok = true) : Runs P F N g w base a o out := by
  have hg := run_guard_int (P := P) op t x y k k' m n w
  cases op <;> simp only [vshift, Option.some.injEq, reduceCtorEq] at hv <;> try subst hv
  case shl =>
    have hn : ¬ n < 0 := by simpa using hok
    exact Runs.int I (by simp [execOp, ho, hx, hy, hg, binOp, Op.shift, hn])
  case shr =>
    have hn : ¬ n < 0 := by simpa using hok
    exact Runs.int I (by simp [execOp, ho, hx, hy, hg, binOp, Op.shift, hn])

theorem toList_inj {x y : ByteArray} : x.toList = y.toList ↔ x = y := by
  constructor
  · intro h
    have h2 : x.data.toList = y.data.toList := by rw [← Go.ByteArray.toList_eq, ← Go.ByteArray.toList_eq]; exact h
    cases x; cases y
    simp only [ByteArray.mk.injEq]
    exact Array.toList_inj.1 h2
  · rintro rfl; rfl

theorem beqs (x y : ByteArray) : (x.toList == y.toList) = decide (x = y) := by rw [Bool.eq_iff_iff]; simp [toList_inj]
theorem run_vstr (I : Inv F w0 N s a w g) {o : Oper} {op : BinOp} {t ty : Nat} {x y : Operand} {m n : ByteArray} {out : Out} (ho : o.op = .binOp op t x y ty)
    (hx : a.eval x = .string m) (hy : a.eval y = .string n) (hv : vstr op m n = some out) (hok : out.ok = true) : Runs P F N g w base a o out := by
  have hg := run_guard_str (P := P) op t x y m n w
  cases op <;> simp only [vstr, Option.some.injEq, reduceCtorEq] at hv <;> try subst hv
  case add =>
    simp only [decide_eq_true_eq] at hok
    have hn : ¬ ((m.size + n.size : Nat) : Int) > IntKind.i64.max := by simp [IntKind.max, IntKind.signed, IntKind.bits]; omega
    refine Runs.pure I (v := .sc true .str (m ++ n)) (u := .string (m ++ n)) ?_ rfl trivial
    simp only [execOp, ho, hx, hy, Sem.run_bind, hg, Result.andThen_ok, binOp, Op.stringOp, if_neg hn, Sem.run_pure]
  case eql => exact Runs.bool I (by simp [execOp, ho, hx, hy, hg, binOp, Op.stringOp, beqs])
  case neq => exact Runs.bool I (by simp [execOp, ho, hx, hy, hg, binOp, Op.stringOp, beqs])
  case lss => exact Runs.bool I (by simp [execOp, ho, hx, hy, hg, binOp, Op.stringOp])

theorem run_equal_bool {t : Nat} (h : P.underlying t = some .bool) (x y : Bool) (w : World) : (Op.equal t (.bool x) (.bool y)).run P w = .ok (x == y) w := by
  show (Op.equalIn (9999 + 1) t (.bool x) (.bool y)).run P w = _
  generalize 9999 = d
  simp [Op.equalIn, run_underlying h]

theorem run_vbool (hT : TOk P T) (I : Inv F w0 N s a w g) {o : Oper} {op : BinOp} {t ty : Nat} {x y : Operand} {m n : Bool} {out : Out} (ho : o.op = .binOp op t x y ty) (ht : T t = .bool)
    (hx : a.eval x = .bool m) (hy : a.eval y = .bool n) (hv : vbool op m n = some out) (hok : out.ok = true) : Runs P F N g w base a o out := by
  have hg := run_guard_bool (P := P) op t x y m n w
  obtain ⟨d, hd, hs⟩ := (hT t (by rw [ht]; simp)).und
  rw [ht] at hs
  simp only [shapeOk] at hs
  subst hs
  have he := run_equal_bool hd m n w
  cases op <;> simp only [vbool, Option.some.injEq, reduceCtorEq] at hv <;> try subst hv
  case eql => exact Runs.bool I (by simp only [execOp, ho, hx, hy, Sem.run_bind, hg, Result.andThen_ok, binOp, he, Sem.run_pure])
  case neq => exact Runs.bool I (by simp only [execOp, ho, hx, hy, Sem.run_bind, hg, Result.andThen_ok, binOp, he, Sem.run_pure])

theorem run_bin (hT : TOk P T) (I : Inv F w0 N s a w g) {o : Oper} {op : BinOp} {t ty : Nat} {x y : Operand} {u v : TV} {out : Out} (ho : o.op = .binOp op t x y ty)
    (hx : evo (lk s.tm) x = some u) (hy : evo (lk s.tm) y = some v) (hv : vbin T op t u v = some out) (hok : out.ok = true) : Runs P F N g w base a o out := by
  have hX := eval_VT I hx
  have hY := eval_VT I hy
  unfold vbin at hv
  split at hv
  · split at hv
    · exact run_vshift I ho (sc_int hX) (sc_int hY) hv hok
    · split at hv
      · rename_i hk
        subst hk
        exact run_vint I ho (sc_int hX) (sc_int hY) hv hok
      · cases hv
  · exact run_vstr I ho (sc_str hX) (sc_str hY) hv hok
  · split at hv
    · rename_i ht
      exact run_vbool hT I ho ht (sc_bool hX) (sc_bool hY) hv hok
    · cases hv
  · cases hv

theorem run_not (I : Inv F w0 N s a w g) {o : Oper} {x : Operand} {t : Nat} {e b : Bool} (ho : o.op = .unOp .not t x) (h : evo (lk s.tm) x = some (.sc e .bool b)) :
    Runs P F N g w base a o ⟨true, .sc true .bool (!b), none⟩ := by
  have hx := sc_bool (eval_VT I h)
  exact Runs.bool I (by simp [execOp, ho, hx, Op.unary])

theorem run_neg (I : Inv F w0 N s a w g) {o : Oper} {x : Operand} {t : Nat} {e : Bool} {k : IntKind} {n : Int} (ho : o.op = .unOp .neg t x) (h : evo (lk s.tm) x = some (.sc e (.int k) n)) :
    Runs P F N g w base a o ⟨true, .sc true (.int k) (k.wrap (0 - n)), none⟩ := by
  have hx := sc_int (eval_VT I h)
  exact Runs.int I (by simp [execOp, ho, hx, Op.unary, Op.intArith])

theorem run_conv (hT : TOk P T) (I : Inv F w0 N s a w g) {o : Oper} {x : Operand} {t d : Nat} {e : Bool} {k k' : IntKind} {n : Int} (ho : o.op = .convert t d x) (h : evo (lk s.tm) x = some (.sc e (.int k) n))
    (hd : T d = .int k') (hs : T t ≠ .un) : Runs P F N g w base a o ⟨true, .sc true (.int k') (k'.wrap n), none⟩ := by
  have hx := sc_int (eval_VT I h)
  obtain ⟨d1, hd1, hs1⟩ := (hT d (by rw [hd]; simp)).und
  rw [hd] at hs1
  simp only [shapeOk] at hs1
  subst hs1
  obtain ⟨d2, hd2, _⟩ := (hT t hs).und
  refine Runs.int I ?_
  simp only [execOp, ho, hx, convert, Sem.run_bind, run_underlying hd1, run_underlying hd2, Result.andThen_ok]
  cases d2 <;> simp [Conv.intToInt]

theorem nth_VT : ∀ {v r : TV} {i : Nat} {u : Value}, VT w F g v u → nth v i = some r → ∃ vs : Array Value, u = .tuple vs ∧ ∃ x, vs[i]? = some x ∧ VT w F g r x := by
  intro v
  induction v with
  | tc a b iha ihb =>
    intro r i u h hn
    obtain ⟨v1, vs, rfl, h1, h2⟩ := h
    cases i with
    | zero =>
      simp only [nth, Option.some.injEq] at hn
      subst hn
      exact ⟨_, rfl, v1, by simp, h1⟩
    | succ i =>
      obtain ⟨vs', he, x, hx, hr⟩ := ihb h2 hn
      simp only [Value.tuple.injEq] at he
      subst he
      exact ⟨_, rfl, x, by simpa using hx, hr⟩
  | _ => intro r i u h hn; simp [nth] at hn

theorem nth_nms : ∀ {v r : TV} {i : Nat}, v.nms N → nth v i = some r → r.nms N := by
  intro v
  induction v with
  | tc a b iha ihb =>
    intro r i h hn
    cases i with
    | zero => simp only [nth, Option.some.injEq] at hn; subst hn; exact h.1
    | succ i => exact ihb h.2 hn
  | _ => intro r i h hn; simp [nth] at hn

theorem run_extract (I : Inv F w0 N s a w g) {o : Oper} {x : Operand} {i : Nat} {v r : TV} (ho : o.op = .extract x i) (h : evo (lk s.tm) x = some v) (hn : nth v i = some r) :
    Runs P F N g w base a o ⟨true, r, none⟩ := by
  obtain ⟨vs, h1, y, h2, h3⟩ := nth_VT (eval_VT I h) hn
  refine Runs.pure I (u := y) ?_ h3 (nth_nms (evo_nms I h) hn)
  simp [execOp, ho, h1, Instr.extract, h2]

theorem run_index (hT : TOk P T) (I : Inv F w0 N s a w g) {o : Oper} {x ix : Operand} {t : Nat} {e : Bool} {b : ByteArray} {vi : TV} {i : Int} (ho : o.op = .index t x ix) (ht : T t = .str)
    (h : evo (lk s.tm) x = some (.sc e .str b)) (hi : evo (lk s.tm) ix = some vi) (hi2 : asI vi = some i) (h0 : 0 ≤ i) (h1 : i < b.size) {bb : Bool} :
    Runs P F N g w base a o ⟨bb, .sc true (.int .u8) (bt b i.toNat), none⟩ := by
  have hx := sc_str (eval_VT I h)
  obtain ⟨ik, hik⟩ := asI_VT (eval_VT I hi) hi2
  obtain ⟨d1, hd1, hs1⟩ := (hT t (by rw [ht]; simp)).und
  rw [ht] at hs1
  simp only [shapeOk] at hs1
  subst hs1
  have hlt : i.toNat < b.size := by omega
  have hg : b[i.toNat]? = some b[i.toNat] := by simp [hlt]
  refine Runs.int I ?_
  simp [execOp, ho, hx, hik, Instr.index, asIntOf, run_underlying hd1, h0, hg, bt, hlt]

end
end Go.Vm

/- The value machine, part 11: rows and structs that are built. -/
set_option linter.unusedVariables false
set_option linter.unusedSimpArgs false
namespace Go.Vm

/-- l put in place of what lies from o on. -/
def put (cs : List Value) (o : Nat) (l : List Value) : List Value := cs.take o ++ l ++ cs.drop (o + l.length)

theorem put_len (cs l : List Value) (o : Nat) (h : o + l.length ≤ cs.length) : (put cs o l).length = cs.length := by
  simp [put]; omega
theorem put_get (cs l : List Value) (o i : Nat) (h : o + l.length ≤ cs.length) : (put cs o l)[i]? = if o ≤ i ∧ i < o + l.length then l[i - o]? else cs[i]? := by
  unfold put
  by_cases h1 : i < o
  · rw [if_neg (by omega), List.append_assoc, List.getElem?_append_left (by simp; omega)]
    simp [h1]
  · by_cases h2 : i < o + l.length
    · rw [if_pos (by omega), List.getElem?_append_left (by simp; omega), List.getElem?_append_right (by simp; omega)]
      congr 1
      simp
      omega
    · rw [if_neg (by omega), List.getElem?_append_right (by simp; omega), List.getElem?_drop]
      congr 1
      simp
      omega

theorem foldl_put : ∀ (l : List Value) (k o : Nat) (cs : Array Value), o + k + l.length ≤ cs.size →
    ((l.zipIdx k).foldl (fun cs p => cs.setIfInBounds (o + p.2) p.1) cs).toList = put cs.toList (o + k) l := by
  intro l
  induction l with
  | nil => intro k o cs h; simp [put]
  | cons c r ih =>
    intro k o cs h
    simp only [List.length_cons] at h
    rw [List.zipIdx_cons, List.foldl_cons, ih (k + 1) o _ (by simp; omega)]
    apply List.ext_getElem?
    intro i
    rw [put_get _ _ _ _ (by simp; omega), put_get _ _ _ _ (by simp; omega)]
    simp only [Array.toList_setIfInBounds, List.length_cons]
    by_cases h1 : i = o + k
    · subst h1
      rw [if_neg (by omega), if_pos (by omega), List.getElem?_set_self (by simp; omega)]
      simp
    · by_cases h2 : o + k < i ∧ i < o + k + (r.length + 1)
      · rw [if_pos (by omega), if_pos (by omega)]
        rw [show i - (o + k) = (i - (o + (k + 1))) + 1 by omega]
        simp
      · rw [if_neg (by omega), if_neg (by omega), List.getElem?_set_ne (by omega)]

section
variable {P : Program} {T : Nat → K} {w w' : World} {w0 : W0} {F N : Nat → Prop} {g g' : G} {s : St} {a : Act} {base : Nat}

theorem O_zero {w : World} : ∀ k : K, O w k (dz k) (zC k) (fun _ => False) := by
  intro k
  induction k with
  | int ik => exact ⟨rfl, fun _ h => h⟩
  | bool => exact ⟨rfl, fun _ h => h⟩
  | str => exact ⟨rfl, fun _ h => h⟩
  | sl e k ih => exact ⟨_, rfl, .inl ⟨rfl, ⟨none, rfl⟩, fun _ h => h⟩⟩
  | arr n k ih => exact ⟨C_zero _, fun _ h => h⟩
  | pr a b iha ihb => exact ⟨zC a, zC b, _, _, rfl, iha, ihb, fun _ h _ => h, fun _ => ⟨fun h => .inl h, fun h => h.elim id id⟩⟩
  | un => exact ⟨rfl, fun _ h => h⟩

theorem run_makeS (hT : TOk P T) (I : Inv F w0 N s a w g) (hb : ¬ N base) {o : Oper} {t e : Nat} {k : K} {l c : Operand} {vl : TV} {n : Int} (ho : o.op = .makeSlice t l c) (hs : sameOp l c = true)
    (h : evo (lk s.tm) l = some vl) (hn : asI vl = some n) (hk : T t = .sl e k) (h0 : 0 ≤ n) (h1 : n ≤ LIM) {bb : Bool} :
    Runs P F N g w base a o ⟨bb, .al base, some (.ls e k true (List.replicate n.toNat (dz k)))⟩ := by
  obtain ⟨ik, hl⟩ := asI_VT (eval_VT I h) hn
  have hc : a.eval c = .int ik n := by
    rw [← hl]
    cases l <;> cases c <;> simp only [sameOp, beq_iff_eq, Bool.false_eq_true] at hs
    · rw [hs]
    · rename_i v1 v2
      cases v1 <;> cases v2 <;> simp [sameOp] at hs
      obtain ⟨rfl, rfl⟩ := hs
      rfl
  obtain ⟨d, hd, hsh⟩ := (hT t (by rw [hk]; simp)).und
  rw [hk] at hsh
  obtain ⟨rfl, he, hne⟩ := hsh
  obtain ⟨i, hi, hsz, hz, hb0, hb1⟩ := (hT e (by rw [he]; exact hne)).info
  rw [he] at hsz hz
  simp only [LIM] at h1
  have hbytes : (i.bytes : Int) * n ≤ 281474976710656 := by
    have : (i.bytes : Int) * n ≤ 131072 * 1073741824 := Int.mul_le_mul (by omega) h1 h0 (by omega)
    omega
  have hr := run_make (P := P) w t e i (zV k) hd hi hz ik ik n n h0 (Int.le_refl _) hbytes (by omega)
  rw [zV_cells, hsz] at hr
  have hlen : (zC k).length = k.sz := zC_len k
  obtain ⟨m, hv⟩ := made_row I hb (e := e) (k := k) (deep := true) (xs := List.replicate n.toNat (dz k)) (cur := madeCells (zC k).toArray (n.toNat * k.sz)) (u := .slice (some ⟨w.heap.size, 0, none⟩) n.toNat n.toNat)
    (f := fun b => b = w.heap.size) ⟨_, _, _, rfl⟩ (fun b hb => by subst hb; exact Nat.le_refl _) (fun g' turn => by
      refine .inr ⟨w.heap.size, n.toNat, _, fun _ _ => False, fun _ => zC k, by simp, heap_alloc_new w _, by simp, by omega, by simp [size_madeCells], fun j hj => ⟨?_, hlen, fun i hi => ?_⟩, fun _ _ _ _ _ _ h _ => h, fun _ _ h => h, fun b => by simp⟩
      · simp only [List.getElem_replicate, LR, if_true]
        exact O_zero k
      · have hj' : j < n.toNat := by simpa using hj
        have hlt : j * k.sz + i < n.toNat * k.sz := by
          have : (j + 1) * k.sz ≤ n.toNat * k.sz := Nat.mul_le_mul_right _ hj'
          rw [Nat.succ_mul] at this
          omega
        have hmod : (j * k.sz + i) % k.sz = i := by rw [Nat.mul_comm, Nat.mul_add_mod, Nat.mod_eq_of_lt hi]
        simp only [madeCells, Array.getElem?_map, Array.getElem?_range, List.size_toArray, hlen]
        rw [if_pos hlt]
        simp only [Option.map_some, hmod]
        simp [hlen, hi])
  refine ⟨_, _, _, ?_, m, hv, .inr ⟨rfl, by simp⟩⟩
  simp [execOp, ho, hl, hc, hr]

theorem flatD_C : ∀ {v : TV} {k : K} {x : dn k} {cs : List Value}, CT w F g v cs → flatD k v = some x → k.flat = true ∧ ∀ w' ok, C w' ok k x cs := by
  intro v
  induction v with
  | sc ext k' y =>
    intro k x cs h hf
    simp only [flatD] at hf
    split at hf
    · rename_i hk
      subst hk
      split at hf
      · rename_i hfl
        simp only [Option.some.injEq] at hf
        subst hf
        exact ⟨hfl, fun w' ok => C_flat hfl h⟩
      · cases hf
    · cases hf
  | pr a b iha ihb =>
    intro k x cs h hf
    cases k with
    | pr ka kb =>
      simp only [flatD, Option.bind_eq_some_iff, Option.map_eq_some_iff] at hf
      obtain ⟨x1, h1, x2, h2, rfl⟩ := hf
      obtain ⟨c1, c2, rfl, hc1, hc2⟩ := h
      obtain ⟨f1, q1⟩ := iha hc1 h1
      obtain ⟨f2, q2⟩ := ihb hc2 h2
      exact ⟨by simp [K.flat, f1, f2], fun w' ok => ⟨c1, c2, rfl, q1 w' ok, q2 w' ok⟩⟩
    | _ => simp [flatD] at hf
  | un =>
    intro k x cs h hf
    cases k with
    | un => exact ⟨rfl, fun _ _ => h⟩
    | _ => simp [flatD] at hf
  | _ => intro k x cs h hf; simp [flatD] at hf

theorem flatD_live {v : TV} {k : K} {x : dn k} (hf : flatD k v = some x) : live v = true := by
  cases v <;> first | rfl | simp [flatD] at hf

/-- What a row literal's parts lay. -/
theorem fill_row (sz : Nat) : ∀ (ps : List (Nat × Value)) (i0 : Nat) (cells : Array Value), (∀ j p, ps[j]? = some p → p.1 = i0 + j ∧ p.2.cells.size = sz) → (i0 + ps.length) * sz ≤ cells.size →
    ∃ cs : Array Value, Instr.fill (fun i => some (i * sz, sz)) cells ps = some cs ∧ cs.size = cells.size ∧ (∀ i, i < i0 * sz → cs[i]? = cells[i]?) ∧
      ∀ j p, ps[j]? = some p → ∀ i, i < sz → cs[(i0 + j) * sz + i]? = p.2.cells[i]? := by
  intro ps
  induction ps with
  | nil => intro i0 cells _ _; exact ⟨cells, rfl, rfl, fun _ _ => rfl, fun j p h => by simp at h⟩
  | cons p r ih =>
    intro i0 cells hp hl
    obtain ⟨h1, h2⟩ := hp 0 p rfl
    obtain ⟨pi, pv⟩ := p
    simp only [Nat.add_zero] at h1 h2
    subst h1
    simp only [List.length_cons] at hl
    have hle : pi * sz + sz ≤ cells.size := by
      have : (pi + 1) * sz ≤ (pi + (r.length + 1)) * sz := Nat.mul_le_mul_right _ (by omega)
      rw [Nat.succ_mul] at this
      omega
    have hput := foldl_put pv.cells.toList 0 (pi * sz) cells (by simp [h2]; omega)
    simp only [Nat.add_zero] at hput
    generalize hcs : ((pv.cells.toList.zipIdx 0).foldl (fun cs p => cs.setIfInBounds (pi * sz + p.2) p.1) cells) = cells' at hput
    have hsz : cells'.size = cells.size := by
      have := congrArg List.length hput
      rw [put_len _ _ _ (by simp [h2]; omega)] at this
      simpa using this
    obtain ⟨cs, hf, hs, hlow, hhi⟩ := ih (pi + 1) cells' (fun j q hq => by
      have := hp (j + 1) q (by simpa using hq)
      exact ⟨by omega, this.2⟩) (by rw [hsz, Nat.add_assoc, Nat.add_comm 1]; exact hl)
    refine ⟨cs, ?_, by omega, fun i hi => ?_, fun j q hq i hi => ?_⟩
    · have hz : pv.cells.zipIdx.foldl (fun cs (p : Value × Nat) => cs.setIfInBounds (pi * sz + p.2) p.1) cells = cells' := by
        rw [← hcs, ← Array.foldl_toList]
        congr 1
        simp [Array.toList_zipIdx]
      rw [Instr.fill]
      simp only []
      rw [if_neg (by simp [h2]; omega)]
      have hz' : (Array.foldl (fun cs (x : Value × Nat) => match x with | (c, j) => cs.setIfInBounds (pi * sz + j) c) cells pv.cells.zipIdx) = cells' := by
        rw [← hz]
      rw [hz']
      exact hf
    · have hi' : i < (pi + 1) * sz := by rw [Nat.succ_mul]; omega
      rw [hlow i hi']
      have := congrArg (fun (l : List Value) => l[i]?) hput
      rw [put_get _ _ _ _ (by simp [h2]; omega), if_neg (by omega)] at this
      simpa using this
    · cases j with
      | zero =>
        simp only [List.getElem?_cons_zero, Option.some.injEq] at hq
        subst hq
        simp only [Nat.add_zero]
        rw [hlow _ (by rw [Nat.succ_mul]; omega)]
        have := congrArg (fun (l : List Value) => l[pi * sz + i]?) hput
        rw [put_get _ _ _ _ (by simp [h2]; omega), if_pos ⟨by omega, by simp [h2]; omega⟩] at this
        simpa using this
      | succ j =>
        have := hhi j q (by simpa using hq) i hi
        rw [show pi + (j + 1) = pi + 1 + j by omega]
        exact this

theorem evs_spec {lt : Nat → Option TV} : ∀ {l : List (Nat × Operand)} {vs : List (Nat × TV)}, evs lt l = some vs → vs.length = l.length ∧ ∀ (j : Nat) (q : Nat × Operand), l[j]? = some q → ∃ v, vs[j]? = some (q.1, v) ∧ evo lt q.2 = some v := by
  intro l
  induction l with
  | nil => intro vs h; simp only [evs, Option.some.injEq] at h; subst h; exact ⟨rfl, fun j q hq => by simp at hq⟩
  | cons p r ih =>
    intro vs h
    obtain ⟨pi, px⟩ := p
    simp only [evs, Option.bind_eq_some_iff, Option.map_eq_some_iff] at h
    obtain ⟨v, hv, vr, hr, rfl⟩ := h
    obtain ⟨h1, h2⟩ := ih hr
    refine ⟨by simp [h1], fun j q hq => ?_⟩
    cases j with
    | zero => simp only [List.getElem?_cons_zero, Option.some.injEq] at hq; subst hq; exact ⟨v, rfl, hv⟩
    | succ j => simpa using h2 j q (by simpa using hq)

theorem inOrd_spec : ∀ {vs : List (Nat × TV)} {i0 : Nat}, inOrd i0 vs = true → ∀ (j : Nat) (q : Nat × TV), vs[j]? = some q → q.1 = i0 + j := by
  intro vs
  induction vs with
  | nil => intro i0 _ j q hq; simp at hq
  | cons p r ih =>
    intro i0 h j q hq
    obtain ⟨pi, pv⟩ := p
    simp only [inOrd, Bool.and_eq_true, beq_iff_eq] at h
    cases j with
    | zero => simp only [List.getElem?_cons_zero, Option.some.injEq] at hq; subst hq; simp [h.1]
    | succ j => have := ih h.2 j q (by simpa using hq); omega

theorem flatDs_spec {k : K} : ∀ {vs : List TV} {xs : List (dn k)}, flatDs k vs = some xs → xs.length = vs.length ∧ ∀ (j : Nat) (v : TV), vs[j]? = some v → ∃ x, xs[j]? = some x ∧ flatD k v = some x := by
  intro vs
  induction vs with
  | nil => intro xs h; simp only [flatDs, Option.some.injEq] at h; subst h; exact ⟨rfl, fun j v hv => by simp at hv⟩
  | cons p r ih =>
    intro xs h
    simp only [flatDs, Option.bind_eq_some_iff, Option.map_eq_some_iff] at h
    obtain ⟨x, hx, xr, hr, rfl⟩ := h
    obtain ⟨h1, h2⟩ := ih hr
    refine ⟨by simp [h1], fun j v hv => ?_⟩
    cases j with
    | zero => simp only [List.getElem?_cons_zero, Option.some.injEq] at hv; subst hv; exact ⟨x, rfl, hx⟩
    | succ j => simpa using h2 j v (by simpa using hv)

theorem run_buildS (hT : TOk P T) (I : Inv F w0 N s a w g) (hb : ¬ N base) {o : Oper} {t e len : Nat} {k : K} {parts : Array (Nat × Operand)} {vs : List (Nat × TV)} {xs : List (dn k)} (ho : o.op = .buildSlice t len parts)
    (hk : T t = .sl e k) (h : evs (lk s.tm) parts.toList = some vs) (hlen : len = vs.length) (hord : inOrd 0 vs = true) (hl1 : len ≤ 4096) (hl2 : k.sz ≤ 4096) (hf : flatDs k (vs.map (·.2)) = some xs) :
    Runs P F N g w base a o ⟨true, .al base, some (.ls e k true xs)⟩ := by
  obtain ⟨d, hd, hsh⟩ := (hT t (by rw [hk]; simp)).und
  rw [hk] at hsh
  obtain ⟨rfl, he, hne⟩ := hsh
  obtain ⟨inf, hi, hsz, hz, hb0, hb1⟩ := (hT e (by rw [he]; exact hne)).info
  rw [he] at hsz hz
  obtain ⟨hv1, hv2⟩ := evs_spec h
  obtain ⟨hx1, hx2⟩ := flatDs_spec hf
  have hxl : xs.length = len := by rw [hx1, List.length_map, hlen]
  -- the parts as the machine sees them
  have hps : ∀ (j : Nat) (p : Nat × Value), (parts.toList.map fun q => (q.1, a.eval q.2))[j]? = some p → p.1 = 0 + j ∧ p.2.cells.size = k.sz ∧ ∃ x ds, xs[j]? = some x ∧ p.2.cells = ds.toArray ∧ k.flat = true ∧ ∀ w' ok, C w' ok k x ds := by
    intro j p hp
    rw [List.getElem?_map, Option.map_eq_some_iff] at hp
    obtain ⟨q, hq, rfl⟩ := hp
    obtain ⟨v, hvj, hev⟩ := hv2 j q hq
    have h1 := inOrd_spec hord j _ hvj
    obtain ⟨x, hxj, hfx⟩ := hx2 j v (by rw [List.getElem?_map, hvj]; rfl)
    obtain ⟨cs, hcs, hC⟩ := VT_cells (eval_VT I hev) (flatD_live hfx)
    obtain ⟨hfl, hD⟩ := flatD_C hC hfx
    refine ⟨by simpa using h1, ?_, x, cs, hxj, hcs, hfl, hD⟩
    have := C_len (hD w (fun _ _ _ => True))
    simp [hcs, this]
  have hle : len * k.sz ≤ 2 ^ 24 := by
    have : len * k.sz ≤ 4096 * 4096 := Nat.mul_le_mul hl1 hl2
    omega
  have hpl : (parts.toList.map fun q => (q.1, a.eval q.2)).length = len := by rw [List.length_map, ← hv1, hlen]
  have hmap : (parts.map fun x => (x.1, a.eval x.2)).toList = parts.toList.map fun q => (q.1, a.eval q.2) := by simp
  generalize (parts.toList.map fun q => (q.1, a.eval q.2)) = ps at *
  generalize hz0 : (if len * k.sz = 0 then #[] else (zV k).cells : Array Value) = z0
  obtain ⟨cs, hfill, hcsz, _, hget⟩ := fill_row k.sz ps 0 ((Array.range (len * k.sz)).map (z0[· % z0.size]!)) (fun j p hp => ⟨(hps j p hp).1, (hps j p hp).2.1⟩)
    (by rw [hpl]; simp)
  simp only [Array.size_map, Array.size_range] at hcsz
  obtain ⟨m, hv⟩ := made_row I hb (e := e) (k := k) (deep := true) (xs := xs) (cur := cs) (u := .slice (some ⟨w.heap.size, 0, none⟩) len len)
    (f := fun b => b = w.heap.size) ⟨_, _, _, rfl⟩ (fun b hb => by subst hb; exact Nat.le_refl _) (fun g' turn => by
      refine .inr ⟨w.heap.size, len, cs, fun _ _ => False, fun j => ((ps[j]?).map (·.2.cells.toList)).getD [], by rw [hxl], heap_alloc_new w _, by omega, by omega, hcsz, fun j hj => ?_,
        fun _ _ _ _ _ _ h _ => h, fun _ _ h => h, fun b => by simp⟩
      have hjp : j < ps.length := by omega
      have hp : ps[j]? = some ps[j] := List.getElem?_eq_getElem hjp
      obtain ⟨h1, h2, x, ds, hx, hcs, hfl, hD⟩ := hps j _ hp
      have hxj : xs[j] = x := by rw [List.getElem?_eq_getElem hj] at hx; exact Option.some.inj hx
      simp only [hp, Option.map_some, Option.getD_some]
      refine ⟨?_, by simpa using h2, fun i hi => ?_⟩
      · rw [hxj]
        simp only [LR, if_true, hcs]
        exact O_of_flat (ok := fun _ _ _ => True) hfl (hD _ _)
      · have := hget j _ hp i hi
        rw [Nat.zero_add] at this
        rw [this]
        simp)
  refine ⟨_, _, _, ?_, m, hv, .inr ⟨rfl, by simp⟩⟩
  have hnot : ¬ len * k.sz > 2 ^ 24 := by omega
  have hmap' : (parts.map fun x => match x with | (i, x) => (i, a.eval x)).toList = ps := by rw [← hmap]
  simp only [execOp, ho, Instr.buildSlice, Sem.run_bind, run_underlying hd, Result.andThen_ok, sizeOf, typeInfo, run_program, hi, Sem.run_pure, hsz, if_neg hnot]
  by_cases h0 : len * k.sz = 0
  · rw [if_pos h0] at hz0
    subst hz0
    rw [h0] at hfill
    simp only [if_pos h0, Sem.run_pure, Result.andThen_ok, hmap', h0]
    simp [newRow] at hfill ⊢
    simp [hfill]
  · rw [if_neg h0] at hz0
    subst hz0
    simp only [if_neg h0, Sem.run_bind, zeroValue, typeInfo, run_program, hi, hz, Sem.run_pure, Result.andThen_ok, hmap', hfill]
    simp [newRow]

end
end Go.Vm
