/- The value machine, joined: what is proved here holds for every loaded program; no condition but those that each theorem states. -/
import Derived.Test.YtjnfbibaldbjhaaVmB
import Derived.Maps.AppendAt
/- The value machine, part 19: append, on the machine. -/
set_option linter.unusedVariables false
set_option linter.unusedSimpArgs false
namespace Go.Vm

def cat (es : Nat → List Value) : Nat → List Value
  | 0 => []
  | n + 1 => cat es n ++ es n
theorem cat_len (es : Nat → List Value) (sz : Nat) : ∀ n, (∀ j, j < n → (es j).length = sz) → (cat es n).length = n * sz := by
  intro n
  induction n with
  | zero => intro _; simp [cat]
  | succ n ih => intro h; simp [cat, ih (fun j hj => h j (by omega)), h n (by omega), Nat.succ_mul]
theorem cat_get (es : Nat → List Value) (sz : Nat) : ∀ n, (∀ j, j < n → (es j).length = sz) → ∀ j i, j < n → i < sz → (cat es n)[j * sz + i]? = (es j)[i]? := by
  intro n
  induction n with
  | zero => intro _ j i hj; omega
  | succ n ih =>
    intro h j i hj hi
    have hl := cat_len es sz n (fun j hj => h j (by omega))
    by_cases hjn : j = n
    · subst hjn
      rw [cat, List.getElem?_append_right (by omega), hl]
      congr 1
      omega
    · have : (j + 1) * sz ≤ n * sz := Nat.mul_le_mul_right _ (by omega)
      rw [Nat.succ_mul] at this
      rw [cat, List.getElem?_append_left (by omega)]
      exact ih (fun j hj => h j (by omega)) j i (by omega) hi
theorem cat_mem (es : Nat → List Value) : ∀ n u, u ∈ cat es n → ∃ j, j < n ∧ u ∈ es j := by
  intro n
  induction n with
  | zero => intro u hu; simp [cat] at hu
  | succ n ih =>
    intro u hu
    rcases List.mem_append.1 hu with h | h
    · obtain ⟨j, hj, h⟩ := ih u h; exact ⟨j, by omega, h⟩
    · exact ⟨n, by omega, h⟩

section
variable {P : Program} {w : World}

/-- What an append of at least one element leaves. dst: a row with its block (cur), or a slice without room. -/
theorem append_core {t ty e sz m c n cap b : Nat} {inf : TypeInfo} {z : Value} (ht : P.underlying t = some (.slice e)) (hi : P.info? e = some inf) (hz : inf.zero = some z) (hsize : inf.size = sz)
    (hzs : z.cells.size = sz) (hsz : 0 < sz) (hby : inf.bytes ≤ 131072) {A : Option Addr} {cur : Array Value}
    (hd : (n = 0 ∧ cap = 0) ∨ (A = some ⟨b, 0, none⟩ ∧ w.heap[b]? = some (.cells cur e (0, 0)) ∧ n ≤ cap ∧ cap ≤ 9223372036854775807 ∧ cur.size = cap * sz))
    {ad : Addr} {news : List Value} (hl : news.length = m * sz) (hnews : ∀ j u, news[j]? = some u → w.cell? (ad.add j) = some u) (h1 : ∀ u ∈ news, u.oneCell' = true) (hm : 0 < m)
    (hlim : n + m ≤ 1073741824) :
    ∃ g' cap' cur' w', (Builtin.append_ #[t, t] ty #[.slice A n cap, .slice (some ad) m c]).run P w = .ok (.slice (some ⟨g', 0, none⟩) (n + m) cap') w' ∧ w'.heap[g']? = some (.cells cur' e (0, 0)) ∧ n + m ≤ cap' ∧
      cap' ≤ 9223372036854775807 ∧ cur'.size = cap' * sz ∧ (∀ i, i < n * sz → cur'[i]? = cur[i]?) ∧ (∀ i, i < m * sz → cur'[n * sz + i]? = news[i]?) ∧ ((g' = b ∧ 0 < cap) ∨ g' = w.heap.size) ∧
      w'.os = w.os ∧ w'.tape = w.tape ∧ w'.output = w.output ∧ w.heap.size ≤ w'.heap.size ∧ ∀ k, k < w.heap.size → k ≠ g' → w'.heap[k]? = w.heap[k]? := by
  have hbytes : (n + m) * inf.bytes ≤ 140737488355328 := by
    have : (n + m) * inf.bytes ≤ 1073741824 * 131072 := Nat.mul_le_mul hlim hby
    omega
  have hout : ∀ (olds : List Value) (old : Nat), olds.length = n * sz → ∃ cap' cur', cap' = grownCap w (n + m) old e ∧ cur' = olds.toArray ++ news.toArray ++ Builtin.zeroCells z.cells (grownCap w (n + m) old e - (n + m)) ∧
      n + m ≤ cap' ∧ cap' ≤ 9223372036854775807 ∧ cur'.size = cap' * sz ∧ (∀ i, i < n * sz → cur'[i]? = olds[i]?) ∧ ∀ i, i < m * sz → cur'[n * sz + i]? = news[i]? := by
    intro olds old ho
    have hge := grownCap_ge w (n + m) old e
    have hcm := grownCap_le_maxLen w (n + m) old e (by simp only [maxLen]; omega)
    refine ⟨_, _, rfl, rfl, hge, by simpa [maxLen] using hcm, ?_, fun i hi' => ?_, fun i hi' => ?_⟩
    · simp only [Array.size_append, List.size_toArray, size_zeroCells, hzs, ho, hl, ← Nat.add_mul]
      congr 1
      omega
    · rw [Array.append_assoc, Array.getElem?_append_left (by simp [ho]; exact hi')]
      simp
    · rw [Array.getElem?_append_left (by simp [ho, hl]; omega), Array.getElem?_append_right (by simp [ho])]
      simp [ho]
  rcases hd with ⟨rfl, rfl⟩ | ⟨rfl, hb, hnc, hcm, hcs⟩
  · obtain ⟨cap', cur', hc1, hc2, q1, q2, q3, q4, q5⟩ := hout [] 0 (by simp)
    simp only [Nat.zero_add] at *
    have hrun : (Builtin.append_ #[t, t] ty #[.slice A 0 0, .slice (some ad) m c]).run P w = .ok (.slice (some ⟨w.heap.size, 0, none⟩) m cap') (w.drew.alloc (.cells cur' e)) := by
      cases A with
      | none =>
        have := run_append_nil (P := P) w t ty e inf z ht hi hz ad m c news (by rw [hsize]; exact hl) hnews hm (by omega) (by omega)
        rw [this, hc1, hc2]
        simp
      | some a0 =>
        have := run_append_grow (P := P) w t ty e inf z ht hi hz a0 0 0 [] (by simp) (fun j v h => by simp at h) ad m c news (by rw [hsize]; exact hl) hnews (by omega) (by omega) (by rw [Nat.zero_add]; exact growslice_fits (by omega) hbytes)
        simp only [Nat.zero_add] at this
        rw [this, hc1, hc2]
    refine ⟨w.heap.size, cap', cur', _, hrun, heap_alloc_new w.drew _, q1, q2, q3, fun i hi' => by simp at hi', by simpa using q5, .inr rfl, rfl, rfl, rfl, by simp, fun k hk _ => heap_alloc_old w.drew _ k hk⟩
  · by_cases hroom : n + m ≤ cap
    · have hfit : n * sz + news.length ≤ cur.size := by rw [hl, hcs, ← Nat.add_mul]; exact Nat.mul_le_mul_right _ hroom
      have hr := run_append_room (P := P) w t ty e inf ht hi b n cap cur hb ad m c news (by rw [hsize]; exact hl) hnews h1 hroom (by rw [hsize]; exact hfit)
      rw [hsize] at hr
      have hput : (cur.toList.take (n * sz) ++ news ++ cur.toList.drop (n * sz + news.length)) = put cur.toList (n * sz) news := rfl
      rw [hput] at hr
      refine ⟨b, cap, _, _, hr, setRow_heap w b cur _ e _ hb, hroom, hcm, ?_, fun i hi' => ?_, fun i hi' => ?_, .inl ⟨rfl, by omega⟩, rfl, rfl, rfl, by simp, fun k _ hk => setRow_other w b k _ hk⟩
      · simp only [List.size_toArray]; rw [put_len _ _ _ (by simpa using hfit)]; simpa using hcs
      · simp only [List.getElem?_toArray]; rw [put_get _ _ _ _ (by simpa using hfit), if_neg (by omega)]; simp
      · simp only [List.getElem?_toArray]
        rw [put_get _ _ _ _ (by simpa using hfit), if_pos (by omega)]
        congr 1
        omega
    · have holds : ∀ j u, (cur.toList.take (n * sz))[j]? = some u → w.cell? ((⟨b, 0, none⟩ : Addr).add j) = some u := by
        intro j u hu
        rw [add_plain, cell_of_row w b j cur e (0, 0) hb]
        rw [List.getElem?_take] at hu
        split at hu
        · simpa using hu
        · cases hu
      have hol : (cur.toList.take (n * sz)).length = n * sz := by
        have : n * sz ≤ cap * sz := Nat.mul_le_mul_right _ hnc
        simp; omega
      obtain ⟨cap', cur', hc1, hc2, q1, q2, q3, q4, q5⟩ := hout (cur.toList.take (n * sz)) cap hol
      have hr := run_append_grow (P := P) w t ty e inf z ht hi hz ⟨b, 0, none⟩ n cap _ (by rw [hsize]; exact hol) holds ad m c news (by rw [hsize]; exact hl) hnews (by omega) (by omega) (growslice_fits (by omega) hbytes)
      rw [← hc2, ← hc1] at hr
      refine ⟨w.heap.size, cap', cur', _, hr, heap_alloc_new w.drew _, q1, q2, q3, fun i hi' => ?_, q5, .inr rfl, rfl, rfl, rfl, by simp, fun k hk _ => heap_alloc_old w.drew _ k hk⟩
      rw [q4 i hi', List.getElem?_take, if_pos hi']
      simp

/-- An append of nothing. -/
theorem append_none {t ty e m c n cap : Nat} {inf : TypeInfo} (ht : P.underlying t = some (.slice e)) (hi : P.info? e = some inf) {A B : Option Addr} (hm : m = 0) (hn : n ≤ cap) :
    (Builtin.append_ #[t, t] ty #[.slice A n cap, .slice B m c]).run P w = .ok (.slice A n cap) w := by
  subst hm
  cases B with
  | none =>
    cases A <;> simp [Builtin.append_, run_underlying ht, sizeOf, typeInfo, hi, Builtin.lenOf, Builtin.firstCells, hn, storeCells]
  | some b =>
    cases A <;> simp [Builtin.append_, run_underlying ht, sizeOf, typeInfo, hi, Builtin.lenOf, Builtin.firstCells, hn, storeCells, loadCells, loadCellsFrom]

end
end Go.Vm

/- The value machine, part 20: append, on states. -/
set_option linter.unusedVariables false
set_option linter.unusedSimpArgs false
namespace Go.Vm

section
variable {P : Program} {T : Nat → K} {w w' : World} {w0 : W0} {F N : Nat → Prop} {g g' : G} {s : St} {a : Act} {base : Nat}

/-- The destination of an append: a row that is no more told by the state, or a slice without room. -/
def Dst (w : World) (F : Nat → Prop) (g : G) (s : St) (e : Nat) (k : K) (dd : Bool) (xs : List (dn k)) (v : Value) (fp : Nat → Prop) : Prop :=
  (xs = [] ∧ ∃ A, v = .slice A 0 0) ∨
  (OL w e k.sz (LR w F g dd k) xs v fp ∧ ∀ b, fp b → ¬ g.Bx b ∧ F b ∧ ∀ m o, lk s.ob m = some o → ¬ g.fp m b)

theorem row_append (I : Inv F w0 N s a w g) (hbase : ¬ N base) {e : Nat} {k : K} {dd d' : Bool} {xs ys : List (dn k)} {v : Value} {fp : Nat → Prop}
    (hst : ∀ t v, lk s.tm t = some v → v.safe (fun q => q = e) False) (hso : ∀ m o, lk s.ob m = some o → o.safe (fun q => q = e) False) (hself : dd = true ∨ k.hasT e = false)
    (hd : Dst w F g s e k dd xs v fp) (hconv : dd = d' ∨ (dd = true ∧ d' = false)) {t ty c : Nat} {inf : TypeInfo} (ht : P.underlying t = some (.slice e)) (hi : P.info? e = some inf) (hz : inf.zero = some (zV k))
    (hsize : inf.size = k.sz) (hsz : 0 < k.sz) (hby : inf.bytes ≤ 131072) (hzs : (zV k).cells.size = k.sz) {ad : Addr} (es : Nat → List Value) (fs : Nat → Nat → Prop) (hm : 0 < ys.length) (hlim : xs.length + ys.length ≤ 1073741824)
    (hes : ∀ j (h : j < ys.length), LR w F g d' k ys[j] (es j) (fs j) ∧ (es j).length = k.sz ∧ ∀ i u, (es j)[i]? = some u → w.cell? (ad.add (j * k.sz + i)) = some u)
    (hselfs : d' = true ∨ k.hasT e = false)
    (h1 : ∀ j, j < ys.length → ∀ u ∈ es j, u.oneCell' = true)
    (hfd : ∀ j j', j < ys.length → j' < ys.length → j ≠ j' → ∀ q, fs j q → fs j' q → False)
    (hfs : ∀ j q, j < ys.length → fs j q → F q ∧ ¬ g.Bx q ∧ q < w.heap.size ∧ (∀ m o, lk s.ob m = some o → ¬ g.fp m q) ∧ ¬ fp q) :
    ∃ u w' g2, (Builtin.append_ #[t, t] ty #[v, .slice (some ad) ys.length c]).run P w = .ok u w' ∧ Inv F w0 (fun n => N n ∨ n = base) (s.add base (.ls e k d' (xs ++ ys))) a w' g2 ∧ VT w' F g2 (.al base) u := by
  have hnl : (cat es ys.length).length = ys.length * k.sz := cat_len es _ _ (fun j hj => (hes j hj).2.1)
  have hget : ∀ j i, j < ys.length → i < k.sz → (cat es ys.length)[j * k.sz + i]? = (es j)[i]? := cat_get es _ _ (fun j hj => (hes j hj).2.1)
  have hnews : ∀ j u, (cat es ys.length)[j]? = some u → w.cell? (ad.add j) = some u := by
    intro j u hu
    have hj : j < ys.length * k.sz := by rw [← hnl]; exact (List.getElem?_eq_some_iff.1 hu).1
    have hq : j / k.sz < ys.length := (Nat.div_lt_iff_lt_mul hsz).2 hj
    have he : j = j / k.sz * k.sz + j % k.sz := by rw [Nat.mul_comm]; exact (Nat.div_add_mod j k.sz).symm
    rw [he] at hu ⊢
    rw [hget _ _ hq (Nat.mod_lt _ hsz)] at hu
    exact (hes _ hq).2.2 _ _ hu
  have hone : ∀ u ∈ cat es ys.length, u.oneCell' = true := by
    intro u hu
    obtain ⟨j, hj, hu⟩ := cat_mem es _ u hu
    exact h1 j hj u hu
  -- the destination, in one form
  obtain ⟨A, cap, b, cur, f, ds, hv, hcore, hold, hfo, hdo, hnoto, hbfp⟩ : ∃ (A : Option Addr) (cap b : Nat) (cur : Array Value) (f : Nat → Nat → Prop) (ds : Nat → List Value), v = .slice A xs.length cap ∧
      ((xs.length = 0 ∧ cap = 0) ∨ (A = some ⟨b, 0, none⟩ ∧ w.heap[b]? = some (.cells cur e (0, 0)) ∧ xs.length ≤ cap ∧ cap ≤ 9223372036854775807 ∧ cur.size = cap * k.sz)) ∧
      (∀ j (h : j < xs.length), LR w F g dd k xs[j] (ds j) (f j) ∧ (ds j).length = k.sz ∧ ∀ i, i < k.sz → cur[j * k.sz + i]? = (ds j)[i]?) ∧
      (∀ j q, j < xs.length → f j q → q < w.heap.size ∧ ¬ g.Bx q ∧ F q ∧ (∀ m o, lk s.ob m = some o → ¬ g.fp m q) ∧ ∀ j', j' < ys.length → ¬ fs j' q) ∧
      (∀ j j', j < xs.length → j' < xs.length → j ≠ j' → ∀ q, f j q → f j' q → False) ∧ (∀ j, j < xs.length → ¬ f j b) ∧
      (0 < cap → ¬ g.Bx b ∧ F b ∧ b < w.heap.size ∧ (∀ m o, lk s.ob m = some o → ¬ g.fp m b) ∧ ∀ j', j' < ys.length → ¬ fs j' b) := by
    rcases hd with ⟨rfl, A, rfl⟩ | ⟨hOL, hfp⟩
    · exact ⟨A, 0, 0, #[], fun _ _ => False, fun _ => [], rfl, .inl ⟨rfl, rfl⟩, fun j h => by simp at h, fun j q h => by simp at h, fun j j' h => by simp at h, fun j h => by simp at h, fun h => by omega⟩
    · have hOL' := hOL
      rcases hOL with ⟨rfl, ⟨A, rfl⟩, _⟩ | ⟨b, cap, cur, f, ds, rfl, hb, q1, q2, q3, q4, q5, q6, q7⟩
      · exact ⟨A, 0, 0, #[], fun _ _ => False, fun _ => [], rfl, .inl ⟨rfl, rfl⟩, fun j h => by simp at h, fun j q h => by simp at h, fun j j' h => by simp at h, fun j h => by simp at h, fun h => by omega⟩
      · refine ⟨_, cap, b, cur, f, ds, rfl, .inr ⟨rfl, hb, q1, q2, q3⟩, q4, fun j q hj hq => ?_, q5, q6, fun _ => ?_⟩
        · have hin := (q7 q).2 (.inr ⟨j, hj, hq⟩)
          obtain ⟨r1, r2, r3⟩ := hfp q hin
          obtain ⟨bt, hbt⟩ := OL_bt (fun x _ cs f hR b hb => by
            cases dd with
            | true => exact O_bt (by simpa [LR] using hR) b hb
            | false => simp only [LR, Bool.false_eq_true, if_false] at hR; exact (hR.2 b hb).elim) hOL' q hin
          exact ⟨hbt.lt, r1, r2, r3, fun j' hj' hq' => (hfs j' q hj' hq').2.2.2.2 hin⟩
        · have hin := (q7 b).2 (.inl rfl)
          obtain ⟨r1, r2, r3⟩ := hfp b hin
          exact ⟨r1, r2, (Array.getElem?_eq_some_iff.1 hb).1, r3, fun j' hj' hq' => (hfs j' b hj' hq').2.2.2.2 hin⟩
  obtain ⟨b', cap', cur', w', hrun, hb', hle, hcap, hcs', hgold, hgnew, hwhich, hos, htape, hout, hgrow, hsame⟩ := append_core (P := P) (w := w) (ty := ty) (c := c) (b := b) (A := A) (cur := cur) (news := cat es ys.length) ht hi hz hsize hzs hsz hby hcore hnl hnews hone hm hlim
  have hb'old : b' < w.heap.size → b' = b ∧ 0 < cap := by
    intro h
    rcases hwhich with h' | h'
    · exact h'
    · omega
  have hb'F : F b' := by
    rcases hwhich with ⟨h, hc⟩ | h
    · rw [h]; exact (hbfp hc).2.1
    · rw [h]; exact new_F I
  have hb'x : ¬ g.Bx b' := by
    rcases hwhich with ⟨h, hc⟩ | h
    · rw [h]; exact (hbfp hc).1
    · intro hx; have := I.bxF _ hx; omega
  have hb'o : ∀ m o, lk s.ob m = some o → ¬ g.fp m b' := by
    intro m o hm' hq
    rcases hwhich with ⟨h, hc⟩ | h
    · rw [h] at hq; exact (hbfp hc).2.2.2.1 m o hm' hq
    · have := ob_lt I hm' hq; omega
  let ff : Nat → Nat → Prop := fun j => if j < xs.length then (if dd = d' then f j else fun _ => False) else fs (j - xs.length)
  let dd' : Nat → List Value := fun j => if j < xs.length then ds j else es (j - xs.length)
  let u : Value := .slice (some ⟨b', 0, none⟩) (xs.length + ys.length) cap'
  let g2 : G := g.row base u (fun q => q = b' ∨ ∃ j, j < (xs ++ ys).length ∧ ff j q)
  have hff : ∀ j q, j < xs.length + ys.length → ff j q → (j < xs.length ∧ f j q) ∨ (∃ j', j' < ys.length ∧ j = xs.length + j' ∧ fs j' q) := by
    intro j q hj hq
    simp only [ff] at hq
    split at hq
    · rename_i h
      split at hq
      · exact .inl ⟨h, hq⟩
      · exact hq.elim
    · rename_i h
      exact .inr ⟨j - xs.length, by omega, by omega, hq⟩
  have hffinfo : ∀ j q, j < xs.length + ys.length → ff j q → q < w.heap.size ∧ ¬ g.Bx q ∧ F q ∧ (∀ m o, lk s.ob m = some o → ¬ g.fp m q) ∧ q ≠ b' := by
    intro j q hj hq
    rcases hff j q hj hq with ⟨h, hq⟩ | ⟨j', hj', rfl, hq2⟩
    · obtain ⟨r1, r2, r3, r4, _⟩ := hfo j q h hq
      refine ⟨r1, r2, r3, r4, fun he => ?_⟩
      subst he
      obtain ⟨rfl, _⟩ := hb'old r1
      exact hnoto j h hq
    · obtain ⟨r1, r2, r3, r4, _⟩ := hfs j' q hj' hq2
      refine ⟨r3, r2, r1, r4, fun he => ?_⟩
      subst he
      obtain ⟨rfl, hc⟩ := hb'old r3
      exact (hbfp hc).2.2.2.2 j' hj' hq2
  have turn : Turn (fun q => q = b' ∧ q < w.heap.size) (fun q => q = e) False N F g g2 w w' := by
    refine ⟨fun q hq hne => hsame q hq (fun he => hne ⟨he, hq⟩), fun q hq => by rw [hq.1]; exact hb'F, fun q bt hq hx hbt => ?_, fun h => h.elim, fun _ _ => Iff.rfl, fun n hn => ?_⟩
    · obtain ⟨rfl, hq⟩ := hq
      obtain ⟨rfl, hc⟩ := hb'old hq
      rcases hcore with ⟨_, h0⟩ | ⟨_, hcur, _⟩
      · omega
      · obtain ⟨cur2, fr, hc2⟩ := hbt
        rw [hcur] at hc2
        simp only [Option.some.injEq, Go.Obj.cells.injEq] at hc2
        exact hc2.2.1.symm
    · simp only [g2, G.row]; rw [if_neg]; rintro rfl; exact hbase hn
  have lrm : ∀ {dx : Bool} {x : dn k} {dd ff}, (dx = true ∨ k.hasT e = false) → (∀ q, ff q → q < w.heap.size ∧ q ≠ b') → LR w F g dx k x dd ff → LR w' F g2 dx k x dd ff := by
    intro dx x dd ff hsf hne h
    cases dx with
    | true =>
      simp only [LR, if_true] at h ⊢
      exact O_move (fun q hq => hsame q (hne q hq).1 (hne q hq).2) h
    | false =>
      simp only [LR, Bool.false_eq_true, if_false] at h ⊢
      have hs' : ∀ q, k.hasT q = true → ¬ q = e := by
        rcases hsf with h | h
        · cases h
        · intro q hq he; subst he; rw [h] at hq; cases hq
      have hc := C_turn (ext := false) turn (fun _ => hs') (show C w (oks F g.Bx false) k x dd by simpa [oks] using h.1)
      exact ⟨by simpa [oks] using hc, h.2⟩
  have hlr : ∀ j (hj : j < (xs ++ ys).length), LR w' F g2 d' k (xs ++ ys)[j] (dd' j) (ff j) := by
    intro j hj
    have hj' : j < xs.length + ys.length := by simpa using hj
    by_cases hjx : j < xs.length
    · rw [List.getElem_append_left hjx]
      obtain ⟨r1, _, _⟩ := hold j hjx
      simp only [dd', ff, if_pos hjx]
      by_cases hde : dd = d'
      · subst hde
        simp only [if_true]
        refine lrm hself (fun q hq => ?_) r1
        obtain ⟨p1, _, _, _, p5⟩ := hffinfo j q hj' (by simp only [ff, if_pos hjx, if_true]; exact hq)
        exact ⟨p1, p5⟩
      · obtain ⟨rfl, rfl⟩ := hconv.resolve_left hde
        simp only [if_neg hde]
        simp only [LR, if_true] at r1
        refine lrm hselfs (fun q hq => hq.elim) ?_
        simp only [LR, Bool.false_eq_true, if_false]
        exact ⟨O_C (fun q bt hq _ => .inr ⟨rfl, (hfo j q hjx hq).2.1⟩) r1, fun _ h => h⟩
    · rw [List.getElem_append_right (by omega)]
      simp only [dd', ff, if_neg hjx]
      refine lrm hselfs (fun q hq => ?_) (hes (j - xs.length) (by omega)).1
      obtain ⟨p1, _, _, _, p5⟩ := hffinfo j q hj' (by simp only [ff, if_neg hjx]; exact hq)
      exact ⟨p1, p5⟩
  refine ⟨u, w', g2, by rw [hv]; exact hrun, ?_, ⟨by simp [g2, G.row], _, _, _, by simp [g2, G.row]; rfl⟩⟩
  refine inv_set (inv_mono I (fun n h => .inl h)) (.inr rfl) turn (fun t v h => ⟨I.nmT t v h, hst t v h⟩) (fun m o h hne => ⟨(I.nmO m o h).1, (I.nmO m o h).2, hso m o h, fun q hq hX => ?_⟩) (fun m hm => by simp [g2, G.row, hm]) ⟨?_, ?_⟩ trivial ?_ ?_ ?_ ?_
  · obtain ⟨rfl, _⟩ := hX
    exact hb'o m o h hq
  · refine .inr ⟨b', cap', cur', ff, dd', by simp [g2, G.row, u], hb', by simpa using hle, hcap, hcs', fun j hj => ⟨hlr j hj, ?_, fun i hi' => ?_⟩, fun j j' hj hj' hne q h1 h2 => ?_, fun j hj hq => ?_, fun q => by simp [g2, G.row]⟩
    · simp only [dd']
      split
      · rename_i h; exact (hold j h).2.1
      · rename_i h; exact (hes _ (by simp at hj; omega)).2.1
    · have hj' : j < xs.length + ys.length := by simpa using hj
      simp only [dd']
      split
      · rename_i h
        have : (j + 1) * k.sz ≤ xs.length * k.sz := Nat.mul_le_mul_right _ h
        rw [Nat.succ_mul] at this
        rw [hgold _ (by omega)]
        exact (hold j h).2.2 i hi'
      · rename_i h
        have hjy : j - xs.length < ys.length := by omega
        have : (j - xs.length + 1) * k.sz ≤ ys.length * k.sz := Nat.mul_le_mul_right _ hjy
        rw [Nat.succ_mul] at this
        have hsum : j * k.sz = xs.length * k.sz + (j - xs.length) * k.sz := by rw [← Nat.add_mul]; congr 1; omega
        rw [hsum, Nat.add_assoc, hgnew _ (by omega), hget _ _ hjy hi']
    · have hj1 : j < xs.length + ys.length := by simpa using hj
      have hj2 : j' < xs.length + ys.length := by simpa using hj'
      rcases hff j q hj1 h1 with ⟨r1, r2⟩ | ⟨i1, r1, rfl, r2⟩
      · rcases hff j' q hj2 h2 with ⟨r3, r4⟩ | ⟨i2, r3, rfl, r4⟩
        · exact hdo j j' r1 r3 hne q r2 r4
        · exact (hfo j q r1 r2).2.2.2.2 i2 r3 r4
      · rcases hff j' q hj2 h2 with ⟨r3, r4⟩ | ⟨i2, r3, rfl, r4⟩
        · exact (hfo j' q r3 r4).2.2.2.2 i1 r1 r2
        · exact hfd i1 i2 r1 r3 (fun h => hne (by rw [h])) q r2 r4
    · exact (hffinfo j b' (by simpa using hj) hq).2.2.2.2 rfl
  · intro q hq
    simp only [g2, G.row, if_true] at hq
    rcases hq with rfl | ⟨j, hj, hq⟩
    · exact hb'x
    · exact (hffinfo j q (by simpa using hj) hq).2.1
  · intro q hq
    simp only [g2, G.row, if_true] at hq
    rcases hq with rfl | ⟨j, hj, hq⟩
    · exact hb'F
    · exact (hffinfo j q (by simpa using hj) hq).2.2.1
  · intro m o q hm' hne hq hq2
    simp only [g2, G.row, if_true] at hq2
    rcases hq2 with rfl | ⟨j, hj, hq2⟩
    · exact hb'o m o hm' hq
    · exact (hffinfo j q (by simpa using hj) hq2).2.2.2.1 m o hm' hq
  · intro q hq
    have := I.bxF q hq
    omega
  · exact ⟨hos, htape, hout, hgrow, fun q hq hnF => hsame q hq (fun he => hnF (he ▸ hb'F))⟩

end
end Go.Vm

/- The value machine, part 21: append, the operation. -/
set_option linter.unusedVariables false
set_option linter.unusedSimpArgs false
namespace Go.Vm

/-- The destination of an append, and the state without it. -/
def vdst (e : Nat) (k : K) (s : St) : TV → Option (Bool × List (dn k) × St)
  | .al n =>
    match lk s.ob n with
    | some (.ls e' k' dd xs) => if h : e' = e ∧ k' = k then some (dd, h.2 ▸ xs, (s.map (TV.sub n (.dead 1))).rm n) else none
    | _ => none
  | .z => some (true, [], s)
  | _ => none

/-- The source of an append: may its rows be given away, what it holds, the state after that. -/
def vsrc (e : Nat) (k : K) (s : St) (v : TV) : Option (Bool × List (dn k) × St) :=
  match k.flat, v with
  | false, .al m =>
    match lk s.ob m with
    | some (.ls e' k' true ys) => if h : e' = e ∧ k' = k then some (true, h.2 ▸ ys, s.give [m]) else none
    | _ => none
  | _, v => (lst (lk s.ob) e k v).map fun ys => (k.flat, ys, s)

/-- append(x, y...): may it, the state without what it takes, the row that it makes. -/
def vappend (T : Nat → K) (s : St) (t : Nat) (x y : Operand) : Option (Bool × St × Obj) :=
  match T t with
  | .sl e k =>
    (evo (lk s.tm) x).bind fun vx => (evo (lk s.tm) y).bind fun vy =>
    (vsrc e k s vy).bind fun p => (vdst e k p.2.2 vx).bind fun q =>
      let d' := q.1 && p.1
      if 0 < k.sz ∧ rowsOk e q.2.2.ob = true ∧ (q.1 || !k.hasT e) = true ∧ (d' || !k.hasT e) = true ∧ (q.1 || k.flat || !p.1) = true then
        some (decide ((q.2.1.length : Int) + p.2.1.length ≤ LIM), q.2.2.map (TV.kill e), .ls e k d' (q.2.1 ++ p.2.1))
      else none
  | _ => none

section
variable {P : Program} {T : Nat → K} {w w' : World} {w0 : W0} {F N : Nat → Prop} {g g' : G} {s : St} {a : Act} {base : Nat}

theorem LR_Bx (h : g'.Bx = g.Bx) (deep : Bool) (k : K) : LR w F g' deep k = LR w F g deep k := by
  unfold LR
  rw [h]

theorem row_append0 (I : Inv F w0 N s a w g) (hbase : ¬ N base) {e : Nat} {k : K} {dd d' : Bool} {xs : List (dn k)} {v : Value} {fp : Nat → Prop}
    (hd : Dst w F g s e k dd xs v fp) (hconv : dd = d' ∨ (dd = true ∧ d' = false)) :
    ∃ g2, Inv F w0 (fun n => N n ∨ n = base) (s.add base (.ls e k d' xs)) a w g2 ∧ VT w F g2 (.al base) v := by
  obtain ⟨fp, hOL, hfp, A, cap, rfl⟩ : ∃ fp, OL w e k.sz (LR w F g dd k) xs v fp ∧ (∀ b, fp b → ¬ g.Bx b ∧ F b ∧ ∀ m o, lk s.ob m = some o → ¬ g.fp m b) ∧ ∃ A c, v = .slice A xs.length c := by
    rcases hd with ⟨rfl, A, rfl⟩ | ⟨h1, h2⟩
    · exact ⟨fun _ => False, .inl ⟨rfl, ⟨A, rfl⟩, fun _ h => h⟩, fun _ h => h.elim, A, 0, rfl⟩
    · refine ⟨fp, h1, h2, ?_⟩
      rcases h1 with ⟨rfl, ⟨A, rfl⟩, _⟩ | ⟨b, cap, cur, f, ds, rfl, _⟩
      · exact ⟨A, 0, rfl⟩
      · exact ⟨_, cap, rfl⟩
  let g2 : G := g.row base (.slice A xs.length cap) fp
  have turn : Turn (fun _ => False) (fun _ => False) True N F g g2 w w := by
    refine ⟨fun _ _ _ => rfl, fun _ h => h.elim, fun _ _ h => h.elim, fun _ _ h => h.elim, fun _ _ => Iff.rfl, fun n hn => ?_⟩
    simp only [g2, G.row]; rw [if_neg]; rintro rfl; exact hbase hn
  have key : ∃ fp2, OL w e k.sz (LR w F g d' k) xs (.slice A xs.length cap) fp2 ∧ ∀ b, fp2 b → fp b := by
    by_cases hde : dd = d'
    · subst hde
      exact ⟨fp, hOL, fun _ h => h⟩
    · obtain ⟨rfl, rfl⟩ := hconv.resolve_left hde
      rcases hOL with ⟨rfl, ⟨A', hA⟩, h0⟩ | ⟨b, cap, cur, f, ds, hv, hb, q1, q2, q3, q4, q5, q6, q7⟩
      · exact ⟨fun _ => False, .inl ⟨rfl, ⟨A', hA⟩, fun _ h => h⟩, fun _ h => h.elim⟩
      · refine ⟨fun q => q = b, .inr ⟨b, cap, cur, fun _ _ => False, ds, hv, hb, q1, q2, q3, fun j hj => ?_, fun _ _ _ _ _ _ h => h.elim, fun _ _ h => h, fun q => by simp⟩, fun q hq => (q7 q).2 (.inl hq)⟩
        obtain ⟨r1, r2, r3⟩ := q4 j hj
        simp only [LR, if_true] at r1
        refine ⟨?_, r2, r3⟩
        simp only [LR, Bool.false_eq_true, if_false]
        exact ⟨O_C (fun q bt hq _ => .inr ⟨rfl, (hfp q ((q7 q).2 (.inr ⟨j, hj, hq⟩))).1⟩) r1, fun _ h => h⟩
  obtain ⟨fp2, h2, hsub⟩ := key
  let g3 : G := g.row base (.slice A xs.length cap) fp2
  have turn3 : Turn (fun _ => False) (fun _ => False) True N F g g3 w w := ⟨turn.blk, turn.XF, turn.ty, turn.inn, turn.bx, turn.hd⟩
  refine ⟨g3, ?_, ⟨by simp [g3, G.row], A, xs.length, cap, by simp [g3, G.row]⟩⟩
  refine inv_set (inv_mono I (fun n h => .inl h)) (.inr rfl) turn3 (fun t v h => ⟨I.nmT t v h, v.safe_none⟩) (fun m o h hne => ⟨(I.nmO m o h).1, (I.nmO m o h).2, o.safe_none, fun _ _ h => h⟩) (fun m hm => by simp [g3, G.row, hm]) ⟨?_, fun q hq => ?_⟩ trivial (fun q hq => ?_) (fun m o q hm hne hq hq2 => ?_) I.bxF (Kept.refl _ _)
  · rw [LR_Bx (g := g) (g' := g3) rfl]
    simpa [g3, G.row] using h2
  · simp only [g3, G.row, if_true] at hq; exact (hfp q (hsub q hq)).1
  · simp only [g3, G.row, if_true] at hq; exact (hfp q (hsub q hq)).2.1
  · simp only [g3, G.row, if_true] at hq2; exact (hfp q (hsub q hq2)).2.2 m o hm hq

/-- What a destination is. -/
theorem vdst_Dst (I : Inv F w0 N s a w g) {e : Nat} {k : K} {v : TV} {u : Value} {dd : Bool} {xs : List (dn k)} {s' : St} (hV : VT w F g v u) (h : vdst e k s v = some (dd, xs, s')) :
    ∃ fp, Dst w F g s' e k dd xs u fp ∧ Inv F w0 N s' a w g ∧ (∀ q, fp q → ∃ n o, lk s.ob n = some o ∧ g.fp n q) ∧ (v = .z → dd = true) := by
  cases v with
  | al n =>
    simp only [vdst] at h
    split at h
    · rename_i e' k' dd' ys hn
      split at h
      · rename_i he
        obtain ⟨rfl, rfl⟩ := he
        simp only [Option.some.injEq, Prod.mk.injEq] at h
        obtain ⟨rfl, rfl, rfl⟩ := h
        obtain ⟨h1, _⟩ := VT_leaf hV rfl rfl
        simp only [List.cons.injEq, and_true] at h1
        obtain ⟨q1, q2⟩ := I.ob n _ hn
        have I' : Inv F w0 N ((s.map (TV.sub n (.dead 1))).rm n) a w g := inv_rm (inv_map I (weak_sub (r := .dead 1) (fun cs h => ⟨CT_len h, CT_one h⟩) trivial rfl (.inr ⟨1, rfl⟩))) n
        refine ⟨g.fp n, .inr ⟨by rw [h1]; exact q1, fun b hb => ⟨q2 b hb, I.inF n _ b hn hb, fun m o hm hmb => ?_⟩⟩, I', fun q hq => ⟨n, _, hn, hq⟩, fun h => by cases h⟩
        simp only [St.rm, lk_del, St.map, lk_mapL] at hm
        split at hm
        · cases hm
        · rename_i hne
          simp only [Option.map_eq_some_iff] at hm
          obtain ⟨o', hm', _⟩ := hm
          exact I.dis m n o' _ b hm' hn hne hmb hb
      · cases h
    · cases h
  | z =>
    simp only [vdst, Option.some.injEq, Prod.mk.injEq] at h
    obtain ⟨rfl, rfl, rfl⟩ := h
    obtain ⟨A, hA⟩ := VT_leaf hV rfl rfl
    simp only [List.cons.injEq, and_true] at hA
    exact ⟨fun _ => False, .inl ⟨rfl, A, hA⟩, I, fun _ h => h.elim, fun _ => rfl⟩
  | _ => simp [vdst] at h

end
end Go.Vm

/- The value machine, part 22: append, the operation, on the machine. -/
set_option linter.unusedVariables false
set_option linter.unusedSimpArgs false
namespace Go.Vm

section
variable {P : Program} {T : Nat → K} {w w' : World} {w0 : W0} {F N : Nat → Prop} {g g' : G} {s : St} {a : Act} {base : Nat}

/-- What a source of an append is, cell by cell. -/
def Src (w : World) (F : Nat → Prop) (g : G) (s : St) (e : Nat) (k : K) (d' : Bool) (ys : List (dn k)) (ad : Addr) (es : Nat → List Value) (fs : Nat → Nat → Prop) : Prop :=
  (∀ j (h : j < ys.length), LR w F g d' k ys[j] (es j) (fs j) ∧ (es j).length = k.sz ∧ ∀ i u, (es j)[i]? = some u → w.cell? (ad.add (j * k.sz + i)) = some u) ∧
  (∀ j, j < ys.length → ∀ u ∈ es j, u.oneCell' = true) ∧
  (∀ j j', j < ys.length → j' < ys.length → j ≠ j' → ∀ q, fs j q → fs j' q → False) ∧
  (∀ j q, j < ys.length → fs j q → F q ∧ ¬ g.Bx q ∧ q < w.heap.size ∧ ∀ m o, lk s.ob m = some o → ¬ g.fp m q)

theorem src_read {e : Nat} {k : K} {ys : List (dn k)} {u : Value} (h : C w (okt F g.Bx) (.sl e k) ys [u]) :
    ∃ A c, u = .slice A ys.length c ∧ ys.length ≤ c ∧ ∀ d', (d' = false ∨ k.flat = true) → 0 < ys.length → ∃ ad es fs, A = some ad ∧ Src w F g s e k d' ys ad es fs := by
  obtain ⟨A, c, h0, h1, h2, h3, h4⟩ := h
  simp only [List.cons.injEq, and_true] at h0
  refine ⟨A, c, h0, h1, fun d' hd' hpos => ?_⟩
  obtain ⟨ad, bt, rfl, _⟩ := h3 hpos
  have h5 := h4 ad rfl
  refine ⟨ad, fun j => if h : j < ys.length then Classical.choose (h5 j h) else [], fun _ _ => False, rfl, fun j hj => ?_, fun j hj => ?_, fun _ _ _ _ _ _ h => h.elim, fun _ _ _ h => h.elim⟩
  · simp only [dif_pos hj]
    obtain ⟨r1, r2, r3⟩ := Classical.choose_spec (h5 j hj)
    refine ⟨?_, r2, r3⟩
    cases d' with
    | true =>
      simp only [LR, if_true]
      rcases hd' with h | h
      · cases h
      · exact O_of_flat h r1
    | false => simp only [LR, Bool.false_eq_true, if_false]; exact ⟨r1, fun _ h => h⟩
  · simp only [dif_pos hj]
    exact C_one (Classical.choose_spec (h5 j hj)).1

theorem vsrc_Src (I : Inv F w0 N s a w g) {e : Nat} {k : K} {v : TV} {u : Value} {p1 : Bool} {ys : List (dn k)} {s' : St} (hV : VT w F g v u) (h : vsrc e k s v = some (p1, ys, s')) :
    Inv F w0 N s' a w g ∧ ∃ A c, u = .slice A ys.length c ∧ ys.length ≤ c ∧ ∀ d', ((d' = p1 ∧ (p1 = true → True)) ∨ k.flat = true) → (d' = true → p1 = true) → 0 < ys.length → ∃ ad es fs, A = some ad ∧ Src w F g s' e k d' ys ad es fs := by
  have read : ∀ {p1 : Bool} {ys : List (dn k)} {s' : St}, ((lst (lk s.ob) e k v).map fun ys => (k.flat, ys, s)) = some (p1, ys, s') →
      Inv F w0 N s' a w g ∧ ∃ A c, u = .slice A ys.length c ∧ ys.length ≤ c ∧ ∀ d', ((d' = p1 ∧ (p1 = true → True)) ∨ k.flat = true) → (d' = true → p1 = true) → 0 < ys.length → ∃ ad es fs, A = some ad ∧ Src w F g s' e k d' ys ad es fs := by
    intro p1 ys s' h
    simp only [Option.map_eq_some_iff, Prod.mk.injEq] at h
    obtain ⟨ys', hl, rfl, rfl, rfl⟩ := h
    obtain ⟨A, c, q1, q2, q3⟩ := src_read (s := s) (lst_C I hV hl)
    refine ⟨I, A, c, q1, q2, fun d' h1 h2 hp => q3 d' ?_ hp⟩
    cases d' with
    | false => exact .inl rfl
    | true => exact .inr (h2 rfl)
  unfold vsrc at h
  split at h
  · rename_i m hfl
    split at h
    · rename_i e' k' ys0 hm
      split at h
      · rename_i he
        obtain ⟨rfl, rfl⟩ := he
        simp only [Option.some.injEq, Prod.mk.injEq] at h
        obtain ⟨rfl, rfl, rfl⟩ := h
        obtain ⟨hu, _⟩ := VT_leaf hV rfl rfl
        simp only [List.cons.injEq, and_true] at hu
        obtain ⟨hOL, hbx⟩ := I.ob m _ hm
        rw [← hu] at hOL
        refine ⟨inv_give I, ?_⟩
        rcases hOL with ⟨rfl, ⟨A, hA⟩, _⟩ | ⟨b, cap, cur, f, ds, hv, hb, q1, q2, q3, q4, q5, q6, q7⟩
        · exact ⟨A, 0, hA, Nat.le_refl _, fun d' _ _ hp => by simp at hp⟩
        · refine ⟨_, cap, hv, q1, fun d' h1 h2 hp => ⟨_, ds, f, rfl, fun j hj => ?_, fun j hj => ?_, q5, fun j q hj hq => ?_⟩⟩
          · obtain ⟨r1, r2, r3⟩ := q4 j hj
            have hd : d' = true := by
              rcases h1 with h | h
              · exact h.1
              · rw [hfl] at h; cases h
            subst hd
            refine ⟨r1, r2, fun i u hu => ?_⟩
            rw [add_plain, cell_of_row w b _ cur e' (0, 0) hb, r3 i (by have := (List.getElem?_eq_some_iff.1 hu).1; omega)]
            exact hu
          · obtain ⟨r1, _, _⟩ := q4 j hj
            simp only [LR, if_true] at r1
            exact C_one (O_C (ok := fun _ _ _ => True) (fun _ _ _ _ => trivial) r1)
          · have hin := (q7 q).2 (.inr ⟨j, hj, hq⟩)
            obtain ⟨r1, r2, r3⟩ := give_free I (ns := [m]) (fun n hn => by simp at hn; subst hn; exact ⟨_, _, _, _, hm⟩) q ⟨m, by simp, hin⟩
            exact ⟨r1, r2, ob_lt I hm hin, r3⟩
      · cases h
    · cases h
  · exact read h

theorem run_append (hT : TOk P T) (I : Inv F w0 N s a w g) (hb : ¬ N base) {o : Oper} {x y : Operand} {t : Nat} {ok : Bool} {s' : St} {ob : Obj} (ho : o.op = .call { callee := .builtin .append, args := #[x, y], argTypes := #[t, t] })
    (h : vappend T s t x y = some (ok, s', ob)) (hok : ok = true) :
    ∃ u w' g', (execOp a.eval o).run P w = .ok (.value u) w' ∧ Inv F w0 (fun n => N n ∨ n = base) (s'.add base ob) a w' g' ∧ VT w' F g' (.al base) u := by
  subst hok
  unfold vappend at h
  split at h
  · rename_i e k hk
    simp only [Option.bind_eq_some_iff] at h
    obtain ⟨vx, hx, vy, hy, ⟨p1, ys, s1⟩, hp, ⟨dd, xs, s2⟩, hq, h⟩ := h
    split at h
    · rename_i hc
      obtain ⟨hsz, hrow, hself, hselfs, hmix⟩ := hc
      simp only [Option.some.injEq, Prod.mk.injEq, decide_eq_true_eq] at h
      obtain ⟨hlim, rfl, rfl⟩ := h
      simp only [LIM] at hlim
      obtain ⟨I1, A, c, hu, hyc, hsrc⟩ := vsrc_Src I (eval_VT I hy) hp
      obtain ⟨fp, hD, I2, hfp, _⟩ := vdst_Dst I1 (eval_VT I hx) hq
      have I3 := inv_map I2 (weak_kill (w := w) (F := F) (N := N) (g := g) e)
      obtain ⟨hs1, hs2⟩ := killed_safe (s := s2) hrow
      have hD3 : Dst w F g (s2.map (TV.kill e)) e k dd xs (a.eval x) fp := by
        rcases hD with h | ⟨h1, h2⟩
        · exact .inl h
        · refine .inr ⟨h1, fun b hb => ⟨(h2 b hb).1, (h2 b hb).2.1, fun m o hm => ?_⟩⟩
          simp only [St.map, lk_mapL, Option.map_eq_some_iff] at hm
          obtain ⟨o', hm', _⟩ := hm
          exact (h2 b hb).2.2 m o' hm'
      have hconv : dd = (dd && p1) ∨ (dd = true ∧ (dd && p1) = false) := by
        cases dd <;> cases p1 <;> simp
      obtain ⟨d, hd, hsh⟩ := (hT t (by rw [hk]; simp)).und
      rw [hk] at hsh
      obtain ⟨rfl, he, hne⟩ := hsh
      obtain ⟨inf, hi, hsize, hz, hb0, hb1⟩ := (hT e (by rw [he]; exact hne)).info
      rw [he] at hsize hz
      have hrunop : ∀ {u w'}, (Builtin.append_ #[t, t] o.type #[a.eval x, a.eval y]).run P w = .ok u w' → (execOp a.eval o).run P w = .ok (.value u) w' := by
        intro u w' hr
        simp [execOp, ho, resolve, invoke, builtin, hr]
      rcases Nat.eq_zero_or_pos ys.length with h0 | hpos
      · have hy0 : ys = [] := List.length_eq_zero_iff.1 h0
        subst hy0
        obtain ⟨g2, I4, hV⟩ := row_append0 I3 hb hD3 hconv
        rw [List.append_nil]
        refine ⟨_, w, g2, hrunop ?_, I4, hV⟩
        rw [hu]
        have hform : ∃ B m cc, a.eval x = .slice B m cc ∧ m ≤ cc := by
          rcases hD with ⟨_, A', h⟩ | ⟨h1, _⟩
          · exact ⟨A', 0, 0, h, Nat.le_refl _⟩
          · rcases h1 with ⟨_, ⟨A', h⟩, _⟩ | ⟨b, cap, cur, f, ds, h, _, h2, _⟩
            · exact ⟨A', 0, 0, h, Nat.le_refl _⟩
            · exact ⟨_, _, _, h, h2⟩
        obtain ⟨B, m, cc, hB, hmc⟩ := hform
        rw [hB]
        exact append_none hd hi rfl hmc
      · obtain ⟨ad, es, fs, rfl, hS1, hS2, hS3, hS4⟩ := hsrc (dd && p1) (by
          cases dd <;> cases p1 <;> simp_all) (by cases dd <;> simp) hpos
        obtain ⟨u, w', g2, hr, I4, hV⟩ := row_append (ty := o.type) (c := c) I3 hb hs1 hs2 (by simpa using hself) hD3 hconv hd hi hz hsize hsz hb1 (by rw [zV_cells]; simp [zC_len]) es fs hpos (by omega) hS1 (by simpa using hselfs) hS2 hS3 (fun j q hj hq' => by
          obtain ⟨r1, r2, r3, r4⟩ := hS4 j q hj hq'
          refine ⟨r1, r2, r3, fun m o hm => ?_, fun hf => ?_⟩
          · simp only [St.map, lk_mapL, Option.map_eq_some_iff] at hm
            obtain ⟨o', hm', _⟩ := hm
            have : ∃ o'', lk s1.ob m = some o'' := by
              cases vx with
              | al n =>
                simp only [vdst] at hq
                split at hq
                · split at hq
                  · simp only [Option.some.injEq, Prod.mk.injEq] at hq
                    obtain ⟨_, _, rfl⟩ := hq
                    simp only [St.rm, lk_del, St.map, lk_mapL] at hm'
                    split at hm'
                    · cases hm'
                    · simp only [Option.map_eq_some_iff] at hm'
                      obtain ⟨o'', h, _⟩ := hm'
                      exact ⟨o'', h⟩
                  · cases hq
                · cases hq
              | z => simp only [vdst, Option.some.injEq, Prod.mk.injEq] at hq; obtain ⟨_, _, rfl⟩ := hq; exact ⟨_, hm'⟩
              | _ => simp [vdst] at hq
            obtain ⟨o'', h⟩ := this
            exact r4 m o'' h
          · obtain ⟨n, o', hn, hnq⟩ := hfp q hf
            exact r4 n o' hn hnq)
        refine ⟨u, w', g2, hrunop ?_, I4, hV⟩
        rw [hu]
        exact hr
    · cases h
  · cases h

end
end Go.Vm

/- The value machine, part 22e: structs and arrays that are compared. -/
set_option linter.unusedVariables false
set_option linter.unusedSimpArgs false
namespace Go.Vm

mutual
def eqD : (k : K) → dn k → dn k → Bool
  | .int _, x, y => decide ((x : Int) = y)
  | .bool, x, y => (x : Bool) == y
  | .str, x, y => decide ((x : ByteArray) = y)
  | .sl _ _, _, _ => false
  | .arr _ k, xs, ys => eqL k xs ys
  | .pr a b, x, y => eqD a x.1 y.1 && eqD b x.2 y.2
  | .un, _, _ => true
def eqL : (k : K) → List (dn k) → List (dn k) → Bool
  | k, x :: xs, y :: ys => eqD k x y && eqL k xs ys
  | _, _, _ => true
end

def K.dep : K → Nat
  | .arr _ k => k.dep + 1
  | .pr a b => max (a.dep + 1) b.dep
  | _ => 0

section
variable {P : Program} {T : Nat → K} {w w' : World} {w0 : W0} {F N : Nat → Prop} {g g' : G} {s : St} {a : Act} {base : Nat}

theorem run_part {t off : Nat} (h : TyOk P T t) {xs : Array Value} (hl : off + (T t).sz ≤ xs.size) (w : World) : (part t xs off).run P w = .ok (valOf (T t).agg (sub xs.toList off (T t).sz)) w := by
  obtain ⟨i, hi, hsz, _⟩ := h.info
  have ha := run_isAgg h w
  unfold part
  rw [Sem.run_bind, ha, Result.andThen_ok]
  cases hk : (T t).agg with
  | true =>
    simp only [if_true, Sem.run_bind, sizeOf, typeInfo, run_program, Result.andThen_ok, hi, hsz, Sem.run_pure, valOf]
    congr 2
    apply Array.toList_inj.1
    simp [sub, List.take_drop]
  | false =>
    have h1 := leaf_sz (t := t) hk
    rw [h1] at hl ⊢
    have hlt : off < xs.size := by omega
    simp only [Bool.false_eq_true, if_false, valOf]
    rw [Array.getElem?_eq_getElem hlt]
    simp only [Sem.run_pure]
    congr 1
    have : (sub xs.toList off 1)[0]? = some xs[off] := by rw [sub_get _ _ _ _ (by omega)]; simp [hlt]
    cases hs : sub xs.toList off 1 with
    | nil => rw [hs] at this; simp at this
    | cons v r => rw [hs] at this; simp at this; simp [this]

/-- The elements of an array that are compared. -/
def eqElems (d e n : Nat) (xs ys : Array Value) : List Nat → Sem Bool
  | [] => pure true
  | i :: r => do
    let a ← part e xs (i * n)
    let b ← part e ys (i * n)
    let q ← Op.equalIn d e a b
    if (!q) = true then pure false else eqElems d e n xs ys r

theorem run_equalIn_arr {d t len e n : Nat} {xs ys : Array Value} (ht : P.underlying t = some (.array len e)) (hn : ∀ w, (sizeOf e).run P w = .ok n w) (w : World) :
    (Op.equalIn (d + 1) t (.agg xs) (.agg ys)).run P w = (eqElems d e n xs ys (List.range len)).run P w := by
  simp only [Op.equalIn, Sem.run_bind, run_underlying ht, Result.andThen_ok, hn]
  simp only [Std.Legacy.Range.forIn_eq_forIn_range', Std.Legacy.Range.size, Nat.sub_zero, Nat.add_one_sub_one, Nat.div_one, List.range_eq_range']
  generalize List.range' 0 len = l
  induction l generalizing w with
  | nil => simp [eqElems]
  | cons i l ih =>
    simp only [List.forIn_cons, eqElems, Sem.run_bind, Sem.run_ite]
    generalize (part e xs (i * n)).run P w = r1
    cases r1 with
    | ok a w1 =>
      simp only [Result.andThen_ok]
      generalize (part e ys (i * n)).run P w1 = r2
      cases r2 with
      | ok b w2 =>
        simp only [Result.andThen_ok]
        generalize (Op.equalIn d e a b).run P w2 = r3
        cases r3 with
        | ok r w3 =>
          cases r
          · simp only [Result.andThen_ok, Bool.not_false, if_true, Sem.run_pure]
          · simp only [Result.andThen_ok, Bool.not_true, Bool.false_eq_true, if_false, Sem.run_pure]
            exact ih w3
        | halt x w3 => simp [Result.andThen]
      | halt x w2 => simp [Result.andThen]
    | halt x w1 => simp [Result.andThen]

theorem C_valOf {ok : Nat → Nat → Nat → Prop} {k : K} {x : dn k} {cs : List Value} (h : C w ok k x cs) (ha : k.agg = false) : ∃ v, cs = [v] ∧ valOf k.agg cs = v := by
  have hl := C_len h
  have h1 : k.sz = 1 := by cases k <;> simp_all [K.agg, K.sz]
  rw [h1] at hl
  match cs, hl with
  | [v], _ => exact ⟨v, rfl, by simp [valOf, ha]⟩

theorem run_eqD (hT : TOk P T) {ok ok' : Nat → Nat → Nat → Prop} : ∀ (k : K), k.eqb = true →
    (∀ (t d : Nat) (x y : dn k) (cs ds : List Value) (w1 : World), T t = k → k ≠ .un → k.dep < d → C w ok k x cs → C w ok' k y ds → (Op.equalIn d t (valOf k.agg cs) (valOf k.agg ds)).run P w1 = .ok (eqD k x y) w1) ∧
    (∀ (fs : List Field) (d o : Nat) (x y : dn k) (xs ys : Array Value) (w1 : World), fieldsOk T k fs o → k.dep ≤ d → (∀ f ∈ fs, f.name ≠ "_") → o + k.sz ≤ xs.size → o + k.sz ≤ ys.size → C w ok k x (sub xs.toList o k.sz) → C w ok' k y (sub ys.toList o k.sz) →
      (Op.eqFields d xs ys fs).run P w1 = .ok (eqD k x y) w1) := by
  intro k
  induction k with
  | int ik =>
    intro _
    refine ⟨fun t d x y cs ds w1 ht _ hd h1 h2 => ?_, fun fs d o x y xs ys w1 hf => by cases fs <;> simp [fieldsOk] at hf⟩
    obtain ⟨dd, hdd, hs⟩ := (hT t (by rw [ht]; simp)).und
    rw [ht] at hs
    simp only [shapeOk] at hs
    subst hs
    obtain ⟨d', rfl⟩ : ∃ d', d = d' + 1 := ⟨d - 1, by omega⟩
    simp only [C] at h1 h2
    subst h1 h2
    simp only [valOf, K.agg, Bool.false_eq_true, if_false, List.headD_cons, run_equalIn_int w1 d' t ik ik x y hdd, eqD, beqd]
  | bool =>
    intro _
    refine ⟨fun t d x y cs ds w1 ht _ hd h1 h2 => ?_, fun fs d o x y xs ys w1 hf => by cases fs <;> simp [fieldsOk] at hf⟩
    obtain ⟨dd, hdd, hs⟩ := (hT t (by rw [ht]; simp)).und
    rw [ht] at hs
    simp only [shapeOk] at hs
    subst hs
    obtain ⟨d', rfl⟩ : ∃ d', d = d' + 1 := ⟨d - 1, by omega⟩
    simp only [C] at h1 h2
    subst h1 h2
    simp only [valOf, K.agg, Bool.false_eq_true, if_false, List.headD_cons, run_equalIn_bool' w1 d' t x y hdd, eqD]
  | str =>
    intro _
    refine ⟨fun t d x y cs ds w1 ht _ hd h1 h2 => ?_, fun fs d o x y xs ys w1 hf => by cases fs <;> simp [fieldsOk] at hf⟩
    obtain ⟨dd, hdd, hs⟩ := (hT t (by rw [ht]; simp)).und
    rw [ht] at hs
    simp only [shapeOk] at hs
    subst hs
    obtain ⟨d', rfl⟩ : ∃ d', d = d' + 1 := ⟨d - 1, by omega⟩
    simp only [C] at h1 h2
    subst h1 h2
    have : ((x : ByteArray).toList == (y : ByteArray).toList) = decide ((x : ByteArray) = y) := beqs x y
    simp only [valOf, K.agg, Bool.false_eq_true, if_false, List.headD_cons, run_equalIn_string w1 d' t x y hdd, eqD, this]
  | sl e k ih => intro h; simp [K.eqb] at h
  | un =>
    intro _
    refine ⟨fun t d x y cs ds w1 ht hu => absurd rfl hu, fun fs d o x y xs ys w1 hf hd hn hx hy h1 h2 => ?_⟩
    cases fs with
    | nil => simp [Op.eqFields, eqD]
    | cons f r => simp [fieldsOk] at hf
  | arr n k ih =>
    intro he
    obtain ⟨ihA, _⟩ := ih (by simpa [K.eqb] using he)
    refine ⟨fun t d x y cs ds w1 ht _ hd h1 h2 => ?_, fun fs d o x y xs ys w1 hf => by cases fs <;> simp [fieldsOk] at hf⟩
    obtain ⟨dd, hdd, hs⟩ := (hT t (by rw [ht]; simp)).und
    rw [ht] at hs
    obtain ⟨e, rfl, hTe, hne⟩ := hs
    obtain ⟨d', rfl⟩ : ∃ d', d = d' + 1 := ⟨d - 1, by omega⟩
    simp only [K.dep] at hd
    have hTy := hT e (by rw [hTe]; exact hne)
    obtain ⟨i, hi, hsz, _⟩ := hTy.info
    have hsize : ∀ w, (sizeOf e).run P w = .ok k.sz w := fun w => by simp [sizeOf, Sem.run_bind, typeInfo, run_program, hi, hsz, hTe]
    obtain ⟨a1, a2, a3⟩ := h1
    obtain ⟨b1, b2, b3⟩ := h2
    simp only [valOf, K.agg, if_true]
    rw [run_equalIn_arr hdd hsize]
    have gen : ∀ (m : Nat) (xs ys : List (dn k)) (i : Nat) (w1 : World), i + m = n → List.length xs = m → List.length ys = m → (∀ j (h : j < List.length xs), C w ok k xs[j] ((cs.drop ((i + j) * k.sz)).take k.sz)) →
        (∀ j (h : j < List.length ys), C w ok' k ys[j] ((ds.drop ((i + j) * k.sz)).take k.sz)) → (eqElems d' e k.sz cs.toArray ds.toArray (List.range' i m)).run P w1 = .ok (eqL k xs ys) w1 := by
      intro m
      induction m with
      | zero =>
        intro xs ys i w1 _ hx hy _ _
        cases xs with
        | nil => cases ys with
          | nil => simp [eqElems, eqL]
          | cons _ _ => simp at hy
        | cons _ _ => simp at hx
      | succ m ihm =>
        intro xs ys i w1 hin hx hy h1 h2
        cases xs with
        | nil => simp at hx
        | cons x0 xr =>
          cases ys with
          | nil => simp at hy
          | cons y0 yr =>
            have bnd : i * k.sz + k.sz ≤ n * k.sz := by
              have : (i + 1) * k.sz ≤ n * k.sz := Nat.mul_le_mul_right _ (by omega)
              rw [Nat.add_mul] at this
              omega
            have c1 := h1 0 (by simp)
            have c2 := h2 0 (by simp)
            simp only [Nat.add_zero, List.getElem_cons_zero] at c1 c2
            have p1 := run_part (P := P) hTy (xs := cs.toArray) (off := i * k.sz) (by rw [hTe]; simp [a2]; exact bnd) w1
            have p2 := run_part (P := P) hTy (xs := ds.toArray) (off := i * k.sz) (by rw [hTe]; simp [b2]; exact bnd) w1
            rw [hTe] at p1 p2
            have q := ihA e d' x0 y0 _ _ w1 hTe hne (by omega) c1 c2
            rw [List.range'_succ]
            simp only [eqElems, Sem.run_bind, p1, p2, Result.andThen_ok, sub, q, eqL, Sem.run_ite]
            cases hq : eqD k x0 y0 with
            | false => simp
            | true =>
              simp only [Bool.not_true, Bool.false_eq_true, if_false, Bool.true_and]
              refine ihm xr yr (i + 1) w1 (by omega) (by simpa using hx) (by simpa using hy) (fun j hj => ?_) (fun j hj => ?_)
              · have := h1 (j + 1) (by simpa using hj)
                simp only [List.getElem_cons_succ] at this
                rw [show i + 1 + j = i + (j + 1) by omega]
                exact this
              · have := h2 (j + 1) (by simpa using hj)
                simp only [List.getElem_cons_succ] at this
                rw [show i + 1 + j = i + (j + 1) by omega]
                exact this
    rw [List.range_eq_range']
    simp only [eqD]
    exact gen n x y 0 w1 (by omega) a1 b1 (fun j hj => by simpa using a3 j hj) (fun j hj => by simpa using b3 j hj)
  | pr ka kb iha ihb =>
    intro he
    simp only [K.eqb, Bool.and_eq_true] at he
    obtain ⟨iA, _⟩ := iha he.1
    obtain ⟨_, iB⟩ := ihb he.2
    have B : ∀ (fs : List Field) (d o : Nat) (x y : dn (.pr ka kb)) (xs ys : Array Value) (w1 : World), fieldsOk T (.pr ka kb) fs o → (K.pr ka kb).dep ≤ d → (∀ f ∈ fs, f.name ≠ "_") → o + (K.pr ka kb).sz ≤ xs.size → o + (K.pr ka kb).sz ≤ ys.size →
        C w ok (.pr ka kb) x (sub xs.toList o (K.pr ka kb).sz) → C w ok' (.pr ka kb) y (sub ys.toList o (K.pr ka kb).sz) → (Op.eqFields d xs ys fs).run P w1 = .ok (eqD (.pr ka kb) x y) w1 := by
      intro fs d o x y xs ys w1 hf hd hn hx hy h1 h2
      cases fs with
      | nil => simp [fieldsOk] at hf
      | cons f r =>
        obtain ⟨f1, f2, f3, f4⟩ := hf
        simp only [K.sz] at hx hy
        simp only [K.dep] at hd
        have hTy := hT f.type (by rw [f2]; intro h; rw [h] at f3; simp [K.sz] at f3)
        obtain ⟨c1, c2, e1, h1a, h1b⟩ := h1
        obtain ⟨d1, d2, e2, h2a, h2b⟩ := h2
        have l1 := C_len h1a
        have l2 := C_len h2a
        have l1b := C_len h1b
        have l2b := C_len h2b
        have s1 : sub xs.toList o ka.sz = c1 := by
          have := congrArg (fun l => sub l 0 ka.sz) e1
          rw [sub_left c1 c2 ka.sz l1, sub_sub _ _ _ _ _ (by rw [e1, sub_left c1 c2 ka.sz l1, l1])] at this
          exact this
        have s2 : sub ys.toList o ka.sz = d1 := by
          have := congrArg (fun l => sub l 0 ka.sz) e2
          rw [sub_left d1 d2 ka.sz l2, sub_sub _ _ _ _ _ (by rw [e2, sub_left d1 d2 ka.sz l2, l2])] at this
          exact this
        have s3 : sub xs.toList (o + ka.sz) kb.sz = c2 := by
          have := congrArg (fun l => sub l ka.sz kb.sz) e1
          rw [sub_right0 c1 c2 ka.sz kb.sz l1 l1b, sub_sub _ _ _ _ _ (by rw [e1, sub_right0 c1 c2 ka.sz kb.sz l1 l1b, l1b])] at this
          exact this
        have s4 : sub ys.toList (o + ka.sz) kb.sz = d2 := by
          have := congrArg (fun l => sub l ka.sz kb.sz) e2
          rw [sub_right0 d1 d2 ka.sz kb.sz l2 l2b, sub_sub _ _ _ _ _ (by rw [e2, sub_right0 d1 d2 ka.sz kb.sz l2 l2b, l2b])] at this
          exact this
        have p1 := run_part (P := P) hTy (xs := xs) (off := f.offset) (by rw [f2, f1]; omega) w1
        have p2 := run_part (P := P) hTy (xs := ys) (off := f.offset) (by rw [f2, f1]; omega) w1
        rw [f2, f1] at p1 p2
        rw [s1] at p1
        rw [s2] at p2
        have q := iA f.type d x.1 y.1 c1 d1 w1 f2 (by intro h; rw [h] at f3; simp [K.sz] at f3) (by omega) h1a h2a
        have hnf : f.name ≠ "_" := hn f List.mem_cons_self
        simp only [Op.eqFields, if_pos hnf, Sem.run_bind, f1, p1, p2, Result.andThen_ok, q, eqD, Sem.run_ite]
        cases hq : eqD ka x.1 y.1 with
        | false => simp
        | true =>
          simp only [Bool.not_true, Bool.false_eq_true, if_false, Bool.true_and]
          exact iB r d (o + ka.sz) x.2 y.2 xs ys w1 f4 (by omega) (fun f hf => hn f (List.mem_cons_of_mem _ hf)) (by omega) (by omega) (by rw [s3]; exact h1b) (by rw [s4]; exact h2b)
    refine ⟨fun t d x y cs ds w1 ht _ hd h1 h2 => ?_, B⟩
    have hTy := hT t (by rw [ht]; simp)
    obtain ⟨dd, hdd, hs⟩ := hTy.und
    rw [ht] at hs
    obtain ⟨fs, rfl, hfs⟩ := hs
    obtain ⟨q1, q2, q3⟩ := hTy.eq (by rw [ht]; simp [K.agg, K.eqb, he.1, he.2])
    obtain ⟨d', rfl⟩ : ∃ d', d = d' + 1 := ⟨d - 1, by omega⟩
    have hfo : P.fieldsOf t = fs := by simp [Program.fieldsOf, hdd]
    simp only [valOf, K.agg, if_true]
    rw [run_equalIn_struct w1 d' t _ _ (by rw [hfo]; exact hdd) q1]
    have l1 := C_len h1
    have l2 := C_len h2
    exact B _ d' 0 x y _ _ w1 (by rw [hfo]; exact hfs) (by omega) q3 (by simp [l1]) (by simp [l2]) (by rw [← l1]; simpa [sub_all] using h1) (by rw [← l2]; simpa [sub_all] using h2)

theorem eqL_iff {k : K} (h : ∀ x y : dn k, eqD k x y = true ↔ x = y) : ∀ xs ys : List (dn k), xs.length = ys.length → (eqL k xs ys = true ↔ xs = ys) := by
  intro xs
  induction xs with
  | nil => intro ys hl; cases ys with
    | nil => simp [eqL]
    | cons _ _ => simp at hl
  | cons x xs ih =>
    intro ys hl
    cases ys with
    | nil => simp at hl
    | cons y ys =>
      simp only [eqL, Bool.and_eq_true, h x y, ih ys (by simpa using hl), List.cons.injEq]

end
end Go.Vm

/- The value machine, part 23: slices that are made without room; appends to them. -/
set_option linter.unusedVariables false
set_option linter.unusedSimpArgs false
namespace Go.Vm

/-- append(x, y...) where x has no room: a fresh row. -/
def vappz (T : Nat → K) (lt : Nat → Option TV) (lo : Nat → Option Obj) (base : Nat) (t : Nat) (x y : Operand) : Option Out :=
  match T t with
  | .sl e k =>
    (evo lt x).bind fun vx => (evo lt y).bind fun vy =>
    match vx with
    | .z => if k.flat = true ∧ 0 < k.sz then (lst lo e k vy).map fun ys => ⟨decide ((ys.length : Int) ≤ LIM), .al base, some (.ls e k true ys)⟩ else none
    | _ => none
  | _ => none

/-- Structs and arrays that are compared. -/
def veq (T : Nat → K) (lt : Nat → Option TV) (op : BinOp) (t : Nat) (x y : Operand) : Option Out :=
  if ((T t).eqb && decide ((T t).dep < 10000 ∧ T t ≠ .un)) = true then
    (evo lt x).bind fun a => (evo lt y).bind fun b => (flatD (T t) a).bind fun p => (flatD (T t) b).bind fun q =>
      match op with
      | .eql => some ⟨true, .sc true .bool (eqD (T t) p q), none⟩
      | .neq => some ⟨true, .sc true .bool (!eqD (T t) p q), none⟩
      | _ => none
  else none

def vpure2 (T : Nat → K) (lt : Nat → Option TV) (lo : Nat → Option Obj) (base : Nat) (op : Op) : Option Out :=
  match op with
  | .buildSlice t 0 parts => if parts.isEmpty then (match T t with | .sl _ _ => some ⟨true, .z, none⟩ | _ => none) else none
  | .call { callee := .builtin .append, args, argTypes } =>
    match args.toList, argTypes.toList with
    | [x, y], [t, t'] => if t' = t then vappz T lt lo base t x y else none
    | _, _ => none
  | .binOp op t x y ty => if (T t).agg then veq T lt op t x y else vpure T lt lo base (.binOp op t x y ty)
  | op => vpure T lt lo base op

section
variable {P : Program} {T : Nat → K} {w w' : World} {w0 : W0} {F N : Nat → Prop} {g g' : G} {s : St} {a : Act} {base : Nat}

theorem made_alloc (I : Inv F w0 N s a w g) (ob : Go.Obj) : Made F N g g w (w.alloc ob) base none :=
  ⟨⟨fun b hb _ => heap_alloc w _ b hb, fun _ h => h.elim, fun _ _ h => h.elim, fun _ _ h => h.elim, fun _ _ => Iff.rfl, fun _ _ => rfl⟩, fun _ _ => rfl, kept_alloc _ _ _,
    fun b hb => by rw [size_alloc]; have := I.bxF b hb; omega, fun _ h => by cases h⟩

theorem run_build0 (hT : TOk P T) (I : Inv F w0 N s a w g) {o : Oper} {t e : Nat} {k : K} {parts : Array (Nat × Operand)} (ho : o.op = .buildSlice t 0 parts) (hp : parts.isEmpty = true) (hk : T t = .sl e k) :
    Runs P F N g w base a o ⟨true, .z, none⟩ := by
  obtain ⟨d, hd, hsh⟩ := (hT t (by rw [hk]; simp)).und
  rw [hk] at hsh
  obtain ⟨rfl, he, hne⟩ := hsh
  obtain ⟨inf, hi, hsz, hz, hb0, hb1⟩ := (hT e (by rw [he]; exact hne)).info
  have hp0 : parts = #[] := by simpa using hp
  subst hp0
  refine ⟨.slice (some ⟨w.heap.size, 0, none⟩) 0 0, w.alloc (.cells #[] e), g, ?_, made_alloc I _, ⟨_, rfl⟩, trivial⟩
  have hr : (Array.range 0 : Array Nat) = #[] := rfl
  simp [execOp, ho, Instr.buildSlice, Sem.run_bind, run_underlying hd, sizeOf, typeInfo, run_program, hi, newRow, Instr.fill, hr]

theorem run_appz (hT : TOk P T) (I : Inv F w0 N s a w g) (hb : ¬ N base) {o : Oper} {x y : Operand} {t : Nat} {out : Out} (ho : o.op = .call { callee := .builtin .append, args := #[x, y], argTypes := #[t, t] })
    (h : vappz T (lk s.tm) (lk s.ob) base t x y = some out) (hok : out.ok = true) : Runs P F N g w base a o out := by
  unfold vappz at h
  split at h
  · rename_i e k hk
    simp only [Option.bind_eq_some_iff] at h
    obtain ⟨vx, hx, vy, hy, h⟩ := h
    split at h
    · split at h
      · rename_i hc
        obtain ⟨hfl, hsz⟩ := hc
        simp only [Option.map_eq_some_iff] at h
        obtain ⟨ys, hl, rfl⟩ := h
        simp only [decide_eq_true_eq, LIM] at hok
        obtain ⟨A0, hx0⟩ := VT_leaf (eval_VT I hx) rfl rfl
        simp only [List.cons.injEq, and_true] at hx0
        obtain ⟨A, c, hu, hyc, hsrc⟩ := src_read (s := s) (lst_C I (eval_VT I hy) hl)
        obtain ⟨d, hd, hsh⟩ := (hT t (by rw [hk]; simp)).und
        rw [hk] at hsh
        obtain ⟨rfl, he, hne⟩ := hsh
        obtain ⟨inf, hi, hsize, hz, hb0, hb1⟩ := (hT e (by rw [he]; exact hne)).info
        rw [he] at hsize hz
        have hrunop : ∀ {u w'}, (Builtin.append_ #[t, t] o.type #[a.eval x, a.eval y]).run P w = .ok u w' → (execOp a.eval o).run P w = .ok (.value u) w' := by
          intro u w' hr
          simp [execOp, ho, resolve, invoke, builtin, hr]
        rw [hx0, hu] at hrunop
        rcases Nat.eq_zero_or_pos ys.length with h0 | hpos
        · have hy0 : ys = [] := List.length_eq_zero_iff.1 h0
          subst hy0
          refine ⟨_, w, g.row base (.slice A0 0 0) (fun _ => False), hrunop (append_none hd hi rfl (Nat.le_refl _)), ?_, ⟨by simp [G.row], _, _, _, by simp [G.row]; exact ⟨rfl, rfl, rfl⟩⟩, .inr ⟨rfl, by simp⟩⟩
          refine ⟨⟨fun _ _ _ => rfl, fun _ h => h.elim, fun _ _ h => h.elim, fun _ _ h => h.elim, fun _ _ => Iff.rfl, fun n hn => ?_⟩, fun n hn => ?_, Kept.refl _ _, I.bxF, fun o ho' => ?_⟩
          · simp only [G.row]; rw [if_neg]; rintro rfl; exact hb hn
          · simp only [G.row]; rw [if_neg]; rintro rfl; exact hb hn
          · injection ho' with ho'
            subst ho'
            refine ⟨⟨?_, fun b hb' => ?_⟩, fun b hb' => ?_, trivial⟩
            · simp only [G.row, if_true]
              exact .inl ⟨rfl, ⟨A0, rfl⟩, fun _ h => h⟩
            · simp only [G.row, if_true] at hb'
            · simp only [G.row, if_true] at hb'
        · obtain ⟨ad, es, fs, rfl, hS1, hS2, hS3, hS4⟩ := hsrc true (.inr hfl) hpos
          have hnl : (cat es ys.length).length = ys.length * k.sz := cat_len es _ _ (fun j hj => (hS1 j hj).2.1)
          have hget : ∀ j i, j < ys.length → i < k.sz → (cat es ys.length)[j * k.sz + i]? = (es j)[i]? := cat_get es _ _ (fun j hj => (hS1 j hj).2.1)
          have hnews : ∀ j u, (cat es ys.length)[j]? = some u → w.cell? (ad.add j) = some u := by
            intro j u hu
            have hj : j < ys.length * k.sz := by rw [← hnl]; exact (List.getElem?_eq_some_iff.1 hu).1
            have hq : j / k.sz < ys.length := (Nat.div_lt_iff_lt_mul hsz).2 hj
            have he : j = j / k.sz * k.sz + j % k.sz := by rw [Nat.mul_comm]; exact (Nat.div_add_mod j k.sz).symm
            rw [he] at hu ⊢
            rw [hget _ _ hq (Nat.mod_lt _ hsz)] at hu
            exact (hS1 _ hq).2.2 _ _ hu
          have hone : ∀ u ∈ cat es ys.length, u.oneCell' = true := by
            intro u hu
            obtain ⟨j, hj, hu⟩ := cat_mem es _ u hu
            exact hS2 j hj u hu
          obtain ⟨b', cap', cur', w', hrun, hb', hle, hcap, hcs', hgold, hgnew, hwhich, hos, htape, hout, hgrow, hsame⟩ := append_core (P := P) (w := w) (ty := o.type) (c := c) (b := 0) (A := A0) (n := 0) (cap := 0) (cur := #[]) (news := cat es ys.length) hd hi hz hsize (by rw [zV_cells]; simp [zC_len]) hsz hb1 (.inl ⟨rfl, rfl⟩) hnl hnews hone hpos (by have : (ys.length : Int) ≤ 1073741824 := of_decide_eq_true hok; omega)
          have hbs : b' = w.heap.size := by
            rcases hwhich with ⟨_, h⟩ | h
            · omega
            · exact h
          subst hbs
          simp only [Nat.zero_add, Nat.zero_mul] at hrun hle hgnew
          let u : Value := .slice (some ⟨w.heap.size, 0, none⟩) ys.length cap'
          let g2 : G := g.row base u (fun q => q = w.heap.size)
          have hlt : w.heap.size < w'.heap.size := (Array.getElem?_eq_some_iff.1 hb').1
          refine ⟨u, w', g2, hrunop hrun, ?_, ⟨by simp [g2, G.row], _, _, _, by simp [g2, G.row]; rfl⟩, .inr ⟨rfl, by simp⟩⟩
          refine ⟨⟨fun b hb _ => hsame b hb (by omega), fun _ h => h.elim, fun _ _ h => h.elim, fun _ _ h => h.elim, fun _ _ => Iff.rfl, fun n hn => ?_⟩, fun n hn => ?_, ⟨hos, htape, hout, hgrow, fun q hq _ => hsame q hq (by omega)⟩, fun b hb => ?_, fun o ho' => ?_⟩
          · simp only [g2, G.row]; rw [if_neg]; rintro rfl; exact hb hn
          · simp only [g2, G.row]; rw [if_neg]; rintro rfl; exact hb hn
          · have := I.bxF b hb; omega
          · injection ho' with ho'
            subst ho'
            refine ⟨⟨?_, fun b hb' hx => ?_⟩, fun b hb' => ?_, trivial⟩
            · simp only [g2, G.row, if_true]
              refine .inr ⟨w.heap.size, cap', cur', fun _ _ => False, es, rfl, hb', hle, hcap, hcs', fun j hj => ?_, fun _ _ _ _ _ _ h => h.elim, fun _ _ h => h, fun q => by simp⟩
              obtain ⟨r1, r2, _⟩ := hS1 j hj
              have hmul : (j + 1) * k.sz ≤ ys.length * k.sz := Nat.mul_le_mul_right _ hj
              rw [Nat.succ_mul] at hmul
              refine ⟨?_, r2, fun i hi' => by rw [hgnew _ (by omega), hget _ _ hj hi']⟩
              simp only [LR, if_true] at r1 ⊢
              exact O_of_flat hfl (C_flat (ok' := fun _ _ _ => True) hfl (O_C (ok := fun _ _ _ => True) (fun _ _ _ _ => trivial) r1))
            · simp only [g2, G.row, if_true] at hb' hx
              have := I.bxF _ hx
              omega
            · simp only [g2, G.row, if_true] at hb'
              subst hb'
              exact ⟨Nat.le_refl _, new_F I⟩
      · cases h
    · cases h
  · cases h

theorem flat_val {v : TV} {k : K} {x : dn k} {u : Value} (ha : k.agg = true) (hV : VT w F g v u) (hf : flatD k v = some x) : ∃ cs, u = .agg cs.toArray ∧ C w (fun _ _ _ => True) k x cs := by
  have hag : v.agg = true := by
    cases v with
    | sc e k' y =>
      simp only [flatD] at hf
      split at hf
      · rename_i hk; subst hk; exact ha
      · cases hf
    | pr a b => rfl
    | un => rfl
    | _ => simp [flatD] at hf
  obtain ⟨cs, h1, h2⟩ := VT_agg hV hag
  exact ⟨cs, h1, (flatD_C h2 hf).2 w _⟩

theorem run_veq (hT : TOk P T) (I : Inv F w0 N s a w g) {o : Oper} {op : BinOp} {t ty : Nat} {x y : Operand} {out : Out} (ho : o.op = .binOp op t x y ty) (hag : (T t).agg = true) (h : veq T (lk s.tm) op t x y = some out) : Runs P F N g w base a o out := by
  unfold veq at h
  split at h
  · rename_i hc
    simp only [Bool.and_eq_true, decide_eq_true_eq] at hc
    simp only [Option.bind_eq_some_iff] at h
    obtain ⟨va, hva, vb, hvb, p, hp, q, hq, h⟩ := h
    obtain ⟨cs, hx, hcs⟩ := flat_val hag (eval_VT I hva) hp
    obtain ⟨ds, hy, hds⟩ := flat_val hag (eval_VT I hvb) hq
    have hne : T t ≠ .un := hc.2.2
    have hTy := hT t hne
    obtain ⟨_, hg, _⟩ := hTy.eq (by rw [hag, hc.1]; rfl)
    have hrun := ((run_eqD (w := w) hT (T t) hc.1).1 t 10000 p q cs ds w rfl hne hc.2.1 hcs hds)
    rw [hag] at hrun
    simp only [valOf, if_true] at hrun
    have hgd := run_eqGuard_agg w op t x y cs.toArray ds.toArray hg
    split at h
    · simp only [Option.some.injEq] at h
      subst h
      exact Runs.bool I (by simp [execOp, ho, hx, hy, Sem.run_bind, hgd, run_eql_struct, hrun])
    · simp only [Option.some.injEq] at h
      subst h
      exact Runs.bool I (by simp [execOp, ho, hx, hy, Sem.run_bind, hgd, run_neq_struct, hrun])
    · cases h
  · cases h

theorem vpure2_run (hT : TOk P T) (I : Inv F w0 N s a w g) (hb : ¬ N base) {o : Oper} {out : Out} (h : vpure2 T (lk s.tm) (lk s.ob) base o.op = some out) (hok : out.ok = true) : Runs P F N g w base a o out := by
  generalize ho : o.op = op at h
  unfold vpure2 at h
  split at h
  · split at h
    · rename_i hp
      split at h
      · rename_i e k hk
        simp only [Option.some.injEq] at h
        subst h
        exact run_build0 hT I ho hp hk
      · cases h
    · cases h
  · rename_i args argTypes
    split at h
    · rename_i x y t t' hx ht
      split at h
      · rename_i he
        subst he
        have hx' : args = #[x, y] := by rw [← Array.toList_inj, hx]
        have ht' : argTypes = #[t', t'] := by rw [← Array.toList_inj, ht]
        subst hx' ht'
        exact run_appz hT I hb ho h hok
      · cases h
    · cases h
  · split at h
    · rename_i hag
      exact run_veq hT I ho hag h
    · exact vpure_run hT I hb (by rw [ho]; exact h) hok
  · exact vpure_run hT I hb (by rw [ho]; exact h) hok

end
end Go.Vm

/- The value machine, part 24: any operation of one result (no call of the program's own functions): makes, stores, appends. -/
set_option linter.unusedVariables false
set_option linter.unusedSimpArgs false
namespace Go.Vm

/-- What an operation comes to: may it; the state ahead of what is laid or told anew; what is laid or told anew; the result. -/
structure Res where
  ok : Bool
  s : St
  nw : Option (Nat × Obj)
  v : TV

def St.addO (s : St) : Option (Nat × Obj) → St
  | some p => s.add p.1 p.2
  | none => s
def St.up (s : St) (b : Bool) : St := { s with nx := if b then s.nx + 1 else s.nx }

def ofOut (s : St) (out : Out) : Res := ⟨out.ok, s.up out.nw.isSome, out.nw.map fun o => (s.nx, o), out.v⟩

def vstore (T : Nat → K) (s : St) (t : Nat) (p x : Operand) : Option Res :=
  if T t = .un then none else
  (evo (lk s.tm) p).bind fun vp => (evo (lk s.tm) x).bind fun v =>
  match vp with
  | .bp n path =>
    match lk s.ob n with
    | some (.bx c) => if v.sz = (T t).sz ∧ live v = true then (setP v path c).map fun c' => ⟨true, s, some (n, .bx c'), .dead 1⟩ else none
    | _ => none
  | .ep n i st path =>
    match lk s.ob n with
    | some (.ls e k deep xs) =>
      if st = k.sz then
        match flatD (T t) v with
        | some y => if rowsOk e s.ob = true then (setD (T t) y path k (xs.getD i (dz k))).map fun x' => ⟨true, s.map (TV.kill e), some (n, .ls e k deep (xs.set i x')), .dead 1⟩ else none
        | none =>
          match path, deep with
          | [], true =>
            if T t = k then (packO (lk s.ob) k v).bind fun q =>
              if q.2.Nodup ∧ n ∉ q.2 ∧ rowsOk e (s.give q.2).ob = true then some ⟨true, (s.give q.2).map (TV.kill e), some (n, .ls e k true (xs.set i q.1)), .dead 1⟩ else none
            else none
          | _, _ => none
      else none
    | _ => none
  | _ => none

def vop (T : Nat → K) (s : St) (op : Op) : Option Res :=
  match op with
  | .store t p x => vstore T s t p x
  | .call { callee := .builtin .append, args, argTypes } =>
    match args.toList, argTypes.toList with
    | [x, y], [t, t'] =>
      if t' = t then
        match vappz T (lk s.tm) (lk s.ob) s.nx t x y with
        | some out => some (ofOut s out)
        | none => (vappend T s t x y).map fun q => ⟨q.1, q.2.1.up true, some (s.nx, q.2.2), .al s.nx⟩
      else none
    | _, _ => none
  | .buildSlice t len parts =>
    match vpure2 T (lk s.tm) (lk s.ob) s.nx (.buildSlice t len parts) with
    | some out => some (ofOut s out)
    | none =>
      match T t, parts.toList with
      | .sl e k, [(0, x)] =>
        if len = 1 ∧ k.sz ≤ 4096 then
          (evo (lk s.tm) x).bind fun v => (packO (lk s.ob) k v).bind fun q =>
            if q.2.Nodup then some ⟨true, (s.give q.2).up true, some (s.nx, .ls e k true [q.1]), .al s.nx⟩ else none
        else none
      | _, _ => none
  | op => (vpure2 T (lk s.tm) (lk s.ob) s.nx op).map (ofOut s)

section
variable {P : Program} {T : Nat → K} {w w' : World} {w0 : W0} {F N : Nat → Prop} {g g' : G} {s : St} {a : Act} {base : Nat}

/-- The names of a state are those below its mark. -/
@[reducible] def Nm (s : St) : Nat → Prop := fun n => n < s.nx

/-- What an operation that has run has done. -/
def Ran (P : Program) (F : Nat → Prop) (w0 : W0) (a : Act) (w : World) (o : Oper) (r : Res) : Prop :=
  ∃ u w' g', ((execOp a.eval o).run P w = .ok (.value u) w' ∨ ((execOp a.eval o).run P w = .ok .skip w' ∧ u = undef)) ∧ Inv F w0 (Nm r.s) (r.s.addO r.nw) a w' g' ∧ VT w' F g' r.v u ∧ r.v.nms (Nm r.s)

theorem inv_nx {n : Nat} (I : Inv F w0 N s a w g) : Inv F w0 N { s with nx := n } a w g :=
  ⟨I.ob, I.dis, I.inF, I.bxF, I.tm, I.nmT, I.nmO, I.nt, I.df, I.big, I.kept⟩
theorem inv_up {b : Bool} (I : Inv F w0 N s a w g) : Inv F w0 N (s.up b) a w g := inv_nx I

theorem map_nx (f : TV → TV) (s : St) : (s.map f).nx = s.nx := rfl
theorem give_nx : ∀ (ns : List Nat) (s : St), (s.give ns).nx = s.nx := by
  intro ns
  induction ns with
  | nil => intro s; rfl
  | cons n r ih =>
    intro s
    simp only [St.give]
    split
    · rw [ih]; rfl
    · rw [ih]; rfl
theorem vdst_nx {e : Nat} {k : K} {v : TV} {q : Bool × List (dn k) × St} (h : vdst e k s v = some q) : q.2.2.nx = s.nx := by
  cases v with
  | al n =>
    simp only [vdst] at h
    split at h
    · split at h
      · simp only [Option.some.injEq] at h; subst h; rfl
      · cases h
    · cases h
  | z => simp only [vdst, Option.some.injEq] at h; subst h; rfl
  | _ => simp [vdst] at h
theorem vsrc_nx {e : Nat} {k : K} {v : TV} {q : Bool × List (dn k) × St} (h : vsrc e k s v = some q) : q.2.2.nx = s.nx := by
  unfold vsrc at h
  split at h
  · split at h
    · split at h
      · simp only [Option.some.injEq] at h; subst h; exact give_nx _ _
      · cases h
    · cases h
  · simp only [Option.map_eq_some_iff] at h; obtain ⟨_, _, rfl⟩ := h; rfl
theorem vappend_nx {t : Nat} {x y : Operand} {q : Bool × St × Obj} (h : vappend T s t x y = some q) : q.2.1.nx = s.nx := by
  unfold vappend at h
  split at h
  · simp only [Option.bind_eq_some_iff] at h
    obtain ⟨vx, hx, vy, hy, p, hp, r, hr, h⟩ := h
    split at h
    · simp only [Option.some.injEq] at h
      subst h
      show (r.2.2.map _).nx = _
      rw [map_nx, vdst_nx hr, vsrc_nx hp]
    · cases h
  · cases h

theorem ran_out (I : Inv F w0 (Nm s) s a w g) {o : Oper} {out : Out} (h : Runs P F (Nm s) g w s.nx a o out) : Ran P F w0 a w o (ofOut s out) := by
  obtain ⟨u, w', g', h1, h2, h3, h4⟩ := h
  refine ⟨u, w', g', .inl h1, ?_, h3, ?_⟩
  · have := inv_made I (Nat.lt_irrefl _) h2
    have hN : ∀ n, (Nm s n ∨ (n = s.nx ∧ out.nw ≠ none)) → Nm (ofOut s out).s n := by
      intro n hn
      simp only [Nm, ofOut, St.up]
      rcases hn with hn | ⟨rfl, hn⟩
      · simp only [Nm] at hn; split <;> omega
      · rw [if_pos (by cases h : out.nw <;> simp_all)]; omega
    obtain ⟨ok, v, nw⟩ := out
    cases nw with
    | none => exact inv_nx (n := (ofOut s ⟨ok, v, none⟩).s.nx) (inv_mono this hN)
    | some ob => exact inv_nx (n := (ofOut s ⟨ok, v, some ob⟩).s.nx) (inv_mono this hN)
  · refine TV.nms_mono (fun n hn => ?_) h4
    simp only [Nm, ofOut, St.up]
    rcases hn with hn | ⟨rfl, hn⟩
    · simp only [Nm] at hn; split <;> omega
    · rw [if_pos (by cases h : out.nw <;> simp_all)]; omega

theorem vstore_run (hT : TOk P T) (I : Inv F w0 (Nm s) s a w g) {o : Oper} {t : Nat} {p x : Operand} {r : Res} (ho : o.op = .store t p x) (h : vstore T s t p x = some r) : Ran P F w0 a w o r := by
  unfold vstore at h
  split at h
  · cases h
  · rename_i ht
    simp only [Option.bind_eq_some_iff] at h
    obtain ⟨vp, hp, v, hv, h⟩ := h
    split at h
    · rename_i n path
      split at h
      · rename_i c hn
        split at h
        · rename_i hc
          simp only [Option.map_eq_some_iff] at h
          obtain ⟨c', hs, rfl⟩ := h
          obtain ⟨w', h1, h2⟩ := run_store_bp hT I ho hp hv hn hs hc.1 hc.2 ht
          exact ⟨undef, w', g, .inr ⟨h1, rfl⟩, h2, trivial, trivial⟩
        · cases h
      · cases h
    · rename_i n i st path
      split at h
      · rename_i e k deep xs hn
        split at h
        · rename_i hst
          split at h
          · rename_i y hf
            split at h
            · rename_i hr
              simp only [Option.map_eq_some_iff] at h
              obtain ⟨x', hs, rfl⟩ := h
              obtain ⟨w', g', h1, h2⟩ := run_store_ep hT I ho hp hv hn hst hf hs hr ht
              exact ⟨undef, w', g', .inr ⟨h1, rfl⟩, h2, trivial, trivial⟩
            · cases h
          · split at h
            · split at h
              · rename_i hk
                simp only [Option.bind_eq_some_iff] at h
                obtain ⟨q, hq, h⟩ := h
                split at h
                · rename_i hc
                  simp only [Option.some.injEq] at h
                  subst h
                  obtain ⟨w', g', h1, h2⟩ := run_store_give hT I ho hp hv hn hst hk hq hc.1 hc.2.1 hc.2.2 ht
                  refine ⟨undef, w', g', .inr ⟨h1, rfl⟩, ?_, trivial, trivial⟩
                  refine inv_mono h2 (fun n hn => ?_)
                  simp only [Nm, map_nx, give_nx] at hn ⊢
                  exact hn
                · cases h
              · cases h
            · cases h
        · cases h
      · cases h
    · cases h

theorem nm_or {n : Nat} (h : n < s.nx ∨ n = s.nx) : n < s.nx + 1 := by omega

theorem vop_run (hT : TOk P T) (I : Inv F w0 (Nm s) s a w g) {o : Oper} {r : Res} (h : vop T s o.op = some r) (hok : r.ok = true) : Ran P F w0 a w o r := by
  generalize ho : o.op = op at h
  have gen : ∀ {out : Out}, vpure2 T (lk s.tm) (lk s.ob) s.nx op = some out → out.ok = true → Ran P F w0 a w o (ofOut s out) := fun h hok =>
    ran_out I (vpure2_run hT I (Nat.lt_irrefl _) (by rw [ho]; exact h) hok)
  unfold vop at h
  split at h
  · exact vstore_run hT I ho h
  · rename_i args argTypes
    split at h
    · rename_i x y t t' hx ht
      split at h
      · rename_i he
        subst he
        have hx' : args = #[x, y] := by rw [← Array.toList_inj, hx]
        have ht' : argTypes = #[t', t'] := by rw [← Array.toList_inj, ht]
        subst hx' ht'
        split at h
        · rename_i out hz
          simp only [Option.some.injEq] at h
          subst h
          exact ran_out I (run_appz hT I (Nat.lt_irrefl _) ho hz hok)
        · simp only [Option.map_eq_some_iff] at h
          obtain ⟨q, hq, rfl⟩ := h
          obtain ⟨ok, s', ob⟩ := q
          obtain ⟨u, w', g', h1, h2, h3⟩ := run_append hT I (Nat.lt_irrefl _) ho hq hok
          have hnx : s'.nx = s.nx := vappend_nx hq
          refine ⟨u, w', g', .inl h1, ?_, h3, ?_⟩
          · have h4 := inv_nx (n := s'.nx + 1) (inv_mono h2 (fun n hn => nm_or hn))
            have hN : (fun n => n < s.nx + 1) = Nm (s'.up true) := by funext n; simp [Nm, St.up, hnx]
            rw [hN] at h4
            simpa [St.addO, St.up, St.add] using h4
          · simp [TV.nms, Nm, St.up, hnx]
      · cases h
    · cases h
  · rename_i t len parts
    split at h
    · rename_i out hz
      simp only [Option.some.injEq] at h
      subst h
      exact gen hz hok
    · split at h
      · rename_i e k x hk hps
        split at h
        · rename_i hc
          obtain ⟨rfl, hsz⟩ := hc
          simp only [Option.bind_eq_some_iff] at h
          obtain ⟨v, hv, q, hq, h⟩ := h
          split at h
          · rename_i hnd
            simp only [Option.some.injEq] at h
            subst h
            obtain ⟨u, w', g', h1, h2, h3⟩ := run_build1 hT I (Nat.lt_irrefl _) ho hk hps hv hq hnd hsz
            have hnx : (s.give q.2).nx = s.nx := give_nx _ _
            refine ⟨u, w', g', .inl h1, ?_, h3, ?_⟩
            · have h4 := inv_nx (n := (s.give q.2).nx + 1) (inv_mono h2 (fun n hn => nm_or hn))
              have hN : (fun n => n < s.nx + 1) = Nm ((s.give q.2).up true) := by funext n; simp [Nm, St.up, hnx]
              rw [hN] at h4
              simpa [St.addO, St.up, St.add] using h4
            · simp [TV.nms, Nm, St.up, hnx]
          · cases h
        · cases h
      · cases h
  · simp only [Option.map_eq_some_iff] at h
    obtain ⟨out, hz, rfl⟩ := h
    exact gen hz hok

end
end Go.Vm

/- The value machine, part 25: shapes of states, and how a state is seen through one. -/
set_option linter.unusedVariables false
set_option linter.unusedSimpArgs false
namespace Go.Vm

inductive TSh where
  | dead (m : Nat)
  | sc (ext : Bool) (k : K)
  | al (c : Nat)
  | pr (a b : TSh)
  | un
  | bp (c : Nat)
  | cp (ext : Bool) (e : Nat) (k : K)
  | fn (f : Nat) (caps : TSh)
  deriving Inhabited

inductive OSh where
  | bx (t : TSh)
  | ls (e : Nat) (k : K) (deep : Bool)

@[reducible] def HL : List K → Type
  | [] => Unit
  | k :: r => dn k × HL r

@[reducible] def TSh.ks : TSh → List K → List K
  | .sc _ k, r => k :: r
  | .pr a b, r => a.ks (b.ks r)
  | .cp _ _ k, r => k :: r
  | .fn _ c, r => c.ks r
  | _, r => r

def TSh.fill : (t : TSh) → (r : List K) → HL (t.ks r) → TV × HL r
  | .dead m, _, y => (.dead m, y)
  | .sc e k, _, y => (.sc e k y.1, y.2)
  | .al c, _, y => (.al c, y)
  | .pr a b, r, y => (.pr (a.fill (b.ks r) y).1 (b.fill r (a.fill (b.ks r) y).2).1, (b.fill r (a.fill (b.ks r) y).2).2)
  | .un, _, y => (.un, y)
  | .bp c, _, y => (.bp c [], y)
  | .cp ext e k, _, y => (.cp ext e k y.1, y.2)
  | .fn f c, r, y => (.fn f (c.fill r y).1, (c.fill r y).2)

@[reducible] def OSh.ks : OSh → List K → List K
  | .bx t, r => t.ks r
  | .ls e k _, r => .sl e k :: r
def OSh.fill : (o : OSh) → (r : List K) → HL (o.ks r) → Obj × HL r
  | .bx t, r, y => (.bx (t.fill r y).1, (t.fill r y).2)
  | .ls e k deep, _, y => (.ls e k deep y.1, y.2)

@[reducible] def tmks : List (Nat × TSh) → List K → List K
  | [], r => r
  | (_, t) :: l, r => t.ks (tmks l r)
def tmfill : (l : List (Nat × TSh)) → (r : List K) → HL (tmks l r) → List (Nat × TV) × HL r
  | [], _, y => ([], y)
  | (n, t) :: l, r, y => ((n, (t.fill (tmks l r) y).1) :: (tmfill l r (t.fill (tmks l r) y).2).1, (tmfill l r (t.fill (tmks l r) y).2).2)
@[reducible] def obks : List (Nat × OSh) → List K → List K
  | [], r => r
  | (_, t) :: l, r => t.ks (obks l r)
def obfill : (l : List (Nat × OSh)) → (r : List K) → HL (obks l r) → List (Nat × Obj) × HL r
  | [], _, y => ([], y)
  | (n, t) :: l, r, y => ((n, (t.fill (obks l r) y).1) :: (obfill l r (t.fill (obks l r) y).2).1, (obfill l r (t.fill (obks l r) y).2).2)

structure Sh where
  tm : List (Nat × TSh)
  ob : List (Nat × OSh)
  nx : Nat
  deriving Inhabited

@[reducible] def Sh.ks (h : Sh) : List K := tmks h.tm (obks h.ob [])
def Sh.fill (h : Sh) (nt : Nat) (d : HL h.ks) : St :=
  { nt, tm := (tmfill h.tm (obks h.ob []) d).1, ob := (obfill h.ob [] (tmfill h.tm (obks h.ob []) d).2).1, nx := h.nx }

/-- The data that a slot's value holds. ext: such as lies outside of what may turn. -/
def rdT (lo : Nat → Option Obj) (ext : Bool) : (k : K) → TV → Option (dn k)
  | .pr ka kb, .pr a b => (rdT lo ext ka a).bind fun x => (rdT lo ext kb b).map fun y => (x, y)
  | .un, .un => some ()
  | .sl _ _, .z => some []
  | .sl e k, .al n => if ext then none else lst lo e k (.al n)
  | .sl e k, .inn n i st path e' k' => if ext then none else lst lo e k (.inn n i st path e' k')
  | k, .sc e' k' x => if h : k' = k then (if (e' || !ext || k.flat) = true then some (h ▸ x) else none) else none
  | _, _ => none

/-- The names of a shape, matched with those of a state. -/
def look (ρ : List (Nat × Nat)) (c : Nat) : Nat := (lk ρ c).getD 0

def mtT (lo : Nat → Option Obj) (ρ : List (Nat × Nat)) (m : Nat) : (t : TSh) → TV → (r : List K) → HL r → Option (HL (t.ks r))
  | .dead n, v, _, y => if v.sz = n then some y else none
  | .sc ext k, v, _, y => (rdT lo ext k v).map fun x => (x, y)
  | .al c, .al n, _, y => if look ρ c = n ∧ c < m then some y else none
  | .pr a b, v, r, y => (split v).bind fun p => (mtT lo ρ m b p.2 r y).bind fun y' => mtT lo ρ m a p.1 (b.ks r) y'
  | .un, .un, _, y => some y
  | .un, .sc _ .un _, _, y => some y
  | .bp c, .bp n [], _, y => if look ρ c = n ∧ c < m then some y else none
  | .cp ext e k, .cp ext' e' k' x, _, y => if h : k' = k then if e' = e ∧ (ext' || !ext) = true then some (h ▸ x, y) else none else none
  | .cp ext e k, .ep n i st path, _, y =>
    if ext then none else
    match lo n with
    | some (.ls e0 k0 deep xs) => if e0 = e ∧ st = k0.sz then (navD k0 path (xs.getD i (dz k0))).bind fun z => if h : z.1 = k then some (h ▸ z.2, y) else none else none
    | _ => none
  | .fn f c, .fn f' v, r, y => if f' = f then mtT lo ρ m c v r y else none
  | _, _, _, _ => none

section
variable {P : Program} {T : Nat → K} {w w' : World} {w0 : W0} {F N : Nat → Prop} {g g' : G} {s : St} {a : Act} {base : Nat}

theorem C_true_false {k : K} {x : dn k} {cs : List Value} (h : C w (okx F) k x cs) : C w (okt F g.Bx) k x cs :=
  C_imp (fun b bt e ho _ => ⟨rfl, .inl ho⟩) h

theorem rdT_C (I : Inv F w0 N s a w g) {ext : Bool} : ∀ {k : K} {v : TV} {x : dn k} {cs : List Value}, CT w F g v cs → rdT (lk s.ob) ext k v = some x → C w (oks F g.Bx ext) k x cs := by
  intro k
  have hsc : ∀ {k : K} {e' : Bool} {k' : K} {x' : dn k'} {x : dn k} {cs : List Value}, CT w F g (.sc e' k' x') cs →
      (if h : k' = k then (if (e' || !ext || k.flat) = true then some (h ▸ x') else none) else none) = some x → C w (oks F g.Bx ext) k x cs := by
    intro k e' k' x' x cs hc h
    split at h
    · rename_i he
      subst he
      split at h
      · rename_i hb
        simp only [Option.some.injEq] at h
        subst h
        simp only [CT] at hc
        cases e' with
        | true =>
          cases ext with
          | true => exact hc
          | false => exact C_true_false hc
        | false =>
          cases ext with
          | true => exact C_flat (by simpa using hb) hc
          | false => exact hc
      · cases h
    · cases h
  induction k with
  | pr ka kb iha ihb =>
    intro v x cs hc h
    cases v with
    | pr va vb =>
      simp only [rdT, Option.bind_eq_some_iff, Option.map_eq_some_iff] at h
      obtain ⟨xa, ha, xb, hb, rfl⟩ := h
      obtain ⟨c1, c2, rfl, h1, h2⟩ := hc
      exact ⟨c1, c2, rfl, iha h1 ha, ihb h2 hb⟩
    | sc e' k' x' => exact hsc hc h
    | _ => simp [rdT] at h
  | un =>
    intro v x cs hc h
    cases v with
    | un => exact hc
    | sc e' k' x' => exact hsc hc h
    | _ => simp [rdT] at h
  | sl e k ih =>
    intro v x cs hc h
    cases v with
    | z =>
      simp only [rdT, Option.some.injEq] at h
      subst h
      obtain ⟨A, rfl⟩ := hc
      exact ⟨A, 0, rfl, Nat.le_refl _, by simp, fun h => absurd h (by simp), fun ad _ j hj => absurd hj (by simp)⟩
    | al n =>
      simp only [rdT] at h
      split at h
      · cases h
      · rename_i he
        have hf : ext = false := by simpa using he
        subst hf
        have h1 := hc.1
        subst h1
        exact lst_C I (v := .al n) hc h
    | inn n i st path e' k' =>
      simp only [rdT] at h
      split at h
      · cases h
      · rename_i he
        have hf : ext = false := by simpa using he
        subst hf
        have hc' := hc
        obtain ⟨_, _, _, u, _, rfl, _⟩ := hc'
        exact lst_C I (v := .inn n i st path e' k') hc h
    | sc e' k' x' => exact hsc hc h
    | _ => simp [rdT] at h
  | _ =>
    intro v x cs hc h
    cases v with
    | sc e' k' x' => exact hsc hc h
    | _ => simp [rdT] at h

theorem mtT_CT (I : Inv F w0 N s a w g) {ρ : List (Nat × Nat)} {m : Nat} (hh : ∀ c, c < m → g'.hd c = g.hd (look ρ c)) (hB : g'.Bx = g.Bx) :
    ∀ {t : TSh} {v : TV} {r : List K} {y : HL r} {d : HL (t.ks r)} {cs : List Value}, CT w F g v cs → mtT (lk s.ob) ρ m t v r y = some d → CT w F g' (t.fill r d).1 cs ∧ (t.fill r d).2 = y ∧ (t.fill r d).1.nms (fun n => n < m) := by
  intro t
  induction t with
  | dead n =>
    intro v r y d cs hc h
    simp only [mtT] at h
    split at h
    · rename_i hs
      simp only [Option.some.injEq] at h
      subst h
      exact ⟨⟨by rw [CT_len hc]; exact hs, CT_one hc⟩, rfl, trivial⟩
    · cases h
  | sc ext k =>
    intro v r y d cs hc h
    simp only [mtT, Option.map_eq_some_iff] at h
    obtain ⟨x, hx, rfl⟩ := h
    refine ⟨?_, rfl, trivial⟩
    simp only [TSh.fill, CT]
    rw [hB]
    exact rdT_C I hc hx
  | al c =>
    intro v r y d cs hc h
    cases v with
    | al n =>
      simp only [mtT] at h
      split at h
      · rename_i hn
        simp only [Option.some.injEq] at h
        subst h
        obtain ⟨rfl, hm⟩ := hn
        refine ⟨?_, rfl, hm⟩
        simp only [TSh.fill, CT] at hc ⊢
        rw [hh c hm]
        exact hc
      · cases h
    | _ => simp [mtT] at h
  | pr ta tb iha ihb =>
    intro v r y d cs hc h
    simp only [mtT, Option.bind_eq_some_iff] at h
    obtain ⟨⟨va, vb⟩, hs, y', hb, ha⟩ := h
    obtain ⟨c1, c2, rfl, h1, h2⟩ := split_CT hc hs
    obtain ⟨p1, p2, p3⟩ := iha h1 ha
    obtain ⟨q1, q2, q3⟩ := ihb h2 hb
    simp only [TSh.fill]
    rw [p2]
    exact ⟨⟨c1, c2, rfl, p1, q1⟩, q2, p3, q3⟩
  | un =>
    intro v r y d cs hc h
    cases v with
    | un => simp only [mtT, Option.some.injEq] at h; subst h; exact ⟨hc, rfl, trivial⟩
    | sc e k x =>
      cases k with
      | un => simp only [mtT, Option.some.injEq] at h; subst h; exact ⟨hc, rfl, trivial⟩
      | _ => simp [mtT] at h
    | _ => simp [mtT] at h
  | bp c =>
    intro v r y d cs hc h
    cases v with
    | bp n path =>
      cases path with
      | nil =>
        simp only [mtT] at h
        split at h
        · rename_i hn
          simp only [Option.some.injEq] at h
          subst h
          obtain ⟨rfl, hm⟩ := hn
          refine ⟨?_, rfl, hm⟩
          simp only [TSh.fill, CT] at hc ⊢
          rw [hh c hm]
          exact hc
        · cases h
      | cons _ _ => simp [mtT] at h
    | _ => simp [mtT] at h
  | cp ext e k =>
    intro v r y d cs hc h
    cases v with
    | cp ext' e' k' x =>
      simp only [mtT] at h
      split at h
      · rename_i hk
        subst hk
        split at h
        · rename_i he
          obtain ⟨rfl, hb⟩ := he
          simp only [Option.some.injEq] at h
          subst h
          refine ⟨?_, rfl, trivial⟩
          simp only [TSh.fill, CT] at hc ⊢
          rw [hB]
          obtain ⟨ad, bt, ds, h1, h2, h3, h4, h5⟩ := hc
          refine ⟨ad, bt, ds, h1, h2, ?_, ?_, h5⟩
          · cases ext' with
            | true =>
              cases ext with
              | true => exact h3
              | false => exact .inl h3
            | false =>
              cases ext with
              | true => simp at hb
              | false => exact h3
          · cases ext' with
            | true =>
              cases ext with
              | true => exact h4
              | false => exact C_true_false h4
            | false =>
              cases ext with
              | true => simp at hb
              | false => exact h4
        · cases h
      · cases h
    | ep n i st path =>
      simp only [mtT] at h
      split at h
      · cases h
      · rename_i hext
        have hext : ext = false := by simpa using hext
        subst hext
        split at h
        · rename_i e0 k0 deep xs hn
          split at h
          · rename_i he
            obtain ⟨rfl, hst⟩ := he
            simp only [Option.bind_eq_some_iff] at h
            obtain ⟨⟨k', z⟩, hnav, h⟩ := h
            split at h
            · rename_i hk
              dsimp only at hk
              subst hk
              simp only [Option.some.injEq] at h
              subst h
              refine ⟨?_, rfl, trivial⟩
              obtain ⟨b, m', c, h1, ⟨hi, hpo⟩, h3⟩ := hc
              subst h3
              obtain ⟨hl, ds, hC, hdl, hcell⟩ := elem_C (I.ob n _ hn) h1 hi
              rw [getD_lt _ _ _ hl] at hnav
              have hCy := nav_C hC hnav hpo
              have hcell0 : ∀ j u, ds[j]? = some u → w.cell? ((⟨b, i * k0.sz, none⟩ : Addr).add j) = some u := by
                intro j u hu; rw [add_off]; exact hcell j u hu
              have hcs := sub_cells hcell0 (pOff path) k'.sz
              rw [add_off] at hcs
              subst hst
              obtain ⟨hm, hbx, hfb, cur, f, ds', hcur, _⟩ := row_of (I.ob n _ hn) h1 hi
              simp only [TSh.fill, CT]
              rw [hB]
              exact ⟨_, e0, _, rfl, ⟨cur, _, hcur⟩, .inr ⟨rfl, hbx⟩, hCy, hcs⟩
            · cases h
          · cases h
        · cases h
    | _ => simp [mtT] at h
  | fn f c ih =>
    intro v r y d cs hc h
    cases v with
    | fn f' v =>
      simp only [mtT] at h
      split at h
      · rename_i hf
        subst hf
        obtain ⟨vs, rfl, h2⟩ := hc
        obtain ⟨p1, p2, p3⟩ := ih h2 h
        exact ⟨⟨vs, rfl, p1⟩, p2, p3⟩
      · cases h
    | _ => simp [mtT] at h

end
end Go.Vm

/- The value machine, part 26: a whole state, seen through a shape. -/
set_option linter.unusedVariables false
set_option linter.unusedSimpArgs false
namespace Go.Vm

def col : TSh → TV → List (Nat × Nat) → List (Nat × Nat)
  | .al c, .al n, l => match lk l c with | some _ => l | none => (c, n) :: l
  | .bp c, .bp n [], l => match lk l c with | some _ => l | none => (c, n) :: l
  | .pr a b, v, l => match split v with | some p => col b p.2 (col a p.1 l) | none => l
  | .fn _ c, .fn _ v, l => col c v l
  | _, _, l => l
def colTm (lt : Nat → Option TV) : List (Nat × TSh) → List (Nat × Nat) → List (Nat × Nat)
  | [], l => l
  | (n, t) :: r, l => colTm lt r (match lt n with | some v => col t v l | none => l)
def colOb (lo : Nat → Option Obj) : List (Nat × OSh) → List (Nat × Nat) → List (Nat × Nat)
  | [], l => l
  | (c, .bx t) :: r, l => colOb lo r (match lo (look l c) with | some (.bx v) => col t v l | _ => l)
  | _ :: r, l => colOb lo r l

def mtTm (lt : Nat → Option TV) (lo : Nat → Option Obj) (ρ : List (Nat × Nat)) (m : Nat) : (l : List (Nat × TSh)) → (r : List K) → HL r → Option (HL (tmks l r))
  | [], _, y => some y
  | (n, t) :: l, r, y => (mtTm lt lo ρ m l r y).bind fun y' => (lt n).bind fun v => mtT lo ρ m t v (tmks l r) y'
def mtO (lo : Nat → Option Obj) (ρ : List (Nat × Nat)) (m : Nat) : (o : OSh) → Obj → (r : List K) → HL r → Option (HL (o.ks r))
  | .bx t, .bx v, r, y => mtT lo ρ m t v r y
  | .ls e k deep, .ls e' k' deep' xs, _, y => if h : e' = e ∧ k' = k ∧ deep' = deep then some (h.2.1 ▸ xs, y) else none
  | _, _, _, _ => none
def mtOb (lo : Nat → Option Obj) (ρ : List (Nat × Nat)) (m : Nat) : (l : List (Nat × OSh)) → (r : List K) → HL r → Option (HL (obks l r))
  | [], _, y => some y
  | (c, o) :: l, r, y => (mtOb lo ρ m l r y).bind fun y' => (lo (look ρ c)).bind fun v => mtO lo ρ m o v (obks l r) y'

/-- Different names of the shape are different objects. -/
def injOk (ρ : List (Nat × Nat)) : List (Nat × OSh) → Bool
  | [] => true
  | (c, _) :: r => (r.all fun q => decide (q.1 = c) || !decide (look ρ q.1 = look ρ c)) && injOk ρ r

def mtS (h : Sh) (ρ : List (Nat × Nat)) (s : St) : Option (HL h.ks) :=
  if (h.ob.all fun q => decide (q.1 < h.nx)) = true ∧ injOk ρ h.ob = true then
    (mtOb (lk s.ob) ρ h.nx h.ob [] ()).bind fun y => mtTm (lk s.tm) (lk s.ob) ρ h.nx h.tm (obks h.ob []) y
  else none

/-- The data of a state that is of a shape. -/
def mt (h : Sh) (s : St) : Option (HL h.ks) := mtS h (colOb (lk s.ob) h.ob (colTm (lk s.tm) h.tm [])) s

section
variable {P : Program} {T : Nat → K} {w w' : World} {w0 : W0} {F N : Nat → Prop} {g g' : G} {s : St} {a : Act} {base : Nat}

theorem mtT_snd {lo : Nat → Option Obj} {ρ : List (Nat × Nat)} {m : Nat} : ∀ {t : TSh} {v : TV} {r : List K} {y : HL r} {d : HL (t.ks r)}, mtT lo ρ m t v r y = some d → (t.fill r d).2 = y := by
  intro t
  induction t with
  | dead n => intro v r y d h; simp only [mtT] at h; split at h <;> simp_all [TSh.fill]
  | sc ext k => intro v r y d h; simp only [mtT, Option.map_eq_some_iff] at h; obtain ⟨x, _, rfl⟩ := h; rfl
  | al c => intro v r y d h; cases v <;> simp only [mtT] at h <;> (try cases h) ; split at h <;> simp_all [TSh.fill]
  | pr ta tb iha ihb =>
    intro v r y d h
    simp only [mtT, Option.bind_eq_some_iff] at h
    obtain ⟨⟨va, vb⟩, hs, y', hb, ha⟩ := h
    simp only [TSh.fill]
    rw [iha ha]
    exact ihb hb
  | un =>
    intro v r y d h
    cases v with
    | un => simp only [mtT, Option.some.injEq] at h; subst h; rfl
    | sc e k x => cases k <;> simp_all [mtT, TSh.fill]
    | _ => simp [mtT] at h
  | bp c =>
    intro v r y d h
    cases v with
    | bp n path =>
      cases path with
      | nil => simp only [mtT] at h; split at h <;> simp_all [TSh.fill]
      | cons _ _ => simp [mtT] at h
    | _ => simp [mtT] at h
  | cp ext e k =>
    intro v r y d h
    cases v with
    | cp ext' e' k' x =>
      simp only [mtT] at h
      split at h
      · rename_i hk
        subst hk
        split at h
        · simp only [Option.some.injEq] at h; subst h; rfl
        · cases h
      · cases h
    | ep n i st path =>
      simp only [mtT] at h
      split at h
      · cases h
      · split at h
        · split at h
          · simp only [Option.bind_eq_some_iff] at h
            obtain ⟨⟨k', z⟩, _, h⟩ := h
            split at h
            · simp only [Option.some.injEq] at h; subst h; rfl
            · cases h
          · cases h
        · cases h
    | _ => simp [mtT] at h
  | fn f c ih =>
    intro v r y d h
    cases v with
    | fn f' v =>
      simp only [mtT] at h
      split at h
      · exact ih h
      · cases h
    | _ => simp [mtT] at h

theorem rdT_agg {lo : Nat → Option Obj} {ext : Bool} {k : K} {v : TV} {x : dn k} (h : rdT lo ext k v = some x) : v.agg = k.agg ∧ live v = true := by
  have hsc : ∀ {k : K} {e' : Bool} {k' : K} {x' : dn k'} {x : dn k}, (if h : k' = k then (if (e' || !ext || k.flat) = true then some (h ▸ x') else none) else none) = some x → (TV.sc e' k' x').agg = k.agg ∧ live (.sc e' k' x') = true := by
    intro k e' k' x' x h
    split at h
    · rename_i hk; subst hk; exact ⟨rfl, rfl⟩
    · cases h
  cases v with
  | sc e' k' x' => cases k <;> exact hsc h
  | _ => cases k <;> simp_all [rdT, TV.agg, K.agg, live]

theorem split_agg {v : TV} {p : TV × TV} (h : split v = some p) : v.agg = true ∧ live v = true := by
  cases v with
  | pr a b => exact ⟨rfl, rfl⟩
  | sc e k x => cases k <;> simp_all [split, TV.agg, K.agg, live]
  | _ => simp [split] at h

theorem mtT_agg {lo : Nat → Option Obj} {ρ : List (Nat × Nat)} {m : Nat} {t : TSh} {v : TV} {r : List K} {y : HL r} {d : HL (t.ks r)} (h : mtT lo ρ m t v r y = some d) :
    (∃ n, t = .dead n) ∨ ((t.fill r d).1.agg = v.agg ∧ live (t.fill r d).1 = true ∧ live v = true) := by
  cases t with
  | dead n => exact .inl ⟨n, rfl⟩
  | sc ext k =>
    simp only [mtT, Option.map_eq_some_iff] at h
    obtain ⟨x, hx, rfl⟩ := h
    obtain ⟨h1, h2⟩ := rdT_agg hx
    exact .inr ⟨h1.symm, rfl, h2⟩
  | al c => cases v <;> simp only [mtT] at h <;> (try cases h); exact .inr ⟨rfl, rfl, rfl⟩
  | pr ta tb =>
    simp only [mtT, Option.bind_eq_some_iff] at h
    obtain ⟨p, hs, _⟩ := h
    obtain ⟨h1, h2⟩ := split_agg hs
    exact .inr ⟨h1.symm, rfl, h2⟩
  | un =>
    cases v with
    | un => exact .inr ⟨rfl, rfl, rfl⟩
    | sc e k x => cases k <;> simp_all [mtT, TSh.fill, TV.agg, K.agg, live]
    | _ => simp [mtT] at h
  | bp c =>
    cases v with
    | bp n path => exact .inr ⟨rfl, rfl, rfl⟩
    | _ => simp [mtT] at h
  | cp ext e k =>
    cases v with
    | cp ext' e' k' x => exact .inr ⟨rfl, rfl, rfl⟩
    | ep n i st path => exact .inr ⟨rfl, rfl, rfl⟩
    | _ => simp [mtT] at h
  | fn f c =>
    cases v with
    | fn f' v => exact .inr ⟨rfl, rfl, rfl⟩
    | _ => simp [mtT] at h

theorem mtT_VT (I : Inv F w0 N s a w g) {ρ : List (Nat × Nat)} {m : Nat} (hh : ∀ c, c < m → g'.hd c = g.hd (look ρ c)) (hB : g'.Bx = g.Bx)
    {t : TSh} {v : TV} {r : List K} {y : HL r} {d : HL (t.ks r)} {u : Value} (hv : VT w F g v u) (h : mtT (lk s.ob) ρ m t v r y = some d) : VT w F g' (t.fill r d).1 u ∧ (t.fill r d).1.nms (fun n => n < m) := by
  rcases mtT_agg h with ⟨n, rfl⟩ | ⟨h1, h2, h3⟩
  · exact ⟨trivial, trivial⟩
  · cases ha : v.agg with
    | true =>
      obtain ⟨cs, rfl, hc⟩ := VT_agg hv ha
      obtain ⟨q1, _, q3⟩ := mtT_CT I hh hB hc h
      have := VT_of_CT q1 (fun hf => by rw [h1, ha] at hf; cases hf)
      rw [h1, ha] at this
      exact ⟨by simpa [valOf] using this, q3⟩
    | false =>
      have hc := VT_leaf hv ha h3
      obtain ⟨q1, _, q3⟩ := mtT_CT I hh hB hc h
      have := VT_of_CT q1 (fun _ => rfl)
      rw [h1, ha] at this
      exact ⟨by simpa [valOf] using this, q3⟩

theorem mtTm_lk {lt : Nat → Option TV} {lo : Nat → Option Obj} {ρ : List (Nat × Nat)} {m : Nat} : ∀ {l : List (Nat × TSh)} {r : List K} {y : HL r} {d : HL (tmks l r)}, mtTm lt lo ρ m l r y = some d →
    (tmfill l r d).2 = y ∧ ∀ n v', lk (tmfill l r d).1 n = some v' → ∃ v t r' y' d', lt n = some v ∧ mtT lo ρ m t v r' y' = some d' ∧ v' = (TSh.fill t r' d').1 := by
  intro l
  induction l with
  | nil => intro r y d h; simp only [mtTm, Option.some.injEq] at h; subst h; exact ⟨rfl, fun n v' h => by simp [tmfill, lk] at h⟩
  | cons p l ih =>
    intro r y d h
    obtain ⟨n, t⟩ := p
    simp only [mtTm, Option.bind_eq_some_iff] at h
    obtain ⟨y', hy, v, hv, hm⟩ := h
    have h2 := mtT_snd hm
    obtain ⟨q1, q2⟩ := ih hy
    simp only [tmfill]
    rw [h2]
    refine ⟨q1, fun n' v' hl => ?_⟩
    simp only [lk] at hl
    split at hl
    · rename_i he
      subst he
      simp only [Option.some.injEq] at hl
      exact ⟨v, t, _, _, _, hv, hm, hl.symm⟩
    · exact q2 n' v' hl

theorem mtO_snd {lo : Nat → Option Obj} {ρ : List (Nat × Nat)} {m : Nat} {t : OSh} {v : Obj} {r : List K} {y : HL r} {d : HL (t.ks r)} (h : mtO lo ρ m t v r y = some d) : (t.fill r d).2 = y := by
  cases t with
  | bx t =>
    cases v with
    | bx v => exact mtT_snd (by simpa [mtO] using h)
    | ls => simp [mtO] at h
  | ls e k deep =>
    cases v with
    | bx v => simp [mtO] at h
    | ls e' k' deep' xs =>
      simp only [mtO] at h
      split at h
      · simp only [Option.some.injEq] at h; subst h; rfl
      · cases h

theorem mtOb_lk {lo : Nat → Option Obj} {ρ : List (Nat × Nat)} {m : Nat} : ∀ {l : List (Nat × OSh)} {r : List K} {y : HL r} {d : HL (obks l r)}, mtOb lo ρ m l r y = some d →
    (obfill l r d).2 = y ∧ ∀ n v', lk (obfill l r d).1 n = some v' → ∃ v t r' y' d', (n, t) ∈ l ∧ lo (look ρ n) = some v ∧ mtO lo ρ m t v r' y' = some d' ∧ v' = (OSh.fill t r' d').1 := by
  intro l
  induction l with
  | nil => intro r y d h; simp only [mtOb, Option.some.injEq] at h; subst h; exact ⟨rfl, fun n v' h => by simp [obfill, lk] at h⟩
  | cons p l ih =>
    intro r y d h
    obtain ⟨n, t⟩ := p
    simp only [mtOb, Option.bind_eq_some_iff] at h
    obtain ⟨y', hy, v, hv, hm⟩ := h
    have h2 := mtO_snd hm
    obtain ⟨q1, q2⟩ := ih hy
    simp only [obfill]
    rw [h2]
    refine ⟨q1, fun n' v' hl => ?_⟩
    simp only [lk] at hl
    split at hl
    · rename_i he
      subst he
      simp only [Option.some.injEq] at hl
      exact ⟨v, t, _, _, _, List.mem_cons_self, hv, hm, hl.symm⟩
    · obtain ⟨v, t, r', y', d', q, q'⟩ := q2 n' v' hl
      exact ⟨v, t, r', y', d', List.mem_cons_of_mem _ q, q'⟩

theorem injOk_inj {ρ : List (Nat × Nat)} : ∀ {l : List (Nat × OSh)}, injOk ρ l = true → ∀ c c' o o', (c, o) ∈ l → (c', o') ∈ l → c ≠ c' → look ρ c ≠ look ρ c' := by
  intro l
  induction l with
  | nil => intro _ c c' o o' h; cases h
  | cons p r ih =>
    intro h c c' o o' h1 h2 hne
    obtain ⟨n, t⟩ := p
    simp only [injOk, Bool.and_eq_true, List.all_eq_true, Bool.or_eq_true, decide_eq_true_eq, Bool.not_eq_true', decide_eq_false_iff_not] at h
    obtain ⟨h3, h4⟩ := h
    rcases List.mem_cons.1 h1 with e1 | h1'
    · rcases List.mem_cons.1 h2 with e2 | h2'
      · injection e1 with e1 _; injection e2 with e2 _; exact absurd (e1.trans e2.symm) hne
      · injection e1 with e1 _
        subst e1
        rcases h3 _ h2' with h | h
        · exact absurd h.symm hne
        · exact fun e => h e.symm
    · rcases List.mem_cons.1 h2 with e2 | h2'
      · injection e2 with e2 _
        subst e2
        rcases h3 _ h1' with h | h
        · exact absurd h hne
        · exact h
      · exact ih h4 c c' o o' h1' h2' hne

theorem mtO_OR (I : Inv F w0 N s a w g) {ρ : List (Nat × Nat)} {m : Nat} (hh : ∀ c, c < m → g'.hd c = g.hd (look ρ c)) (hB : g'.Bx = g.Bx) {c : Nat} (hc : c < m) (hf : g'.fp c = g.fp (look ρ c))
    {t : OSh} {v : Obj} {r : List K} {y : HL r} {d : HL (t.ks r)} (hO : OR w F g (look ρ c) v) (h : mtO (lk s.ob) ρ m t v r y = some d) : OR w F g' c (t.fill r d).1 ∧ (t.fill r d).1.nms (fun n => n < m) := by
  cases t with
  | bx t =>
    cases v with
    | bx v =>
      obtain ⟨b, Tb, cur, h1, h2, h3, h4, h5⟩ := hO
      obtain ⟨q1, _, q3⟩ := mtT_CT I hh hB h3 (by simpa [mtO] using h)
      exact ⟨⟨b, Tb, cur, by rw [hh c hc]; exact h1, h2, q1, by rw [hf]; exact h4, by rw [hB]; exact h5⟩, q3⟩
    | ls => simp [mtO] at h
  | ls e k deep =>
    cases v with
    | bx v => simp [mtO] at h
    | ls e' k' deep' xs =>
      simp only [mtO] at h
      split at h
      · rename_i he
        obtain ⟨rfl, rfl, rfl⟩ := he
        simp only [Option.some.injEq] at h
        subst h
        obtain ⟨h1, h2⟩ := hO
        refine ⟨⟨?_, fun b hb => ?_⟩, trivial⟩
        · rw [LR_Bx hB, hh c hc, hf]; exact h1
        · rw [hf] at hb; rw [hB]; exact h2 b hb
      · cases h

theorem mtS_inv' (I : Inv F w0 N s a w g) {h : Sh} {ρ : List (Nat × Nat)} {d : HL h.ks} (hm : mtS h ρ s = some d) : ∃ g', Inv F w0 (Nm (h.fill s.nt d)) (h.fill s.nt d) a w g' ∧ (∀ c, g'.fp c = g.fp (look ρ c)) ∧ g'.Bx = g.Bx ∧
    ∀ c o, lk (h.fill s.nt d).ob c = some o → ∃ t, (c, t) ∈ h.ob := by
  unfold mtS at hm
  split at hm
  · rename_i hc
    obtain ⟨hnx, hinj⟩ := hc
    simp only [Option.bind_eq_some_iff] at hm
    obtain ⟨y, hob, htm⟩ := hm
    obtain ⟨q1, q2⟩ := mtTm_lk htm
    obtain ⟨_, q4⟩ := mtOb_lk hob
    let g' : G := { hd := fun c => g.hd (look ρ c), fp := fun c => g.fp (look ρ c), Bx := g.Bx }
    have hlt : ∀ c o, (c, o) ∈ h.ob → c < h.nx := fun c o hm => by
      simp only [List.all_eq_true, decide_eq_true_eq] at hnx
      exact hnx _ hm
    have hobj : ∀ c o', lk (h.fill s.nt d).ob c = some o' → ∃ v t r' y' d', (c, t) ∈ h.ob ∧ lk s.ob (look ρ c) = some v ∧ mtO (lk s.ob) ρ h.nx t v r' y' = some d' ∧ o' = (OSh.fill t r' d').1 := by
      intro c o' hl
      simp only [Sh.fill] at hl
      rw [q1] at hl
      exact q4 c o' hl
    refine ⟨g', ⟨fun c o' hl => ?_, fun c c' o o' b h1 h2 hne hb1 hb2 => ?_, fun c o b hl hb => ?_, I.bxF, fun t v hl => ?_, fun t v hl => ?_, fun c o hl => ?_, I.nt, ⟨I.df.1, fun t ht => by simp [Sh.fill] at ht⟩, I.big, I.kept⟩, fun _ => rfl, rfl, fun c o hl => by obtain ⟨v, t, r', y', d', p1, _⟩ := hobj c o hl; exact ⟨t, p1⟩⟩
    · obtain ⟨v, t, r', y', d', p1, p2, p3, rfl⟩ := hobj c o' hl
      exact (mtO_OR (g' := g') I (fun _ _ => rfl) rfl (hlt _ _ p1) rfl (I.ob _ _ p2) p3).1
    · obtain ⟨v, t, r', y', d', p1, p2, p3, rfl⟩ := hobj c o h1
      obtain ⟨v2, t2, r2, y2, d2, p4, p5, p6, rfl⟩ := hobj c' o' h2
      exact I.dis _ _ _ _ b p2 p5 (injOk_inj hinj c c' t t2 p1 p4 hne) hb1 hb2
    · obtain ⟨v, t, r', y', d', p1, p2, p3, rfl⟩ := hobj c o hl
      exact I.inF _ _ b p2 hb
    · obtain ⟨v', t', r', y', d', p1, p2, rfl⟩ := q2 t v hl
      obtain ⟨u, p3, p4⟩ := I.tm t v' p1
      exact ⟨u, p3, (mtT_VT (g' := g') I (fun _ _ => rfl) rfl p4 p2).1⟩
    · obtain ⟨v', t', r', y', d', p1, p2, rfl⟩ := q2 t v hl
      obtain ⟨u, p3, p4⟩ := I.tm t v' p1
      exact (mtT_VT (g' := g') I (fun _ _ => rfl) rfl p4 p2).2
    · obtain ⟨v, t, r', y', d', p1, p2, p3, rfl⟩ := hobj c o hl
      exact ⟨hlt _ _ p1, (mtO_OR (g' := g') I (fun _ _ => rfl) rfl (hlt _ _ p1) rfl (I.ob _ _ p2) p3).2⟩
  · cases hm

theorem mtS_inv (I : Inv F w0 N s a w g) {h : Sh} {ρ : List (Nat × Nat)} {d : HL h.ks} (hm : mtS h ρ s = some d) : ∃ g', Inv F w0 (Nm (h.fill s.nt d)) (h.fill s.nt d) a w g' := by
  obtain ⟨g', I', _⟩ := mtS_inv' I hm
  exact ⟨g', I'⟩

theorem mtOb_all {lo : Nat → Option Obj} {ρ : List (Nat × Nat)} {m : Nat} : ∀ {l : List (Nat × OSh)} {r : List K} {y : HL r} {d : HL (obks l r)}, mtOb lo ρ m l r y = some d →
    ∀ q ∈ l, (∃ t v, q.2 = .bx t ∧ lo (look ρ q.1) = some (.bx v)) ∨ ∃ e k deep xs, q.2 = .ls e k deep ∧ lo (look ρ q.1) = some (.ls e k deep xs) := by
  intro l
  induction l with
  | nil => intro r y d _ q hq; cases hq
  | cons p l ih =>
    intro r y d h q hq
    obtain ⟨c, o⟩ := p
    simp only [mtOb, Option.bind_eq_some_iff] at h
    obtain ⟨y', hy, v, hv, hm⟩ := h
    rcases List.mem_cons.1 hq with rfl | hq
    · cases o with
      | bx t =>
        cases v with
        | bx v => exact .inl ⟨t, v, rfl, hv⟩
        | ls => simp [mtO] at hm
      | ls e k deep =>
        cases v with
        | bx v => simp [mtO] at hm
        | ls e' k' deep' xs =>
          simp only [mtO] at hm
          split at hm
          · rename_i he
            obtain ⟨rfl, rfl, rfl⟩ := he
            exact .inr ⟨_, _, _, xs, rfl, hv⟩
          · cases hm
    · exact ih hy q hq

theorem mt_inv (I : Inv F w0 N s a w g) {h : Sh} {d : HL h.ks} (hm : mt h s = some d) : ∃ g', Inv F w0 (Nm (h.fill s.nt d)) (h.fill s.nt d) a w g' := mtS_inv I hm

end
end Go.Vm

/- The value machine, part 27: slices without room, told as rows of their own. -/
set_option linter.unusedVariables false
set_option linter.unusedSimpArgs false
namespace Go.Vm

def prom (eo : Nat → Option (Nat × K × Bool)) : TSh → TV → Nat → TV × Nat × List (Nat × Obj)
  | .al c, .z, nx => match eo c with | some (e, k, deep) => (.al nx, nx + 1, [(nx, .ls e k deep [])]) | none => (.z, nx, [])
  | .pr a b, v, nx =>
    match split v with
    | some p => (.pr (prom eo a p.1 nx).1 (prom eo b p.2 (prom eo a p.1 nx).2.1).1, (prom eo b p.2 (prom eo a p.1 nx).2.1).2.1, (prom eo b p.2 (prom eo a p.1 nx).2.1).2.2 ++ (prom eo a p.1 nx).2.2)
    | none => (v, nx, [])
  | _, v, nx => (v, nx, [])

def eoOf (l : List (Nat × OSh)) (c : Nat) : Option (Nat × K × Bool) :=
  match lk l c with
  | some (.ls e k deep) => some (e, k, deep)
  | _ => none

def promTm (eo : Nat → Option (Nat × K × Bool)) : List (Nat × TSh) → St → St
  | [], s => s
  | (n, t) :: r, s =>
    promTm eo r (match lk s.tm n with
      | some v => if (prom eo t v s.nx).2.1 = s.nx then s else { s with tm := (n, (prom eo t v s.nx).1) :: del n s.tm, nx := (prom eo t v s.nx).2.1, ob := (prom eo t v s.nx).2.2 ++ s.ob }
      | none => s)

/-- The data of a state that can be brought to a shape. -/
def mtp (h : Sh) (s : St) : Option (HL h.ks) := mt h (promTm (eoOf h.ob) h.tm s)

section
variable {P : Program} {T : Nat → K} {w w' : World} {w0 : W0} {F N : Nat → Prop} {g g' : G} {s : St} {a : Act} {base : Nat}

theorem turn_same (hB : g'.Bx = g.Bx) (hh : ∀ n, N n → g'.hd n = g.hd n) : Turn (fun _ => False) (fun _ => False) True N F g g' w w :=
  ⟨fun _ _ _ => rfl, fun _ h => h.elim, fun _ _ h => h.elim, fun _ _ h => h.elim, fun b _ => by rw [hB], hh⟩

theorem lk_append {α : Type} (l1 l2 : List (Nat × α)) (n : Nat) : lk (l1 ++ l2) n = match lk l1 n with | some x => some x | none => lk l2 n := by
  induction l1 with
  | nil => rfl
  | cons p r ih =>
    obtain ⟨m, x⟩ := p
    simp only [List.cons_append, lk]
    split
    · rfl
    · exact ih

theorem prom_CT {eo : Nat → Option (Nat × K × Bool)} : ∀ {t : TSh} {v : TV} {nx : Nat} {cs : List Value} {g : G}, CT w F g v cs → v.nms (fun n => n < nx) →
    ∃ g' : G, (∀ n, n < nx → g'.hd n = g.hd n ∧ g'.fp n = g.fp n) ∧ g'.Bx = g.Bx ∧ CT w F g' (prom eo t v nx).1 cs ∧ (prom eo t v nx).1.nms (fun n => n < (prom eo t v nx).2.1) ∧ nx ≤ (prom eo t v nx).2.1 ∧
      ∀ n o, lk (prom eo t v nx).2.2 n = some o → nx ≤ n ∧ n < (prom eo t v nx).2.1 ∧ OR w F g' n o ∧ (∀ b, ¬ g'.fp n b) ∧ o.nms (fun _ => False) := by
  intro t
  have triv : ∀ {v : TV} {nx : Nat} {cs : List Value} {g : G}, CT w F g v cs → v.nms (fun n => n < nx) → ∃ g' : G, (∀ n, n < nx → g'.hd n = g.hd n ∧ g'.fp n = g.fp n) ∧ g'.Bx = g.Bx ∧ CT w F g' v cs ∧ v.nms (fun n => n < nx) ∧ nx ≤ nx ∧
      ∀ n o, lk ([] : List (Nat × Obj)) n = some o → nx ≤ n ∧ n < nx ∧ OR w F g' n o ∧ (∀ b, ¬ g'.fp n b) ∧ o.nms (fun _ => False) := by
    intro v nx cs g h hn
    exact ⟨g, fun _ _ => ⟨rfl, rfl⟩, rfl, h, hn, Nat.le_refl _, fun n o h => by simp [lk] at h⟩
  induction t with
  | al c =>
    intro v nx cs g h hn
    cases v with
    | z =>
      simp only [prom]
      split
      · rename_i e k deep he
        obtain ⟨A, rfl⟩ := h
        refine ⟨g.row nx (.slice A 0 0) (fun _ => False), fun n hn => ?_, rfl, ⟨by simp [G.row], A, 0, 0, by simp [G.row]⟩, Nat.lt_succ_self _, Nat.le_succ _, fun n o hl => ?_⟩
        · simp only [G.row]; rw [if_neg (by omega), if_neg (by omega)]; exact ⟨rfl, rfl⟩
        · simp only [lk] at hl
          split at hl
          · rename_i hnn
            subst hnn
            simp only [Option.some.injEq] at hl
            subst hl
            refine ⟨Nat.le_refl _, Nat.lt_succ_self _, ⟨?_, fun b hb => ?_⟩, fun b hb => ?_, trivial⟩
            · simp only [G.row, if_true]; exact .inl ⟨rfl, ⟨A, rfl⟩, fun _ h => h⟩
            · simp [G.row] at hb
            · simp [G.row] at hb
          · cases hl
      · exact triv h hn
    | _ => exact triv h hn
  | pr ta tb iha ihb =>
    intro v nx cs g h hn
    simp only [prom]
    split
    · rename_i p hs
      obtain ⟨va, vb⟩ := p
      dsimp only
      obtain ⟨c1, c2, rfl, h1, h2⟩ := split_CT h hs
      have hnp : va.nms (fun n => n < nx) ∧ vb.nms (fun n => n < nx) := by
        cases v with
        | pr x y => simp only [split, Option.some.injEq, Prod.mk.injEq] at hs; obtain ⟨rfl, rfl⟩ := hs; exact hn
        | sc e k x =>
          cases k with
          | pr ka kb => simp only [split, Option.some.injEq, Prod.mk.injEq] at hs; obtain ⟨rfl, rfl⟩ := hs; exact ⟨trivial, trivial⟩
          | _ => simp [split] at hs
        | _ => simp [split] at hs
      obtain ⟨g1, p1, p2, p3, p4, p5, p6⟩ := iha (nx := nx) h1 hnp.1
      have h2' : CT w F g1 vb c2 := CT_turn (turn_same (N := fun n => n < nx) p2 (fun n hn => (p1 n hn).1)) hnp.2 vb.safe_none h2
      obtain ⟨g2, q1, q2, q3, q4, q5, q6⟩ := ihb (nx := (prom eo ta va nx).2.1) h2' (TV.nms_mono (fun n hn => by omega) hnp.2)
      have t2 := turn_same (w := w) (F := F) (N := fun n => n < (prom eo ta va nx).2.1) q2 (fun n hn => (q1 n hn).1)
      refine ⟨g2, fun n hn => ?_, q2.trans p2, ⟨c1, c2, rfl, CT_turn t2 p4 (prom eo ta va nx).1.safe_none p3, q3⟩, ⟨TV.nms_mono (fun n hn => by omega) p4, q4⟩, by omega, fun n o hl => ?_⟩
      · obtain ⟨r1, r2⟩ := p1 n hn
        obtain ⟨r3, r4⟩ := q1 n (by omega)
        exact ⟨r3.trans r1, r4.trans r2⟩
      · rw [lk_append] at hl
        split at hl
        · rename_i o' ho
          simp only [Option.some.injEq] at hl
          subst hl
          obtain ⟨r1, r2, r3, r4, r5⟩ := q6 n _ ho
          exact ⟨by omega, r2, r3, r4, r5⟩
        · obtain ⟨r1, r2, r3, r4, r5⟩ := p6 n o hl
          obtain ⟨r6, r7⟩ := q1 n r2
          refine ⟨r1, by omega, ?_, by rw [r7]; exact r4, r5⟩
          exact OR_turn t2 r2 (Obj.nms_mono (fun _ h => h.elim) r5) o.safe_none (fun b _ h => h) (fun b => by rw [r7]) r3
    · exact triv h hn
  | _ => intro v nx cs g h hn; exact triv h hn

theorem prom_agg {eo : Nat → Option (Nat × K × Bool)} {t : TSh} {v : TV} {nx : Nat} : (prom eo t v nx).1 = v ∨ ((prom eo t v nx).1.agg = v.agg ∧ live (prom eo t v nx).1 = true ∧ live v = true) := by
  cases t with
  | al c =>
    cases v with
    | z =>
      simp only [prom]
      split
      · exact .inr ⟨rfl, rfl, rfl⟩
      · exact .inl rfl
    | _ => exact .inl rfl
  | pr ta tb =>
    simp only [prom]
    split
    · rename_i p hs
      obtain ⟨h1, h2⟩ := split_agg hs
      exact .inr ⟨h1.symm, rfl, h2⟩
    · exact .inl rfl
  | _ => exact .inl rfl

theorem prom_inv {eo : Nat → Option (Nat × K × Bool)} {t : TSh} {v : TV} {n : Nat} (I : Inv F w0 (Nm s) s a w g) (hv : lk s.tm n = some v) :
    ∃ g', Inv F w0 (fun m => m < (prom eo t v s.nx).2.1) { s with tm := (n, (prom eo t v s.nx).1) :: del n s.tm, nx := (prom eo t v s.nx).2.1, ob := (prom eo t v s.nx).2.2 ++ s.ob } a w g' := by
  obtain ⟨u, hu, hV⟩ := I.tm n v hv
  have hn := I.nmT n v hv
  have key : ∃ g' : G, (∀ m, m < s.nx → g'.hd m = g.hd m ∧ g'.fp m = g.fp m) ∧ g'.Bx = g.Bx ∧ VT w F g' (prom eo t v s.nx).1 u ∧ (prom eo t v s.nx).1.nms (fun m => m < (prom eo t v s.nx).2.1) ∧ s.nx ≤ (prom eo t v s.nx).2.1 ∧
      ∀ m o, lk (prom eo t v s.nx).2.2 m = some o → s.nx ≤ m ∧ m < (prom eo t v s.nx).2.1 ∧ OR w F g' m o ∧ (∀ b, ¬ g'.fp m b) ∧ o.nms (fun _ => False) := by
    by_cases hl : live v = true
    · cases ha : v.agg with
      | true =>
        obtain ⟨cs, rfl, hc⟩ := VT_agg hV ha
        obtain ⟨g', p1, p2, p3, p4, p5, p6⟩ := prom_CT (eo := eo) (t := t) hc hn
        refine ⟨g', p1, p2, ?_, p4, p5, p6⟩
        have hag : (prom eo t v s.nx).1.agg = true := by
          rcases prom_agg (eo := eo) (t := t) (v := v) (nx := s.nx) with h | h
          · rw [h]; exact ha
          · rw [h.1]; exact ha
        have := VT_of_CT p3 (fun hf => by rw [hag] at hf; cases hf)
        rw [hag] at this
        simpa [valOf] using this
      | false =>
        have hc := VT_leaf hV ha hl
        obtain ⟨g', p1, p2, p3, p4, p5, p6⟩ := prom_CT (eo := eo) (t := t) hc hn
        refine ⟨g', p1, p2, ?_, p4, p5, p6⟩
        have hag : (prom eo t v s.nx).1.agg = false := by
          rcases prom_agg (eo := eo) (t := t) (v := v) (nx := s.nx) with h | h
          · rw [h]; exact ha
          · rw [h.1]; exact ha
        have := VT_of_CT p3 (fun _ => rfl)
        rw [hag] at this
        simpa [valOf] using this
    · have hp : prom eo t v s.nx = (v, s.nx, []) := by
        cases t with
        | al c => cases v <;> first | rfl | simp [live] at hl
        | pr ta tb => cases v <;> first | rfl | simp [live] at hl
        | _ => rfl
      rw [hp]
      exact ⟨g, fun _ _ => ⟨rfl, rfl⟩, rfl, hV, hn, Nat.le_refl _, fun m o h => by simp [lk] at h⟩
  obtain ⟨g', p1, p2, p3, p4, p5, p6⟩ := key
  have t1 := turn_same (w := w) (F := F) (N := fun m => m < s.nx) p2 (fun m hm => (p1 m hm).1)
  have hob : ∀ m o, lk ((prom eo t v s.nx).2.2 ++ s.ob) m = some o → (lk (prom eo t v s.nx).2.2 m = some o) ∨ lk s.ob m = some o := by
    intro m o h
    rw [lk_append] at h
    split at h
    · exact .inl (by rename_i h2; rw [h2]; exact h)
    · exact .inr h
  have hold : ∀ m o, lk s.ob m = some o → OR w F g' m o ∧ g'.fp m = g.fp m ∧ m < s.nx := by
    intro m o h
    obtain ⟨h1, h2⟩ := I.nmO m o h
    exact ⟨OR_turn t1 h1 h2 o.safe_none (fun b _ h => h) (fun b => by rw [(p1 m h1).2]) (I.ob m o h), (p1 m h1).2, h1⟩
  refine ⟨g', ⟨fun m o h => ?_, fun m q o p b h1 h2 hne hb1 hb2 => ?_, fun m o b h hb => ?_, by rw [p2]; exact I.bxF, fun t' v' h => ?_, fun t' v' h => ?_, fun m o h => ?_, I.nt, I.df, I.big, I.kept⟩⟩
  · rcases hob m o h with h | h
    · exact (p6 m o h).2.2.1
    · exact (hold m o h).1
  · rcases hob m o h1 with h1 | h1
    · exact (p6 m o h1).2.2.2.1 b hb1
    · rcases hob q p h2 with h2 | h2
      · exact (p6 q p h2).2.2.2.1 b hb2
      · rw [(hold m o h1).2.1] at hb1
        rw [(hold q p h2).2.1] at hb2
        exact I.dis m q o p b h1 h2 hne hb1 hb2
  · rcases hob m o h with h | h
    · exact ((p6 m o h).2.2.2.1 b hb).elim
    · rw [(hold m o h).2.1] at hb
      exact I.inF m o b h hb
  · rw [lk_put] at h
    split at h
    · rename_i he
      subst he
      simp only [Option.some.injEq] at h
      subst h
      exact ⟨u, hu, p3⟩
    · obtain ⟨u', q1, q2⟩ := I.tm t' v' h
      exact ⟨u', q1, VT_turn t1 (I.nmT t' v' h) v'.safe_none q2⟩
  · rw [lk_put] at h
    split at h
    · simp only [Option.some.injEq] at h
      subst h
      exact p4
    · exact TV.nms_mono (fun m hm => by simp only [Nm] at hm; omega) (I.nmT t' v' h)
  · rcases hob m o h with h | h
    · obtain ⟨r1, r2, r3, r4, r5⟩ := p6 m o h
      exact ⟨r2, Obj.nms_mono (fun _ h => h.elim) r5⟩
    · obtain ⟨h1, h2⟩ := I.nmO m o h
      exact ⟨by simp only [Nm] at h1; omega, Obj.nms_mono (fun m hm => by simp only [Nm] at hm; omega) h2⟩

theorem promTm_inv {eo : Nat → Option (Nat × K × Bool)} : ∀ {l : List (Nat × TSh)} {s : St} {g : G}, Inv F w0 (Nm s) s a w g → (promTm eo l s).nt = s.nt ∧ ∃ g', Inv F w0 (Nm (promTm eo l s)) (promTm eo l s) a w g' := by
  intro l
  induction l with
  | nil => intro s g I; exact ⟨rfl, g, I⟩
  | cons p r ih =>
    intro s g I
    obtain ⟨n, t⟩ := p
    simp only [promTm]
    split
    · rename_i v hv
      split
      · exact ih I
      · obtain ⟨g', I'⟩ := prom_inv (eo := eo) (t := t) I hv
        exact ih I'
    · exact ih I

theorem mtp_inv (I : Inv F w0 (Nm s) s a w g) {h : Sh} {d : HL h.ks} (hm : mtp h s = some d) : ∃ g', Inv F w0 (Nm (h.fill s.nt d)) (h.fill s.nt d) a w g' := by
  obtain ⟨h1, g1, I1⟩ := promTm_inv (eo := eoOf h.ob) (l := h.tm) I
  obtain ⟨g2, I2⟩ := mt_inv I1 hm
  rw [h1] at I2
  exact ⟨g2, I2⟩

end
end Go.Vm
