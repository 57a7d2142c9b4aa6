/- What the laws' own small functions compute. -/
import Derived.Test.YtjnfbibaldbjhaaFa1
import Derived.Test.YtjnfbibaldbjhaaVmG
set_option linter.unusedVariables false
set_option linter.unusedSimpArgs false
namespace Go.Proofs.Ytjnfbibaldbjhaa
open Go.Vm

abbrev Tal := Int × Int × Int × Int × Int × Unit
abbrev Deal := Int × Int × Int × Int × Int × Int × Unit
abbrev Book := Int × List Int × List Tal × Unit

theorem p_laws_toInt64S (xs : List Int) (h : xs.length ≤ 1073741824) : g_laws_toInt64S (xs, ()) = some (xs, ()) := by
  unfold g_laws_toInt64S
  simp only [w_bnd, w_chk, w_br, w_cal, w_jn, w_out, w_lop]
  rw [if_pos (by simp; omega)]
  refine (loop_map (xs := xs) (F := id) (st := fun i (a : List Int) => (xs, ((i : Int), (a, ())))) (fin := fun a => (a, ())) (by simp) (fun i hi a ha => ?_) (fun a ha => by simp)).trans (by simp)
  simp [hi, ha, wrap64 (n := (i : Int) + 1) (by omega) (by omega)]

theorem p_laws_toTally (x : Tal) : g_laws_toTally (x, ()) = some (x, ()) := rfl
theorem p_laws_toDeal (x : Deal) : g_laws_toDeal (x, ()) = some (x, ()) := rfl

theorem p_laws_toTallyS (xs : List Tal) (h : xs.length ≤ 1073741824) : g_laws_toTallyS (xs, ()) = some (xs, ()) := by
  unfold g_laws_toTallyS
  simp only [w_bnd, w_chk, w_br, w_cal, w_jn, w_out, w_lop]
  rw [if_pos (by simp; omega)]
  refine (loop_map (xs := xs) (F := id) (st := fun i (a : List Tal) => (xs, ((i : Int), (a, ())))) (fin := fun a => (a, ())) (by simp) (fun i hi a ha => ?_) (fun a ha => by simp)).trans (by simp)
  simp [hi, ha, p_laws_toTally, wrap64 (n := (i : Int) + 1) (by omega) (by omega)]

theorem p_laws_toDealS (xs : List Deal) (h : xs.length ≤ 1073741824) : g_laws_toDealS (xs, ()) = some (xs, ()) := by
  unfold g_laws_toDealS
  simp only [w_bnd, w_chk, w_br, w_cal, w_jn, w_out, w_lop]
  rw [if_pos (by simp; omega)]
  refine (loop_map (xs := xs) (F := id) (st := fun i (a : List Deal) => (xs, ((i : Int), (a, ())))) (fin := fun a => (a, ())) (by simp) (fun i hi a ha => ?_) (fun a ha => by simp)).trans (by simp)
  simp [hi, ha, p_laws_toDeal, wrap64 (n := (i : Int) + 1) (by omega) (by omega)]

theorem p_laws_toBook (b : Book) (h1 : b.2.1.length ≤ 1073741824) (h2 : b.2.2.1.length ≤ 1073741824) : g_laws_toBook (b, ()) = some b := by
  unfold g_laws_toBook
  simp [p_laws_toInt64S _ h1, p_laws_toTallyS _ h2]

theorem p_laws_toBookS (xs : List Book) (h : xs.length ≤ 1073741824) (hb : ∀ b ∈ xs, b.2.1.length ≤ 1073741824 ∧ b.2.2.1.length ≤ 1073741824) : g_laws_toBookS (xs, ()) = some (xs, ()) := by
  unfold g_laws_toBookS
  simp only [w_bnd, w_chk, w_br, w_cal, w_jn, w_out, w_lop]
  rw [if_pos (by simp; omega)]
  refine (loop_map (xs := xs) (F := id) (st := fun i (a : List Book) => (xs, ((i : Int), (a, ())))) (fin := fun a => (a, ())) (by simp) (fun i hi a ha => ?_) (fun a ha => by simp)).trans (by simp)
  have hx := hb xs[i] (List.getElem_mem hi)
  simp [hi, ha, p_laws_toBook _ hx.1 hx.2, wrap64 (n := (i : Int) + 1) (by omega) (by omega)]

/-! #### Equal to itself -/
theorem r_laws_eqInt64S (xs : List Int) (h : xs.length ≤ 1073741824) : g_laws_eqInt64S (xs, (xs, ())) = some (true, ()) := by
  unfold g_laws_eqInt64S
  simp only [w_bnd, w_chk, w_br, w_cal, w_jn, w_out, w_lop]
  rw [if_neg (by simp)]
  refine (loop_all (xs := xs) (st := fun i => (xs, (xs, ((i : Int), ())))) (fun _ => true) (false, ()) (true, ()) (fun i hi => ?_) (by simp)).trans (by simp)
  simp [hi, wrap64 (n := (i : Int) + 1) (by omega) (by omega)]
theorem r_laws_eqTally (x : Tal) : g_laws_eqTally (x, (x, ())) = some (true, ()) := by
  unfold g_laws_eqTally
  simp
theorem r_laws_eqDeal (x : Deal) : g_laws_eqDeal (x, (x, ())) = some (true, ()) := by
  unfold g_laws_eqDeal
  simp
theorem r_laws_eqTallyS (xs : List Tal) (h : xs.length ≤ 1073741824) : g_laws_eqTallyS (xs, (xs, ())) = some (true, ()) := by
  unfold g_laws_eqTallyS
  simp only [w_bnd, w_chk, w_br, w_cal, w_jn, w_out, w_lop]
  rw [if_neg (by simp)]
  refine (loop_all (xs := xs) (st := fun i => (xs, (xs, ((i : Int), ())))) (fun _ => true) (false, ()) (true, ()) (fun i hi => ?_) (by simp)).trans (by simp)
  simp [hi, r_laws_eqTally, wrap64 (n := (i : Int) + 1) (by omega) (by omega)]
theorem r_laws_eqDealS (xs : List Deal) (h : xs.length ≤ 1073741824) : g_laws_eqDealS (xs, (xs, ())) = some (true, ()) := by
  unfold g_laws_eqDealS
  simp only [w_bnd, w_chk, w_br, w_cal, w_jn, w_out, w_lop]
  rw [if_neg (by simp)]
  refine (loop_all (xs := xs) (st := fun i => (xs, (xs, ((i : Int), ())))) (fun _ => true) (false, ()) (true, ()) (fun i hi => ?_) (by simp)).trans (by simp)
  simp [hi, r_laws_eqDeal, wrap64 (n := (i : Int) + 1) (by omega) (by omega)]
theorem r_laws_eqBook (b : Book) (h1 : b.2.1.length ≤ 1073741824) (h2 : b.2.2.1.length ≤ 1073741824) : g_laws_eqBook (b, (b, ())) = some (true, ()) := by
  unfold g_laws_eqBook
  simp [r_laws_eqInt64S _ h1, r_laws_eqTallyS _ h2]
theorem r_laws_eqBookS (xs : List Book) (h : xs.length ≤ 1073741824) (hb : ∀ b ∈ xs, b.2.1.length ≤ 1073741824 ∧ b.2.2.1.length ≤ 1073741824) : g_laws_eqBookS (xs, (xs, ())) = some (true, ()) := by
  unfold g_laws_eqBookS
  simp only [w_bnd, w_chk, w_br, w_cal, w_jn, w_out, w_lop]
  rw [if_neg (by simp)]
  refine (loop_all (xs := xs) (st := fun i => (xs, (xs, ((i : Int), ())))) (fun _ => true) (false, ()) (true, ()) (fun i hi => ?_) (by simp)).trans (by simp)
  have hx := hb xs[i] (List.getElem_mem hi)
  simp [hi, r_laws_eqBook _ hx.1 hx.2, wrap64 (n := (i : Int) + 1) (by omega) (by omega)]

/-! #### Sizes -/
theorem p_laws_szInt64S (xs : List Int) (l : Int) (h : xs.length ≤ maxLen) (h0 : 0 ≤ l) (h1 : l ≤ 1048576) : g_laws_szInt64S (xs, (l, ())) = some (if l - xs.length < 0 then -1 else l - xs.length, ()) := by
  have hm : maxLen = 9223372036854775807 := by decide
  unfold g_laws_szInt64S
  simp only [w_bnd, w_br, wrap64 (n := l - xs.length) (by omega) (by omega)]
  by_cases hc : l - xs.length < 0 <;> simp [hc]
theorem p_laws_szTallyS (xs : List Tal) (l : Int) (h : xs.length ≤ maxLen) (h0 : 0 ≤ l) (h1 : l ≤ 1048576) : g_laws_szTallyS (xs, (l, ())) = some (if l - xs.length < 0 then -1 else l - xs.length, ()) := by
  have hm : maxLen = 9223372036854775807 := by decide
  unfold g_laws_szTallyS
  simp only [w_bnd, w_br, wrap64 (n := l - xs.length) (by omega) (by omega)]
  by_cases hc : l - xs.length < 0 <;> simp [hc]
theorem p_laws_szDealS (xs : List Deal) (l : Int) (h : xs.length ≤ maxLen) (h0 : 0 ≤ l) (h1 : l ≤ 1048576) : g_laws_szDealS (xs, (l, ())) = some (if l - xs.length < 0 then -1 else l - xs.length, ()) := by
  have hm : maxLen = 9223372036854775807 := by decide
  unfold g_laws_szDealS
  simp only [w_bnd, w_br, wrap64 (n := l - xs.length) (by omega) (by omega)]
  by_cases hc : l - xs.length < 0 <;> simp [hc]

/-- A book that is not too great. -/
def smallB (b : Book) : Prop := b.2.1.length ≤ 1048576 ∧ b.2.2.1.length ≤ 1048576

theorem p_laws_szBook (b : Book) (l : Int) (hb1 : b.2.1.length ≤ maxLen) (hb2 : b.2.2.1.length ≤ maxLen) (h0 : 0 ≤ l) (h1 : l ≤ 1048576) : ∃ v : Int, g_laws_szBook (b, (l, ())) = some (v, ()) ∧ (v < 0 ∨ (0 ≤ v ∧ v ≤ l ∧ smallB b)) := by
  unfold g_laws_szBook
  simp only [w_bnd, w_br, w_cal, p_laws_szInt64S _ _ hb1 h0 h1, Option.bind_some]
  by_cases hc : l - b.2.1.length < 0
  · rw [if_pos (by simp [hc])]
    exact ⟨-1, rfl, .inl (by decide)⟩
  · rw [if_neg (by simp; omega), if_neg hc]
    rw [p_laws_szTallyS _ _ hb2 (by omega) (by omega)]
    simp only [Option.bind_some]
    by_cases hd : l - b.2.1.length - b.2.2.1.length < 0
    · rw [if_pos (by simp [hd])]
      exact ⟨-1, rfl, .inl (by decide)⟩
    · rw [if_neg (by simp; omega), if_neg hd]
      exact ⟨_, rfl, .inr ⟨by omega, by omega, by unfold smallB; omega⟩⟩

theorem p_laws_szBookS (xs : List Book) (l : Int) (h : xs.length ≤ maxLen) (hb : ∀ b ∈ xs, b.2.1.length ≤ maxLen ∧ b.2.2.1.length ≤ maxLen) (h0 : 0 ≤ l) (h1 : l ≤ 1048576) :
    ∃ v : Int, g_laws_szBookS (xs, (l, ())) = some (v, ()) ∧ (v < 0 ∨ (0 ≤ v ∧ v ≤ l ∧ xs.length ≤ 1048576 ∧ ∀ b ∈ xs, smallB b)) := by
  have hm : maxLen = 9223372036854775807 := by decide
  unfold g_laws_szBookS
  simp only [w_bnd, w_chk, w_br, w_cal, w_jn, w_out, w_lop, wrap64 (n := l - xs.length) (by omega) (by omega)]
  by_cases hc : l - xs.length < 0
  · rw [if_pos (by simp [hc])]
    exact ⟨-1, rfl, .inl (by decide)⟩
  · rw [if_neg (by simp; omega)]
    generalize hstep : (fun (s3 : List Book × Int × Int × Unit) => _) = step
    have gen : ∀ (m i : Nat) (v : Int), i + m = xs.length → 0 ≤ v → v ≤ l → (∀ b ∈ xs.take i, smallB b) → ∃ v' : Int, loopW step (xs, (v, ((i : Int), ()))) = some (v', ()) ∧ (v' < 0 ∨ (0 ≤ v' ∧ v' ≤ l ∧ ∀ b ∈ xs, smallB b)) := by
      intro m
      induction m with
      | zero =>
        intro i v hi hv0 hv1 hs
        have hi' : i = xs.length := by omega
        subst hi'
        refine ⟨v, loopW_inr (by rw [← hstep]; simp), .inr ⟨hv0, hv1, by simpa using hs⟩⟩
      | succ m ih =>
        intro i v hi hv0 hv1 hs
        have hlt : i < xs.length := by omega
        have hx := hb xs[i] (List.getElem_mem hlt)
        obtain ⟨v1, e1, e2⟩ := p_laws_szBook xs[i] v hx.1 hx.2 hv0 (by omega)
        rcases e2 with e2 | ⟨e2, e3, e4⟩
        · exact ⟨-1, loopW_inr (by rw [← hstep]; simp [hlt, e1, e2]), .inl (by decide)⟩
        · obtain ⟨v', f1, f2⟩ := ih (i + 1) v1 (by omega) e2 (by omega) (fun b hb' => by
            rw [List.take_add_one] at hb'
            rcases List.mem_append.1 hb' with h | h
            · exact hs b h
            · simp [hlt] at h; rw [h]; exact e4)
          refine ⟨v', loopW_inl (d' := (xs, (v1, (((i + 1 : Nat) : Int), ())))) (by
            rw [← hstep]
            have : ¬ v1 < 0 := by omega
            simp [hlt, e1, this, wrap64 (n := (i : Int) + 1) (by omega) (by omega)]) f1, f2⟩
    obtain ⟨v', f1, f2⟩ := gen xs.length 0 (l - xs.length) (by omega) (by omega) (by omega) (by simp)
    refine ⟨v', f1, f2.imp id fun q => ⟨q.1, q.2.1, by omega, q.2.2⟩⟩

end Go.Proofs.Ytjnfbibaldbjhaa
