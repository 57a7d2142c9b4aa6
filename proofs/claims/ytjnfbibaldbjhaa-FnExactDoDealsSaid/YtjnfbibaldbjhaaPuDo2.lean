/- A deal that is done: the program. -/
import Derived.Test.YtjnfbibaldbjhaaPuDo
set_option linter.unusedVariables false
set_option linter.unusedSimpArgs false
namespace Go.Proofs.Ytjnfbibaldbjhaa
open Go.Vm

theorem p_impl_do (b : Book) (d : Deal) (hb : BookOk b) (hd : DealOk d) : g_impl_do (b, (d, ())) = some (doF b d) := by
  have hc := p_impl_ownBook b hb.small
  unfold g_impl_do doF
  simp only [w_bnd, w_chk, w_br, w_cal, w_jn, p_impl_uses, hc, Option.bind_some, decide_eq_true_eq]
  obtain ⟨bd, c, ts, u⟩ := b
  obtain ⟨dd, k, tl, fr, to, am, v⟩ := d
  cases u
  cases v
  obtain ⟨b1, b2, b3, b4, b5, b6, b7⟩ := hb
  obtain ⟨⟨d1, d2⟩, hk, c1, c2, c3, c4, ⟨t1, t2⟩, a2⟩ := hd
  dsimp only at *
  by_cases h1 : dd < bd
  · have hr : refF (bd, c, ts, ()) (dd, k, tl, fr, to, am, ()) = 4 := by unfold refF; dsimp only; rw [if_pos h1]
    rw [if_pos h1, hr]
    rfl
  · rw [if_neg h1]
    rcases hk with rfl | rfl | rfl | rfl
    · simp only [usesF, reduceIte, Int.reduceEq, Bool.false_eq_true, Option.bind_some, ite_or, ite_and, decide_eq_true_eq]
      by_cases f1 : fr ≥ (c.length : Int)
      · have hr : refF (bd, c, ts, ()) (dd, 1, tl, fr, to, am, ()) = 2 := by unfold refF; dsimp only; rw [if_neg h1, if_pos (by omega)]
        rw [if_pos f1, hr]
        rfl
      rw [if_neg f1]
      by_cases f2 : to ≥ (c.length : Int)
      · have hr : refF (bd, c, ts, ()) (dd, 1, tl, fr, to, am, ()) = 2 := by unfold refF; dsimp only; rw [if_neg h1, if_pos (by omega)]
        rw [if_pos f2, hr]
        rfl
      rw [if_neg f2]
      simp only [Option.bind_some, Bool.false_eq_true, if_false]
      have hs : ¬ (¬ (0 ≤ fr ∧ fr < (c.length : Int)) ∨ ¬ (0 ≤ to ∧ to < (c.length : Int)) ∨ ((1 : Int) ≠ 1 ∧ tl ≥ (ts.length : Int))) := by omega
      by_cases f3 : fr = to
      · have hr : refF (bd, c, ts, ()) (dd, 1, tl, fr, to, am, ()) = 4 := by unfold refF; dsimp only; rw [if_neg h1, if_neg hs, if_pos rfl, if_pos f3]
        rw [if_pos f3, hr]
        rfl
      rw [if_neg f3]
      by_cases f4 : ts.length = 40
      · have hr : refF (bd, c, ts, ()) (dd, 1, tl, fr, to, am, ()) = 3 := by unfold refF; dsimp only; rw [if_neg h1, if_neg hs, if_pos rfl, if_neg f3, if_pos f4]
        rw [if_pos (by omega), hr]
        rfl
      · have hr : refF (bd, c, ts, ()) (dd, 1, tl, fr, to, am, ()) = 0 := by unfold refF; dsimp only; rw [if_neg h1, if_neg hs, if_pos rfl, if_neg f3, if_neg f4]
        rw [if_neg (by omega), if_pos (by simp; omega), hr]
        rfl
    · simp only [usesF, reduceIte, Int.reduceEq, Bool.false_eq_true, Option.bind_some, ite_or, ite_and, decide_eq_true_eq]
      by_cases f1 : fr ≥ (c.length : Int)
      · have hr : refF (bd, c, ts, ()) (dd, 2, tl, fr, to, am, ()) = 2 := by unfold refF; dsimp only; rw [if_neg h1, if_pos (by omega)]
        rw [if_pos f1, hr]
        rfl
      rw [if_neg f1]
      by_cases f2 : to ≥ (c.length : Int)
      · have hr : refF (bd, c, ts, ()) (dd, 2, tl, fr, to, am, ()) = 2 := by unfold refF; dsimp only; rw [if_neg h1, if_pos (by omega)]
        rw [if_pos f2, hr]
        rfl
      rw [if_neg f2]
      simp only [Option.bind_some, decide_eq_true_eq]
      by_cases f0 : tl ≥ (ts.length : Int)
      · have hr : refF (bd, c, ts, ()) (dd, 2, tl, fr, to, am, ()) = 2 := by unfold refF; dsimp only; rw [if_neg h1, if_pos (by omega)]
        rw [if_pos f0, hr]
        rfl
      rw [if_neg f0]
      have hs : ¬ (¬ (0 ≤ fr ∧ fr < (c.length : Int)) ∨ ¬ (0 ≤ to ∧ to < (c.length : Int)) ∨ ((2 : Int) ≠ 1 ∧ tl ≥ (ts.length : Int))) := by omega
      have htl : tl.toNat < ts.length := by omega
      by_cases f3 : fr = to
      · have hr : refF (bd, c, ts, ()) (dd, 2, tl, fr, to, am, ()) = 4 := by unfold refF; dsimp only; rw [if_neg h1, if_neg hs, if_neg (by decide), if_pos (.inl ⟨rfl, f3⟩)]
        rw [if_pos f3, hr]
        rfl
      rw [if_neg f3, if_pos (by omega)]
      have hx : ts.getD tl.toNat (dz kd_impl_Tally) = ts[tl.toNat] := by simp [htl]
      have hX : xT ts tl = ts[tl.toNat] := hx
      obtain ⟨x1, x2, x3, x4, x5, x6, x7, x8, x9⟩ := b7 tl.toNat htl
      have hr : refF (bd, c, ts, ()) (dd, 2, tl, fr, to, am, ()) = if fr ≠ ts[tl.toNat].2.1 ∨ ts[tl.toNat].2.2.2.2.1 = 0 then 4 else 0 := by
        unfold refF
        dsimp only
        rw [if_neg h1, if_neg hs, if_neg (by decide), hX]
        by_cases q : fr ≠ ts[tl.toNat].2.1 ∨ ts[tl.toNat].2.2.2.2.1 = 0
        · rw [if_pos q, if_pos]
          rcases q with q | q
          · exact .inr (.inl ⟨by decide, q⟩)
          · exact .inr (.inr (.inl q))
        · rw [if_neg q, if_neg (by omega), if_neg (by omega), if_neg (by omega)]
      rw [hr]
      have hcs : cashF (bd, c, ts, ()) (dd, 2, tl, fr, to, am, ()) = c := by unfold cashF; rfl
      have hts : talsF (bd, c, ts, ()) (dd, 2, tl, fr, to, am, ()) = ts.set tl.toNat (newT ts[tl.toNat] (dd, 2, tl, fr, to, am, ())) := by unfold talsF; dsimp only; rw [if_neg (by decide), hX]
      rw [hcs, hts, hx, set_getD_self htl]
      generalize ts[tl.toNat] = x at *
      by_cases q1 : fr = x.2.1
      · rw [if_neg (by simpa using q1)]
        by_cases q2 : x.2.2.2.2.1 = 0
        · rw [if_pos q2, if_pos (show fr ≠ x.2.1 ∨ x.2.2.2.2.1 = 0 from .inr q2)]
          rfl
        · rw [if_neg q2, if_neg (show ¬ (fr ≠ x.2.1 ∨ x.2.2.2.2.1 = 0) by omega)]
          simp only [Option.bind_some, Bool.false_eq_true, if_false, if_true]
          unfold newT
          simp only [reduceIte]
          by_cases q3 : to = x.1
          · rw [if_pos q3, if_pos q3, List.set_set]
          · rw [if_neg q3, if_neg q3]
      · rw [if_pos (by simpa using q1), if_pos (show fr ≠ x.2.1 ∨ x.2.2.2.2.1 = 0 from .inl q1)]
        rfl
    · simp only [usesF, reduceIte, Int.reduceEq, Bool.false_eq_true, Option.bind_some, ite_or, ite_and, decide_eq_true_eq]
      by_cases f0 : tl ≥ (ts.length : Int)
      · have hr : refF (bd, c, ts, ()) (dd, 3, tl, fr, to, am, ()) = 2 := by unfold refF; dsimp only; rw [if_neg h1, if_pos (by omega)]
        rw [if_pos f0, hr]
        rfl
      rw [if_neg f0]
      have hs : ¬ (¬ (0 ≤ fr ∧ fr < (c.length : Int)) ∨ ¬ (0 ≤ to ∧ to < (c.length : Int)) ∨ ((3 : Int) ≠ 1 ∧ tl ≥ (ts.length : Int))) := by omega
      have htl : tl.toNat < ts.length := by omega
      rw [if_pos (by omega)]
      have hx : ts.getD tl.toNat (dz kd_impl_Tally) = ts[tl.toNat] := by simp [htl]
      have hX : xT ts tl = ts[tl.toNat] := hx
      obtain ⟨x1, x2, x3, x4, x5, x6, x7, x8, x9⟩ := b7 tl.toNat htl
      have hcs : cashF (bd, c, ts, ()) (dd, 3, tl, fr, to, am, ()) = (c.set ts[tl.toNat].1.toNat (c.getD ts[tl.toNat].1.toNat 0 - am)).set ts[tl.toNat].2.1.toNat (c.getD ts[tl.toNat].2.1.toNat 0 + am) := by unfold cashF; dsimp only; rw [if_pos rfl, hX]
      have hts : talsF (bd, c, ts, ()) (dd, 3, tl, fr, to, am, ()) = ts.set tl.toNat (newT ts[tl.toNat] (dd, 3, tl, fr, to, am, ())) := by unfold talsF; dsimp only; rw [if_neg (by decide), hX]
      have hr : refF (bd, c, ts, ()) (dd, 3, tl, fr, to, am, ()) = if ts[tl.toNat].2.2.2.2.1 = 0 ∨ am > ts[tl.toNat].2.2.2.2.1 then 4 else if c.getD ts[tl.toNat].1.toNat 0 < am then 8 else if c.getD ts[tl.toNat].2.1.toNat 0 + am > 100000000 then 3 else 0 := by
        unfold refF
        dsimp only
        rw [if_neg h1, if_neg hs, if_neg (by decide), hX]
        by_cases q : ts[tl.toNat].2.2.2.2.1 = 0 ∨ am > ts[tl.toNat].2.2.2.2.1
        · rw [if_pos q, if_pos (.inr (.inr q))]
        · rw [if_neg q, if_neg (by omega)]
          by_cases q2 : c.getD ts[tl.toNat].1.toNat 0 < am
          · rw [if_pos q2, if_pos ⟨rfl, q2⟩]
          · rw [if_neg q2, if_neg (fun h => q2 h.2)]
            by_cases q3 : c.getD ts[tl.toNat].2.1.toNat 0 + am > 100000000
            · rw [if_pos q3, if_pos ⟨rfl, q3⟩]
            · rw [if_neg q3, if_neg (fun h => q3 h.2)]
      rw [hr, hcs, hts, hx, set_getD_self htl]
      generalize ts[tl.toNat] = x at *
      have n1 : x.1.toNat < c.length := by omega
      have n2 : x.2.1.toNat < c.length := by omega
      have q1 := b5 x.1.toNat n1
      have q2 := b5 x.2.1.toNat n2
      have g1 : c.getD x.1.toNat (dz (.int .i64)) = c[x.1.toNat] := by simp [n1]
      have g1' : c.getD x.1.toNat 0 = c[x.1.toNat] := by simp [n1]
      have g2' : c.getD x.2.1.toNat 0 = c[x.2.1.toNat] := by simp [n2]
      rw [g1, g1', g2']
      by_cases z1 : x.2.2.2.2.1 = 0
      · rw [if_pos z1, if_pos (show x.2.2.2.2.1 = 0 ∨ am > x.2.2.2.2.1 from .inl z1)]
        rfl
      rw [if_neg z1]
      simp only [Option.bind_some, decide_eq_true_eq]
      by_cases z2 : am > x.2.2.2.2.1
      · rw [if_pos z2, if_pos (show x.2.2.2.2.1 = 0 ∨ am > x.2.2.2.2.1 from .inr z2)]
        rfl
      rw [if_neg z2, if_neg (show ¬ (x.2.2.2.2.1 = 0 ∨ am > x.2.2.2.2.1) by omega)]
      have m1 : 0 ≤ x.1 ∧ x.1 < (c.length : Int) := ⟨x1, x2⟩
      rw [if_pos m1]
      by_cases z3 : c[x.1.toNat] < am
      · rw [if_pos z3, if_pos z3]
        rfl
      rw [if_neg z3, if_neg z3]
      have hne : x.1.toNat ≠ x.2.1.toNat := by
        intro e
        exact z1 (x9 (by omega))
      have m2 : ∀ w : Int, 0 ≤ x.2.1 ∧ x.2.1 < ((c.set x.1.toNat w).length : Int) := fun w => by simp; omega
      have m3 : ∀ w v : Int, 0 ≤ x.2.1 ∧ x.2.1 < (((c.set x.1.toNat w).set x.2.1.toNat v).length : Int) := fun w v => by simp; omega
      rw [if_pos m1, if_pos m1, if_pos (m2 _), if_pos (m2 _)]
      rw [set_getD_ne hne, show c.getD x.2.1.toNat (dz (.int .i64)) = c[x.2.1.toNat] from by simp [n2]]
      rw [wrap64 (n := c[x.1.toNat] - am) (by omega) (by omega), wrap64 (n := c[x.2.1.toNat] + am) (by omega) (by omega), wrap64 (n := x.2.2.2.2.1 - am) (by omega) (by omega)]
      rw [if_pos (m3 _ _), set_getD_self (by simpa using n2)]
      by_cases z4 : c[x.2.1.toNat] + am > 100000000
      · rw [if_pos z4, if_pos z4]
        rfl
      · rw [if_neg z4, if_neg z4]
        rfl
    · simp only [usesF, reduceIte, Int.reduceEq, Bool.false_eq_true, Option.bind_some, ite_or, ite_and, decide_eq_true_eq]
      by_cases f1 : fr ≥ (c.length : Int)
      · have hr : refF (bd, c, ts, ()) (dd, 4, tl, fr, to, am, ()) = 2 := by unfold refF; dsimp only; rw [if_neg h1, if_pos (by omega)]
        rw [if_pos f1, hr]
        rfl
      rw [if_neg f1]
      simp only [Option.bind_some, decide_eq_true_eq]
      by_cases f0 : tl ≥ (ts.length : Int)
      · have hr : refF (bd, c, ts, ()) (dd, 4, tl, fr, to, am, ()) = 2 := by unfold refF; dsimp only; rw [if_neg h1, if_pos (by omega)]
        rw [if_pos f0, hr]
        rfl
      rw [if_neg f0]
      have hs : ¬ (¬ (0 ≤ fr ∧ fr < (c.length : Int)) ∨ ¬ (0 ≤ to ∧ to < (c.length : Int)) ∨ ((4 : Int) ≠ 1 ∧ tl ≥ (ts.length : Int))) := by omega
      have htl : tl.toNat < ts.length := by omega
      rw [if_pos (by omega)]
      have hx : ts.getD tl.toNat (dz kd_impl_Tally) = ts[tl.toNat] := by simp [htl]
      have hX : xT ts tl = ts[tl.toNat] := hx
      obtain ⟨x1, x2, x3, x4, x5, x6, x7, x8, x9⟩ := b7 tl.toNat htl
      have hr : refF (bd, c, ts, ()) (dd, 4, tl, fr, to, am, ()) = if fr ≠ ts[tl.toNat].2.1 ∨ ts[tl.toNat].2.2.2.2.1 = 0 then 4 else 0 := by
        unfold refF
        dsimp only
        rw [if_neg h1, if_neg hs, if_neg (by decide), hX]
        by_cases q : fr ≠ ts[tl.toNat].2.1 ∨ ts[tl.toNat].2.2.2.2.1 = 0
        · rw [if_pos q, if_pos]
          rcases q with q | q
          · exact .inr (.inl ⟨by decide, q⟩)
          · exact .inr (.inr (.inl q))
        · rw [if_neg q, if_neg (by omega), if_neg (by omega), if_neg (by omega)]
      rw [hr]
      have hcs : cashF (bd, c, ts, ()) (dd, 4, tl, fr, to, am, ()) = c := by unfold cashF; rfl
      have hts : talsF (bd, c, ts, ()) (dd, 4, tl, fr, to, am, ()) = ts.set tl.toNat (newT ts[tl.toNat] (dd, 4, tl, fr, to, am, ())) := by unfold talsF; dsimp only; rw [if_neg (by decide), hX]
      rw [hcs, hts, hx]
      generalize ts[tl.toNat] = x at *
      by_cases q1 : fr = x.2.1
      · rw [if_neg (by simpa using q1)]
        by_cases q2 : x.2.2.2.2.1 = 0
        · rw [if_pos q2, if_pos (show fr ≠ x.2.1 ∨ x.2.2.2.2.1 = 0 from .inr q2)]
          rfl
        · rw [if_neg q2, if_neg (show ¬ (fr ≠ x.2.1 ∨ x.2.2.2.2.1 = 0) by omega)]
          rfl
      · rw [if_pos (by simpa using q1), if_pos (show fr ≠ x.2.1 ∨ x.2.2.2.2.1 = 0 from .inl q1)]
        rfl
end Go.Proofs.Ytjnfbibaldbjhaa
