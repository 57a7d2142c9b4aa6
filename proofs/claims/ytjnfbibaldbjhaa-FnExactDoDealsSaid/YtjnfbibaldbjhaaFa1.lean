/- The functions of the loaded program, as they are worked out, each with its contract: told by a program of this work. -/
import Derived.Test.YtjnfbibaldbjhaaFa0
set_option linter.unusedVariables false
set_option maxRecDepth 100000
namespace Go.Proofs.Ytjnfbibaldbjhaa
open Go.Vm
/- loop.example/g01263/impl.ValidBook -/
def pars_impl_ValidBook : List (Nat × TSh) := [(0, (.sc true (.pr (.int .i64) (.pr (.sl 2 (.int .i64)) (.pr (.sl 83 (.pr (.int .i64) (.pr (.int .i64) (.pr (.int .i64) (.pr (.int .i64) (.pr (.int .i64) .un)))))) .un)))))]
def rsh_impl_ValidBook : Sh := ⟨[(0, (.sc true .bool))], [], 0⟩
def an_impl_ValidBook : An := ⟨fun l => (lk ([(12, ⟨[(1, (.bp 0)), (3, (.sc true (.int .i64))), (6, (.sc true (.int .i64))), (42, (.sc true (.sl 83 (.pr (.int .i64) (.pr (.int .i64) (.pr (.int .i64) (.pr (.int .i64) (.pr (.int .i64) .un)))))))), (43, (.sc true (.int .i64))), (44, (.sc true (.int .i64)))], [(0, (.bx (.sc true (.pr (.int .i64) (.pr (.sl 2 (.int .i64)) (.pr (.sl 83 (.pr (.int .i64) (.pr (.int .i64) (.pr (.int .i64) (.pr (.int .i64) (.pr (.int .i64) .un)))))) .un))))))], 1⟩), (5, ⟨[(1, (.bp 0)), (3, (.sc true (.int .i64))), (31, (.sc true (.sl 2 (.int .i64)))), (32, (.sc true (.int .i64))), (33, (.sc true (.int .i64)))], [(0, (.bx (.sc true (.pr (.int .i64) (.pr (.sl 2 (.int .i64)) (.pr (.sl 83 (.pr (.int .i64) (.pr (.int .i64) (.pr (.int .i64) (.pr (.int .i64) (.pr (.int .i64) .un)))))) .un))))))], 1⟩)] : List (Nat × Sh)) l).getD noSh, fun l => (lk ([(2, [⟨0, false, []⟩, ⟨1, false, []⟩, ⟨3, false, []⟩, ⟨7, false, []⟩, ⟨15, false, []⟩, ⟨31, false, []⟩, ⟨63, false, []⟩, ⟨127, false, []⟩, ⟨255, false, []⟩, ⟨511, false, []⟩, ⟨1023, false, []⟩, ⟨2047, false, []⟩, ⟨4095, false, []⟩, ⟨8191, false, []⟩, ⟨16383, false, []⟩, ⟨32767, false, []⟩, ⟨65535, false, []⟩, ⟨131071, false, []⟩]), (14, [⟨0, false, []⟩, ⟨1, false, []⟩, ⟨3, false, []⟩, ⟨7, false, []⟩, ⟨15, false, []⟩, ⟨31, false, []⟩, ⟨63, false, []⟩, ⟨127, false, []⟩, ⟨255, false, []⟩, ⟨511, false, []⟩, ⟨1023, false, []⟩, ⟨2047, false, []⟩, ⟨4095, false, []⟩, ⟨8191, false, []⟩, ⟨16383, false, []⟩, ⟨32767, false, []⟩, ⟨65535, false, []⟩, ⟨131071, false, []⟩, ⟨262143, false, []⟩, ⟨524287, false, []⟩, ⟨1048575, false, []⟩, ⟨2097151, false, []⟩, ⟨4194303, false, []⟩, ⟨8388607, false, []⟩, ⟨16777215, false, []⟩, ⟨33554431, false, []⟩, ⟨67108863, false, []⟩, ⟨134217727, false, []⟩, ⟨268435455, false, []⟩, ⟨536870911, false, []⟩, ⟨1073741823, false, []⟩, ⟨2147483647, false, []⟩, ⟨4294967295, false, []⟩, ⟨8589934591, false, []⟩, ⟨17179869183, false, []⟩, ⟨34359738367, false, []⟩, ⟨68719476735, false, []⟩, ⟨137438953471, false, []⟩, ⟨274877906943, false, []⟩, ⟨549755813887, false, []⟩, ⟨1099511627775, false, []⟩, ⟨2199023255551, false, []⟩, ⟨4398046511103, false, []⟩, ⟨8796093022207, false, []⟩, ⟨17592186044415, false, []⟩, ⟨35184372088831, false, []⟩, ⟨70368744177663, false, []⟩, ⟨140737488355327, false, []⟩, ⟨281474976710655, false, []⟩, ⟨562949953421311, false, []⟩, ⟨1125899906842623, false, []⟩, ⟨2251799813685247, false, []⟩, ⟨4503599627370495, false, []⟩, ⟨9007199254740991, false, []⟩, ⟨18014398509481983, false, []⟩])] : List (Nat × List Ri)) l).getD [], fun l => lk ([(2, 29), (14, 102)] : List (Nat × Nat)) l, fun l => lk ([(0, [1]), (1, [1, 3]), (2, [1, 3, 29]), (3, [2]), (4, [1, 3, 31, 32, 33]), (5, [1, 3, 31, 32, 33, 34]), (6, [1, 3, 5, 31, 32, 33]), (7, [1, 3, 31, 32, 33, 39]), (8, [2]), (9, [1, 3, 31, 32, 33]), (10, [1, 3, 6]), (11, [1, 3, 6, 42, 43, 44]), (12, [1, 3, 6, 42, 43, 44, 45]), (13, [1, 3, 6, 8, 42, 43, 44]), (14, [1, 3, 8, 42, 43, 44, 102]), (15, [2]), (16, [1, 3, 6, 42, 43, 44]), (17, [1, 3, 6, 42, 43, 44]), (18, [2])] : List (Nat × List Nat)) l⟩
noncomputable def g_impl_ValidBook (x : ((Int × ((List Int) × ((List (Int × (Int × (Int × (Int × (Int × Unit)))))) × Unit))) × Unit)) : Option (Bool × Unit) :=
  rgd.bnd (x.1.2.1.length : Int) fun y0 =>
  rgd.jn (
      rgd.cal (g_impl_isBookDay (x.1.1, ())) fun d2 =>
      rgd.bnd (!d2.1) fun y3 =>
      rgd.br y3
        (some true)
        (rgd.bnd (decide (y0 < (1 : Int))) fun y4 =>
        rgd.br y4
          (some true)
          (rgd.bnd (decide (y0 > (16 : Int))) fun y5 =>
          rgd.br y5
            (some true)
            (rgd.bnd (x.1.2.2.1.length : Int) fun y6 =>
            rgd.bnd (decide (y6 > (40 : Int))) fun y7 =>
            some y7)))) fun b1 =>
  rgd.br b1
    (some (false, ()))
    (rgd.bnd (x.1.2.1.length : Int) fun y8 =>
    rgd.lop (fun (s9 : (Int × ((List Int) × (Int × (Int × ((Int × ((List Int) × ((List (Int × (Int × (Int × (Int × (Int × Unit)))))) × Unit))) × Unit)))))) =>
      rgd.bnd (decide (s9.2.2.2.1 < s9.2.2.1)) fun y10 =>
      rgd.br y10
        (rgd.chk (decide ((0 : Int) ≤ s9.2.2.2.1 ∧ s9.2.2.2.1 < (s9.2.1.length : Int))) <|
        rgd.bnd (s9.2.1.getD s9.2.2.2.1.toNat (dz (.int .i64))) fun y11 =>
        rgd.cal (g_impl_isAmount (y11, ())) fun d12 =>
        rgd.bnd (!d12.1) fun y13 =>
        rgd.br y13
          (rgd.out (
            some (false, ())))
          (rgd.bnd (Go.IntKind.wrap .i64 (s9.2.2.2.1 + (1 : Int))) fun y14 =>
          some (.inl (s9.1, (s9.2.1, (s9.2.2.1, (y14, (s9.2.2.2.2.1, ()))))))))
        (rgd.out (
          rgd.bnd (s9.2.2.2.2.1.2.2.1.length : Int) fun y15 =>
          rgd.lop (fun (s16 : (Int × (Int × ((List (Int × (Int × (Int × (Int × (Int × Unit)))))) × (Int × (Int × ((Int × ((List Int) × ((List (Int × (Int × (Int × (Int × (Int × Unit)))))) × Unit))) × Unit))))))) =>
            rgd.bnd (decide (s16.2.2.2.2.1 < s16.2.2.2.1)) fun y17 =>
            rgd.br y17
              (rgd.chk (decide ((0 : Int) ≤ s16.2.2.2.2.1 ∧ s16.2.2.2.2.1 < (s16.2.2.1.length : Int))) <|
              rgd.bnd (s16.2.2.1.getD s16.2.2.2.2.1.toNat (dz kd_impl_Tally)) fun y18 =>
              rgd.jn (
                  rgd.bnd (y18.1 :: (y18.2.1 :: [])) fun y20 =>
                  rgd.cal (g_impl_arePeople (s16.1, (y20, ()))) fun d21 =>
                  rgd.bnd (!d21.1) fun y22 =>
                  rgd.br y22
                    (some true)
                    (rgd.bnd (decide (y18.2.2.1 < s16.2.1)) fun y23 =>
                    rgd.br y23
                      (some true)
                      (rgd.bnd (decide (y18.2.2.1 > s16.2.2.2.2.2.1.1)) fun y24 =>
                      rgd.br y24
                        (some true)
                        (rgd.bnd (decide (y18.2.2.2.1 < (1 : Int))) fun y25 =>
                        rgd.br y25
                          (some true)
                          (rgd.bnd (decide (y18.2.2.2.1 > (100000000 : Int))) fun y26 =>
                          rgd.br y26
                            (some true)
                            (rgd.bnd (decide (y18.2.2.2.2.1 < (0 : Int))) fun y27 =>
                            rgd.br y27
                              (some true)
                              (rgd.bnd (decide (y18.2.2.2.2.1 > y18.2.2.2.1)) fun y28 =>
                              rgd.br y28
                                (some true)
                                (rgd.bnd (decide (y18.1 = y18.2.1)) fun y29 =>
                                rgd.br y29
                                  (rgd.bnd (decide (y18.2.2.2.2.1 ≠ (0 : Int))) fun y30 =>
                                  some y30)
                                  (some false))))))))) fun b19 =>
              rgd.br b19
                (rgd.out (
                  some (false, ())))
                (rgd.bnd (Go.IntKind.wrap .i64 (s16.2.2.2.2.1 + (1 : Int))) fun y31 =>
                some (.inl (s16.1, (y18.2.2.1, (s16.2.2.1, (s16.2.2.2.1, (y31, (s16.2.2.2.2.2.1, ())))))))))
              (rgd.out (
                some (true, ())))) (s9.1, ((0 : Int), (s9.2.2.2.2.1.2.2.1, (y15, ((0 : Int), (s9.2.2.2.2.1, ()))))))))) (y0, (x.1.2.1, (y8, ((0 : Int), (x.1, ()))))))
noncomputable def ent_impl_ValidBook : Ent := ⟨pars_impl_ValidBook, rsh_impl_ValidBook, g_impl_ValidBook, none⟩
noncomputable def E_impl_ValidBook (f : Nat) : Option Ent := lk ([(83, ent_impl_isBookDay), (87, ent_impl_arePeople), (93, ent_impl_isAmount)] : List (Nat × Ent)) f
theorem q_impl_ValidBook : vfun rgd Tf E_impl_ValidBook an_impl_ValidBook 106 pars_impl_ValidBook [(.tmp 2)] rsh_impl_ValidBook (Try.f44.body.getD .skip) = g_impl_ValidBook := by kernel_rfl
theorem h_impl_ValidBook : Holds Try.prog 44 ent_impl_ValidBook ∧ Callable Try.prog 44 :=
  fn_ok tok mixed (E := E_impl_ValidBook) (EOk_add h_impl_isBookDay (EOk_add h_impl_arePeople (EOk_add h_impl_isAmount EOk_nil))) Try.func44 (by kernel_rfl) (by kernel_rfl) (rs := [(.tmp 2)]) (by kernel_rfl) (by kernel_rfl) (by kernel_rfl) q_impl_ValidBook
/- loop.example/g01263/impl.ValidDeal$1 -/
def pars_impl_ValidDeal_1 : List (Nat × TSh) := [(0, (.sc true .bool)), (1, (.sc true (.int .i64))), (2, (.sc true (.int .i64))), (3, (.sc true (.int .i64)))]
def rsh_impl_ValidDeal_1 : Sh := ⟨[(0, (.sc true .bool))], [], 0⟩
def an_impl_ValidDeal_1 : An := ⟨fun l => (lk ([] : List (Nat × Sh)) l).getD noSh, fun l => (lk ([(1, [⟨0, false, []⟩, ⟨1, false, []⟩, ⟨3, false, []⟩, ⟨7, false, []⟩, ⟨15, false, []⟩, ⟨31, false, []⟩, ⟨63, false, []⟩, ⟨127, false, []⟩, ⟨255, false, []⟩, ⟨511, false, []⟩, ⟨1023, false, []⟩, ⟨2047, false, []⟩, ⟨4095, false, []⟩, ⟨8191, false, []⟩, ⟨16383, false, []⟩, ⟨32767, false, []⟩, ⟨65535, false, []⟩, ⟨131071, false, []⟩, ⟨262143, false, []⟩, ⟨524287, false, []⟩])] : List (Nat × List Ri)) l).getD [], fun l => lk ([(1, 8)] : List (Nat × Nat)) l, fun l => lk ([(0, [0, 1, 2, 3]), (1, [8])] : List (Nat × List Nat)) l⟩
noncomputable def g_impl_ValidDeal_1 (x : (Bool × (Int × (Int × (Int × Unit))))) : Option (Bool × Unit) :=
  rgd.jn (
      rgd.br x.1
        (rgd.bnd (decide (x.2.1 ≥ x.2.2.1)) fun y1 =>
        rgd.br y1
          (rgd.bnd (decide (x.2.1 ≤ x.2.2.2.1)) fun y2 =>
          rgd.br y2
            (some true)
            (rgd.bnd (!x.1) fun y3 =>
            rgd.br y3
              (rgd.bnd (decide (x.2.1 = (0 : Int))) fun y4 =>
              some y4)
              (some false)))
          (rgd.bnd (!x.1) fun y5 =>
          rgd.br y5
            (rgd.bnd (decide (x.2.1 = (0 : Int))) fun y6 =>
            some y6)
            (some false)))
        (rgd.bnd (!x.1) fun y7 =>
        rgd.br y7
          (rgd.bnd (decide (x.2.1 = (0 : Int))) fun y8 =>
          some y8)
          (some false))) fun b0 =>
  some (b0, ())
noncomputable def ent_impl_ValidDeal_1 : Ent := ⟨pars_impl_ValidDeal_1, rsh_impl_ValidDeal_1, g_impl_ValidDeal_1, none⟩
noncomputable def E_impl_ValidDeal_1 (f : Nat) : Option Ent := lk ([] : List (Nat × Ent)) f
theorem q_impl_ValidDeal_1 : vfun rgd Tf E_impl_ValidDeal_1 an_impl_ValidDeal_1 28 pars_impl_ValidDeal_1 [(.tmp 8)] rsh_impl_ValidDeal_1 (Try.f98.body.getD .skip) = g_impl_ValidDeal_1 := by kernel_rfl
theorem h_impl_ValidDeal_1 : Holds Try.prog 98 ent_impl_ValidDeal_1 ∧ Callable Try.prog 98 :=
  fn_ok tok mixed (E := E_impl_ValidDeal_1) EOk_nil Try.func98 (by kernel_rfl) (by kernel_rfl) (rs := [(.tmp 8)]) (by kernel_rfl) (by kernel_rfl) (by kernel_rfl) q_impl_ValidDeal_1
/- loop.example/g01263/impl.uses -/
def pars_impl_uses : List (Nat × TSh) := [(0, (.sc true (.int .i8)))]
def rsh_impl_uses : Sh := ⟨[(0, (.sc true .bool)), (1, (.sc true .bool)), (2, (.sc true .bool)), (3, (.sc true .bool))], [], 0⟩
def an_impl_uses : An := ⟨fun l => (lk ([] : List (Nat × Sh)) l).getD noSh, fun l => (lk ([] : List (Nat × List Ri)) l).getD [], fun l => lk ([] : List (Nat × Nat)) l, fun l => lk ([(0, [0]), (1, [6]), (2, [6, 7]), (3, [2, 3, 4, 5]), (4, [6, 9]), (5, [2, 3, 4, 5]), (6, [11]), (7, [2, 3, 4, 5]), (8, [2, 3, 4, 5])] : List (Nat × List Nat)) l⟩
noncomputable def g_impl_uses (x : (Int × Unit)) : Option (Bool × (Bool × (Bool × (Bool × Unit)))) :=
  rgd.bnd (decide (x.1 = (1 : Int))) fun y0 =>
  rgd.br y0
    (some (false, (true, (true, (true, ())))))
    (rgd.bnd (decide (x.1 = (2 : Int))) fun y1 =>
    rgd.br y1
      (some (true, (true, (true, (false, ())))))
      (rgd.bnd (decide (x.1 = (3 : Int))) fun y2 =>
      rgd.br y2
        (some (true, (false, (false, (true, ())))))
        (some (true, (true, (false, (false, ())))))))
noncomputable def ent_impl_uses : Ent := ⟨pars_impl_uses, rsh_impl_uses, g_impl_uses, none⟩
noncomputable def E_impl_uses (f : Nat) : Option Ent := lk ([] : List (Nat × Ent)) f
theorem q_impl_uses : vfun rgd Tf E_impl_uses an_impl_uses 13 pars_impl_uses [(.tmp 2), (.tmp 3), (.tmp 4), (.tmp 5)] rsh_impl_uses (Try.f99.body.getD .skip) = g_impl_uses := by kernel_rfl
theorem h_impl_uses : Holds Try.prog 99 ent_impl_uses ∧ Callable Try.prog 99 :=
  fn_ok tok mixed (E := E_impl_uses) EOk_nil Try.func99 (by kernel_rfl) (by kernel_rfl) (rs := [(.tmp 2), (.tmp 3), (.tmp 4), (.tmp 5)]) (by kernel_rfl) (by kernel_rfl) (by kernel_rfl) q_impl_uses
/- loop.example/g01263/impl.ValidDeal -/
def pars_impl_ValidDeal : List (Nat × TSh) := [(0, (.sc true (.pr (.int .i64) (.pr (.int .i8) (.pr (.int .i64) (.pr (.int .i64) (.pr (.int .i64) (.pr (.int .i64) .un))))))))]
def rsh_impl_ValidDeal : Sh := ⟨[(0, (.sc true .bool))], [], 0⟩
def an_impl_ValidDeal : An := ⟨fun l => (lk ([] : List (Nat × Sh)) l).getD noSh, fun l => (lk ([(1, [⟨0, false, []⟩, ⟨1, false, []⟩, ⟨3, false, []⟩, ⟨7, false, []⟩, ⟨15, false, []⟩, ⟨31, false, []⟩, ⟨63, false, []⟩, ⟨127, false, []⟩, ⟨255, false, []⟩, ⟨511, false, []⟩, ⟨1023, false, []⟩, ⟨2047, false, []⟩, ⟨4095, false, []⟩, ⟨8191, false, []⟩]), (5, [⟨0, false, []⟩, ⟨1, false, []⟩, ⟨3, false, []⟩, ⟨7, false, []⟩, ⟨15, false, []⟩, ⟨31, false, []⟩, ⟨63, false, []⟩, ⟨127, false, []⟩, ⟨255, false, []⟩, ⟨511, false, []⟩, ⟨1023, false, []⟩, ⟨2047, false, []⟩, ⟨4095, false, []⟩, ⟨8191, false, []⟩, ⟨16383, false, []⟩, ⟨32767, false, []⟩, ⟨65535, false, []⟩, ⟨131071, false, []⟩, ⟨262143, false, []⟩, ⟨524287, false, []⟩, ⟨1048575, false, []⟩, ⟨2097151, false, []⟩, ⟨4194303, false, []⟩, ⟨8388607, false, []⟩, ⟨16777215, false, []⟩, ⟨33554431, false, []⟩, ⟨67108863, false, []⟩])] : List (Nat × List Ri)) l).getD [], fun l => lk ([(1, 21), (5, 2)] : List (Nat × Nat)) l, fun l => lk ([(0, [1]), (1, [1, 21]), (2, [2]), (3, [1, 3]), (4, [1, 3, 4, 5, 6, 7]), (5, [2])] : List (Nat × List Nat)) l⟩
noncomputable def g_impl_ValidDeal (x : ((Int × (Int × (Int × (Int × (Int × (Int × Unit)))))) × Unit)) : Option (Bool × Unit) :=
  rgd.jn (
      rgd.bnd (decide (x.1.2.1 < (1 : Int))) fun y1 =>
      rgd.br y1
        (some true)
        (rgd.bnd (decide (x.1.2.1 > (4 : Int))) fun y2 =>
        rgd.br y2
          (some true)
          (rgd.cal (g_impl_isBookDay (x.1.1, ())) fun d3 =>
          rgd.bnd (!d3.1) fun y4 =>
          some y4))) fun b0 =>
  rgd.br b0
    (some (false, ()))
    (rgd.cal (g_impl_uses (x.1.2.1, ())) fun d5 =>
    rgd.jn (
        rgd.cal (g_impl_ValidDeal_1 (d5.1, (x.1.2.2.1, ((0 : Int), ((39 : Int), ()))))) fun d7 =>
        rgd.br d7.1
          (rgd.cal (g_impl_ValidDeal_1 (d5.2.1, (x.1.2.2.2.1, ((0 : Int), ((15 : Int), ()))))) fun d8 =>
          rgd.br d8.1
            (rgd.cal (g_impl_ValidDeal_1 (d5.2.2.1, (x.1.2.2.2.2.1, ((0 : Int), ((15 : Int), ()))))) fun d9 =>
            rgd.br d9.1
              (rgd.cal (g_impl_ValidDeal_1 (d5.2.2.2.1, (x.1.2.2.2.2.2.1, ((1 : Int), ((100000000 : Int), ()))))) fun d10 =>
              some d10.1)
              (some false))
            (some false))
          (some false)) fun b6 =>
    some (b6, ()))
noncomputable def ent_impl_ValidDeal : Ent := ⟨pars_impl_ValidDeal, rsh_impl_ValidDeal, g_impl_ValidDeal, none⟩
noncomputable def E_impl_ValidDeal (f : Nat) : Option Ent := lk ([(83, ent_impl_isBookDay), (98, ent_impl_ValidDeal_1), (99, ent_impl_uses)] : List (Nat × Ent)) f
theorem q_impl_ValidDeal : vfun rgd Tf E_impl_ValidDeal an_impl_ValidDeal 56 pars_impl_ValidDeal [(.tmp 2)] rsh_impl_ValidDeal (Try.f48.body.getD .skip) = g_impl_ValidDeal := by kernel_rfl
theorem h_impl_ValidDeal : Holds Try.prog 48 ent_impl_ValidDeal ∧ Callable Try.prog 48 :=
  fn_ok tok mixed (E := E_impl_ValidDeal) (EOk_add h_impl_isBookDay (EOk_add h_impl_ValidDeal_1 (EOk_add h_impl_uses EOk_nil))) Try.func48 (by kernel_rfl) (by kernel_rfl) (rs := [(.tmp 2)]) (by kernel_rfl) (by kernel_rfl) (by kernel_rfl) q_impl_ValidDeal
/- loop.example/g01263/impl.areDeals -/
def pars_impl_areDeals : List (Nat × TSh) := [(0, (.sc true (.sl 71 (.pr (.int .i64) (.pr (.int .i8) (.pr (.int .i64) (.pr (.int .i64) (.pr (.int .i64) (.pr (.int .i64) .un)))))))))]
def rsh_impl_areDeals : Sh := ⟨[(0, (.sc true .bool))], [], 0⟩
def an_impl_areDeals : An := ⟨fun l => (lk ([(2, ⟨[(5, (.sc true (.sl 71 (.pr (.int .i64) (.pr (.int .i8) (.pr (.int .i64) (.pr (.int .i64) (.pr (.int .i64) (.pr (.int .i64) .un))))))))), (6, (.sc true (.int .i64))), (7, (.sc true (.int .i64)))], [], 0⟩)] : List (Nat × Sh)) l).getD noSh, fun l => (lk ([] : List (Nat × List Ri)) l).getD [], fun l => lk ([] : List (Nat × Nat)) l, fun l => lk ([(0, [0]), (1, [5, 6, 7]), (2, [5, 6, 7, 8]), (3, [4, 5, 6, 7]), (4, [5, 6, 7, 13]), (5, [2]), (6, [5, 6, 7]), (7, [2])] : List (Nat × List Nat)) l⟩
noncomputable def g_impl_areDeals (x : ((List (Int × (Int × (Int × (Int × (Int × (Int × Unit))))))) × Unit)) : Option (Bool × Unit) :=
  rgd.bnd (x.1.length : Int) fun y0 =>
  rgd.lop (fun (s1 : ((List (Int × (Int × (Int × (Int × (Int × (Int × Unit))))))) × (Int × (Int × Unit)))) =>
    rgd.bnd (decide (s1.2.2.1 < s1.2.1)) fun y2 =>
    rgd.br y2
      (rgd.chk (decide ((0 : Int) ≤ s1.2.2.1 ∧ s1.2.2.1 < (s1.1.length : Int))) <|
      rgd.bnd (s1.1.getD s1.2.2.1.toNat (dz kd_impl_Deal)) fun y3 =>
      rgd.cal (g_impl_ValidDeal (y3, ())) fun d4 =>
      rgd.bnd (!d4.1) fun y5 =>
      rgd.br y5
        (rgd.out (
          some (false, ())))
        (rgd.bnd (Go.IntKind.wrap .i64 (s1.2.2.1 + (1 : Int))) fun y6 =>
        some (.inl (s1.1, (s1.2.1, (y6, ()))))))
      (rgd.out (
        some (true, ())))) (x.1, (y0, ((0 : Int), ())))
noncomputable def ent_impl_areDeals : Ent := ⟨pars_impl_areDeals, rsh_impl_areDeals, g_impl_areDeals, none⟩
noncomputable def E_impl_areDeals (f : Nat) : Option Ent := lk ([(48, ent_impl_ValidDeal)] : List (Nat × Ent)) f
theorem q_impl_areDeals : vfun rgd Tf E_impl_areDeals an_impl_areDeals 15 pars_impl_areDeals [(.tmp 2)] rsh_impl_areDeals (Try.f111.body.getD .skip) = g_impl_areDeals := by kernel_rfl
theorem h_impl_areDeals : Holds Try.prog 111 ent_impl_areDeals ∧ Callable Try.prog 111 :=
  fn_ok tok mixed (E := E_impl_areDeals) (EOk_add h_impl_ValidDeal EOk_nil) Try.func111 (by kernel_rfl) (by kernel_rfl) (rs := [(.tmp 2)]) (by kernel_rfl) (by kernel_rfl) (by kernel_rfl) q_impl_areDeals
/- loop.example/g01263/impl.dealsCode -/
def pars_impl_dealsCode : List (Nat × TSh) := [(0, (.sc true (.pr (.int .i64) (.pr (.sl 2 (.int .i64)) (.pr (.sl 83 (.pr (.int .i64) (.pr (.int .i64) (.pr (.int .i64) (.pr (.int .i64) (.pr (.int .i64) .un)))))) .un))))), (1, (.sc true (.sl 71 (.pr (.int .i64) (.pr (.int .i8) (.pr (.int .i64) (.pr (.int .i64) (.pr (.int .i64) (.pr (.int .i64) .un)))))))))]
def rsh_impl_dealsCode : Sh := ⟨[(0, (.sc true (.int .i64)))], [], 0⟩
def an_impl_dealsCode : An := ⟨fun l => (lk ([] : List (Nat × Sh)) l).getD noSh, fun l => (lk ([(1, [⟨0, false, []⟩, ⟨1, false, []⟩, ⟨3, false, []⟩, ⟨7, false, []⟩, ⟨15, false, []⟩, ⟨31, false, []⟩, ⟨63, false, []⟩, ⟨127, false, []⟩, ⟨255, false, []⟩])] : List (Nat × List Ri)) l).getD [], fun l => lk ([(1, 5)] : List (Nat × Nat)) l, fun l => lk ([(0, [1, 2]), (1, [1, 5]), (2, [4]), (3, [14]), (4, [4]), (5, [4])] : List (Nat × List Nat)) l⟩
noncomputable def g_impl_dealsCode (x : ((Int × ((List Int) × ((List (Int × (Int × (Int × (Int × (Int × Unit)))))) × Unit))) × ((List (Int × (Int × (Int × (Int × (Int × (Int × Unit))))))) × Unit))) : Option (Int × Unit) :=
  rgd.jn (
      rgd.cal (g_impl_ValidBook (x.1, ())) fun d1 =>
      rgd.bnd (!d1.1) fun y2 =>
      rgd.br y2
        (some true)
        (rgd.cal (g_impl_areDeals (x.2.1, ())) fun d3 =>
        rgd.bnd (!d3.1) fun y4 =>
        some y4)) fun b0 =>
  rgd.br b0
    (some ((1 : Int), ()))
    (rgd.bnd (x.2.1.length : Int) fun y5 =>
    rgd.bnd (decide (y5 > (80 : Int))) fun y6 =>
    rgd.br y6
      (some ((3 : Int), ()))
      (some ((0 : Int), ())))
noncomputable def ent_impl_dealsCode : Ent := ⟨pars_impl_dealsCode, rsh_impl_dealsCode, g_impl_dealsCode, none⟩
noncomputable def E_impl_dealsCode (f : Nat) : Option Ent := lk ([(44, ent_impl_ValidBook), (111, ent_impl_areDeals)] : List (Nat × Ent)) f
theorem q_impl_dealsCode : vfun rgd Tf E_impl_dealsCode an_impl_dealsCode 18 pars_impl_dealsCode [(.tmp 4)] rsh_impl_dealsCode (Try.f68.body.getD .skip) = g_impl_dealsCode := by kernel_rfl
theorem h_impl_dealsCode : Holds Try.prog 68 ent_impl_dealsCode ∧ Callable Try.prog 68 :=
  fn_ok tok mixed (E := E_impl_dealsCode) (EOk_add h_impl_ValidBook (EOk_add h_impl_areDeals EOk_nil)) Try.func68 (by kernel_rfl) (by kernel_rfl) (rs := [(.tmp 4)]) (by kernel_rfl) (by kernel_rfl) (by kernel_rfl) q_impl_dealsCode
/- slices.Clone[[]int64,int64] -/
def pars_slices_Clone_int64 : List (Nat × TSh) := [(0, (.sc true (.sl 2 (.int .i64))))]
def rsh_slices_Clone_int64 : Sh := ⟨[(0, (.al 0))], [(0, (.ls 2 (.int .i64) true))], 1⟩
def an_slices_Clone_int64 : An := ⟨fun l => (lk ([] : List (Nat × Sh)) l).getD noSh, fun l => (lk ([] : List (Nat × List Ri)) l).getD [], fun l => lk ([] : List (Nat × Nat)) l, fun l => lk ([(0, [0]), (1, [0, 4]), (2, [2]), (3, [2])] : List (Nat × List Nat)) l⟩
noncomputable def g_slices_Clone_int64 (x : ((List Int) × Unit)) : Option ((List Int) × Unit) :=
  rgd.br x.1.isEmpty
    (rgd.amb
      (some ([], ()))
      (rgd.chk (decide ((x.1.length : Int) ≤ (1073741824 : Int))) <|
      rgd.bnd x.1 fun y0 =>
      some (y0, ())))
    (rgd.chk (decide ((x.1.length : Int) ≤ (1073741824 : Int))) <|
    rgd.bnd x.1 fun y1 =>
    some (y1, ()))
noncomputable def ent_slices_Clone_int64 : Ent := ⟨pars_slices_Clone_int64, rsh_slices_Clone_int64, g_slices_Clone_int64, none⟩
noncomputable def E_slices_Clone_int64 (f : Nat) : Option Ent := lk ([] : List (Nat × Ent)) f
theorem q_slices_Clone_int64 : vfun rgd Tf E_slices_Clone_int64 an_slices_Clone_int64 8 pars_slices_Clone_int64 [(.tmp 2)] rsh_slices_Clone_int64 (Try.f126.body.getD .skip) = g_slices_Clone_int64 := by kernel_rfl
theorem h_slices_Clone_int64 : Holds Try.prog 126 ent_slices_Clone_int64 ∧ Callable Try.prog 126 :=
  fn_ok tok mixed (E := E_slices_Clone_int64) EOk_nil Try.func126 (by kernel_rfl) (by kernel_rfl) (rs := [(.tmp 2)]) (by kernel_rfl) (by kernel_rfl) (by kernel_rfl) q_slices_Clone_int64
/- slices.Clone[[]loop.example/g01263/impl.Tally,loop.example/g01263/impl.Tally] -/
def pars_slices_Clone_impl_Tally : List (Nat × TSh) := [(0, (.sc true (.sl 83 (.pr (.int .i64) (.pr (.int .i64) (.pr (.int .i64) (.pr (.int .i64) (.pr (.int .i64) .un))))))))]
def rsh_slices_Clone_impl_Tally : Sh := ⟨[(0, (.al 0))], [(0, (.ls 83 (.pr (.int .i64) (.pr (.int .i64) (.pr (.int .i64) (.pr (.int .i64) (.pr (.int .i64) .un))))) true))], 1⟩
def an_slices_Clone_impl_Tally : An := ⟨fun l => (lk ([] : List (Nat × Sh)) l).getD noSh, fun l => (lk ([] : List (Nat × List Ri)) l).getD [], fun l => lk ([] : List (Nat × Nat)) l, fun l => lk ([(0, [0]), (1, [0, 4]), (2, [2]), (3, [2])] : List (Nat × List Nat)) l⟩
noncomputable def g_slices_Clone_impl_Tally (x : ((List (Int × (Int × (Int × (Int × (Int × Unit)))))) × Unit)) : Option ((List (Int × (Int × (Int × (Int × (Int × Unit)))))) × Unit) :=
  rgd.br x.1.isEmpty
    (rgd.amb
      (some ([], ()))
      (rgd.chk (decide ((x.1.length : Int) ≤ (1073741824 : Int))) <|
      rgd.bnd x.1 fun y0 =>
      some (y0, ())))
    (rgd.chk (decide ((x.1.length : Int) ≤ (1073741824 : Int))) <|
    rgd.bnd x.1 fun y1 =>
    some (y1, ()))
noncomputable def ent_slices_Clone_impl_Tally : Ent := ⟨pars_slices_Clone_impl_Tally, rsh_slices_Clone_impl_Tally, g_slices_Clone_impl_Tally, none⟩
noncomputable def E_slices_Clone_impl_Tally (f : Nat) : Option Ent := lk ([] : List (Nat × Ent)) f
theorem q_slices_Clone_impl_Tally : vfun rgd Tf E_slices_Clone_impl_Tally an_slices_Clone_impl_Tally 8 pars_slices_Clone_impl_Tally [(.tmp 2)] rsh_slices_Clone_impl_Tally (Try.f127.body.getD .skip) = g_slices_Clone_impl_Tally := by kernel_rfl
theorem h_slices_Clone_impl_Tally : Holds Try.prog 127 ent_slices_Clone_impl_Tally ∧ Callable Try.prog 127 :=
  fn_ok tok mixed (E := E_slices_Clone_impl_Tally) EOk_nil Try.func127 (by kernel_rfl) (by kernel_rfl) (rs := [(.tmp 2)]) (by kernel_rfl) (by kernel_rfl) (by kernel_rfl) q_slices_Clone_impl_Tally
/- loop.example/g01263/impl.ownBook -/
def pars_impl_ownBook : List (Nat × TSh) := [(0, (.sc true (.pr (.int .i64) (.pr (.sl 2 (.int .i64)) (.pr (.sl 83 (.pr (.int .i64) (.pr (.int .i64) (.pr (.int .i64) (.pr (.int .i64) (.pr (.int .i64) .un)))))) .un)))))]
def rsh_impl_ownBook : Sh := ⟨[(0, (.pr (.sc true (.int .i64)) (.pr (.al 0) (.pr (.al 1) .un))))], [(0, (.ls 2 (.int .i64) true)), (1, (.ls 83 (.pr (.int .i64) (.pr (.int .i64) (.pr (.int .i64) (.pr (.int .i64) (.pr (.int .i64) .un))))) true))], 2⟩
def an_impl_ownBook : An := ⟨fun l => (lk ([] : List (Nat × Sh)) l).getD noSh, fun l => (lk ([] : List (Nat × List Ri)) l).getD [], fun l => lk ([] : List (Nat × Nat)) l, fun l => lk ([(0, [1, 2]), (1, [1, 2]), (2, [1, 2]), (3, [2])] : List (Nat × List Nat)) l⟩
noncomputable def g_impl_ownBook (x : ((Int × ((List Int) × ((List (Int × (Int × (Int × (Int × (Int × Unit)))))) × Unit))) × Unit)) : Option (Int × ((List Int) × ((List (Int × (Int × (Int × (Int × (Int × Unit)))))) × Unit))) :=
  rgd.cal (g_slices_Clone_int64 (x.1.2.1, ())) fun d0 =>
  rgd.cal (g_slices_Clone_impl_Tally (x.1.2.2.1, ())) fun d1 =>
  some (x.1.1, (d0.1, (d1.1, ())))
noncomputable def ent_impl_ownBook : Ent := ⟨pars_impl_ownBook, rsh_impl_ownBook, g_impl_ownBook, none⟩
noncomputable def E_impl_ownBook (f : Nat) : Option Ent := lk ([(126, ent_slices_Clone_int64), (127, ent_slices_Clone_impl_Tally)] : List (Nat × Ent)) f
theorem q_impl_ownBook : vfun rgd Tf E_impl_ownBook an_impl_ownBook 12 pars_impl_ownBook [(.cell 2 35)] rsh_impl_ownBook (Try.f114.body.getD .skip) = g_impl_ownBook := by kernel_rfl
theorem h_impl_ownBook : Holds Try.prog 114 ent_impl_ownBook ∧ Callable Try.prog 114 :=
  fn_ok tok mixed (E := E_impl_ownBook) (EOk_add h_slices_Clone_int64 (EOk_add h_slices_Clone_impl_Tally EOk_nil)) Try.func114 (by kernel_rfl) (by kernel_rfl) (rs := [(.cell 2 35)]) (by kernel_rfl) (by kernel_rfl) (by kernel_rfl) q_impl_ownBook
/- loop.example/g01263/impl.do -/
def pars_impl_do : List (Nat × TSh) := [(0, (.sc true (.pr (.int .i64) (.pr (.sl 2 (.int .i64)) (.pr (.sl 83 (.pr (.int .i64) (.pr (.int .i64) (.pr (.int .i64) (.pr (.int .i64) (.pr (.int .i64) .un)))))) .un))))), (1, (.sc true (.pr (.int .i64) (.pr (.int .i8) (.pr (.int .i64) (.pr (.int .i64) (.pr (.int .i64) (.pr (.int .i64) .un))))))))]
def rsh_impl_do : Sh := ⟨[(0, (.pr (.sc true (.int .i64)) (.pr (.al 0) (.pr (.al 1) .un)))), (1, (.sc true (.int .i64)))], [(0, (.ls 2 (.int .i64) true)), (1, (.ls 83 (.pr (.int .i64) (.pr (.int .i64) (.pr (.int .i64) (.pr (.int .i64) (.pr (.int .i64) .un))))) true))], 2⟩
def an_impl_do : An := ⟨fun l => (lk ([] : List (Nat × Sh)) l).getD noSh, fun l => (lk ([(5, [⟨0, false, []⟩, ⟨1, false, []⟩, ⟨3, false, []⟩, ⟨7, false, []⟩, ⟨15, false, []⟩, ⟨31, false, []⟩, ⟨63, false, []⟩, ⟨127, false, []⟩, ⟨255, false, []⟩, ⟨511, false, []⟩, ⟨1023, false, []⟩, ⟨2047, false, []⟩, ⟨4095, false, []⟩, ⟨8191, false, []⟩, ⟨16383, false, []⟩, ⟨32767, false, []⟩, ⟨65535, false, []⟩, ⟨131071, false, []⟩, ⟨262143, false, []⟩, ⟨524287, false, []⟩, ⟨1048575, false, []⟩, ⟨2097151, false, []⟩, ⟨4194303, false, []⟩, ⟨8388607, false, []⟩, ⟨16777215, false, []⟩, ⟨33554431, false, []⟩, ⟨67108863, false, []⟩]), (7, [⟨0, false, []⟩, ⟨1, false, []⟩, ⟨3, false, []⟩, ⟨7, false, []⟩, ⟨15, false, []⟩, ⟨31, false, []⟩, ⟨63, false, []⟩, ⟨127, false, []⟩, ⟨255, false, []⟩, ⟨511, false, []⟩, ⟨1023, false, []⟩]), (17, [⟨0, false, []⟩, ⟨1, false, []⟩, ⟨3, false, [108, 109, 110, 111]⟩, ⟨7, false, [108, 109, 110, 111]⟩, ⟨3, false, [106, 107]⟩, ⟨19, false, [106, 107]⟩, ⟨51, false, [106, 107]⟩, ⟨115, false, [106, 107]⟩, ⟨255, false, []⟩, ⟨511, false, []⟩, ⟨1023, false, []⟩, ⟨2047, false, []⟩, ⟨4095, false, []⟩, ⟨8191, false, []⟩, ⟨16383, false, []⟩, ⟨32767, false, []⟩, ⟨65535, false, []⟩, ⟨131071, false, []⟩, ⟨262143, false, []⟩, ⟨524287, false, []⟩, ⟨1048575, false, []⟩, ⟨2097151, false, []⟩, ⟨4194303, false, [128, 129, 130, 131]⟩, ⟨8388607, false, [128, 129, 130, 131]⟩, ⟨4194303, false, [126, 127]⟩, ⟨20971519, false, [126, 127]⟩, ⟨54525951, false, [126, 127]⟩, ⟨121634815, false, [126, 127]⟩, ⟨268435455, false, []⟩, ⟨536870911, false, []⟩, ⟨1073741823, false, []⟩]), (22, [⟨0, false, [147, 148, 149, 150]⟩, ⟨1, false, [147, 148, 149, 150]⟩, ⟨0, false, [145, 146]⟩, ⟨4, false, [145, 146]⟩, ⟨12, false, [145, 146]⟩, ⟨28, false, [145, 146]⟩, ⟨63, true, []⟩]), (25, [⟨0, false, [159, 160, 161, 162, 165, 166]⟩, ⟨1, false, [159, 160, 161, 162, 165, 166]⟩, ⟨0, false, [157, 158, 165, 166]⟩, ⟨4, false, [157, 158, 165, 166]⟩, ⟨12, false, [157, 158, 165, 166]⟩, ⟨28, false, [157, 158, 165, 166]⟩, ⟨63, false, [165, 166]⟩, ⟨127, false, [165, 166]⟩, ⟨0, false, [157, 158, 159, 160, 161, 162, 163, 164]⟩, ⟨256, false, [157, 158, 159, 160, 161, 162, 163, 164]⟩, ⟨1023, true, []⟩]), (27, [⟨0, false, [171, 172, 173, 174, 177, 178]⟩, ⟨1, false, [171, 172, 173, 174, 177, 178]⟩, ⟨0, false, [169, 170, 177, 178]⟩, ⟨4, false, [169, 170, 177, 178]⟩, ⟨12, false, [169, 170, 177, 178]⟩, ⟨28, false, [169, 170, 177, 178]⟩, ⟨63, false, [177, 178]⟩, ⟨127, false, [177, 178]⟩, ⟨0, false, [169, 170, 171, 172, 173, 174, 175, 176]⟩, ⟨256, false, [169, 170, 171, 172, 173, 174, 175, 176]⟩, ⟨1023, true, []⟩, ⟨2047, true, []⟩, ⟨4095, true, []⟩]), (28, [⟨0, false, [183, 184, 185, 186, 189, 190]⟩, ⟨1, false, [183, 184, 185, 186, 189, 190]⟩, ⟨0, false, [181, 182, 189, 190]⟩, ⟨4, false, [181, 182, 189, 190]⟩, ⟨12, false, [181, 182, 189, 190]⟩, ⟨28, false, [181, 182, 189, 190]⟩, ⟨63, false, [189, 190]⟩, ⟨127, false, [189, 190]⟩, ⟨0, false, [181, 182, 183, 184, 185, 186, 187, 188]⟩, ⟨256, false, [181, 182, 183, 184, 185, 186, 187, 188]⟩, ⟨1023, true, []⟩, ⟨2047, true, []⟩, ⟨4095, true, []⟩]), (29, [⟨0, false, [197, 198]⟩, ⟨1, false, [197, 198]⟩, ⟨3, false, [197, 198]⟩, ⟨7, false, [197, 198]⟩, ⟨0, false, [193, 194, 195, 196]⟩, ⟨16, false, [193, 194, 195, 196]⟩, ⟨63, true, []⟩, ⟨127, true, []⟩, ⟨255, true, []⟩, ⟨511, true, []⟩]), (30, [⟨0, false, [204, 205, 206, 207]⟩, ⟨1, false, [204, 205, 206, 207]⟩, ⟨0, false, [202, 203]⟩, ⟨4, false, [202, 203]⟩, ⟨12, false, [202, 203]⟩, ⟨28, false, [202, 203]⟩, ⟨63, true, []⟩, ⟨127, true, []⟩, ⟨255, true, []⟩])] : List (Nat × List Ri)) l).getD [], fun l => lk ([(5, 55), (7, 67), (17, 134)] : List (Nat × Nat)) l, fun l => lk ([(0, [2, 3, 4]), (1, [2, 3, 4, 16]), (2, [4, 5]), (3, [2, 3, 4, 6, 7, 8]), (4, [2, 3, 4, 6, 7, 8, 10]), (5, [2, 3, 4, 7, 8, 55]), (6, [4, 5]), (7, [2, 3, 4, 7, 67]), (8, [4, 5]), (9, [2, 3, 4, 7]), (10, [2, 3, 4, 7]), (11, [2, 3, 4, 7, 76]), (12, [2, 3, 4, 80]), (13, [4, 5]), (14, [2, 4]), (15, [4, 5]), (16, [2, 3, 4, 7, 11]), (17, [2, 3, 4, 11, 134]), (18, [4, 5]), (19, [2, 3, 4, 11, 137]), (20, [2, 3, 4, 11, 137, 138]), (21, [2, 3, 4, 11]), (22, [2, 4, 11, 151]), (23, [2, 4]), (24, [2, 3, 4, 11, 137, 155]), (25, [2, 3, 4, 11, 167]), (26, [4, 5]), (27, [2, 3, 4, 11]), (28, [2, 3, 4, 11]), (29, [2, 4, 11]), (30, [2, 4, 210]), (31, [4, 5]), (32, [2, 4, 11, 212]), (33, [2, 4]), (34, [4, 5])] : List (Nat × List Nat)) l⟩
noncomputable def g_impl_do (x : ((Int × ((List Int) × ((List (Int × (Int × (Int × (Int × (Int × Unit)))))) × Unit))) × ((Int × (Int × (Int × (Int × (Int × (Int × Unit)))))) × Unit))) : Option (Int × (Int × ((List Int) × ((List (Int × (Int × (Int × (Int × (Int × Unit)))))) × Unit)))) :=
  rgd.bnd (decide (x.2.1.1 < x.1.1)) fun y0 =>
  rgd.br y0
    (some ((dz (.int .i64)), ((4 : Int), ([], ([], ())))))
    (rgd.cal (g_impl_uses (x.2.1.2.1, ())) fun d1 =>
    rgd.bnd (x.1.2.1.length : Int) fun y2 =>
    rgd.jn (
        rgd.br d1.2.1
          (rgd.bnd (decide (x.2.1.2.2.2.1 ≥ y2)) fun y4 =>
          rgd.br y4
            (some true)
            (rgd.br d1.2.2.1
              (rgd.bnd (decide (x.2.1.2.2.2.2.1 ≥ y2)) fun y5 =>
              rgd.br y5
                (some true)
                (rgd.br d1.1
                  (rgd.bnd (x.1.2.2.1.length : Int) fun y6 =>
                  rgd.bnd (decide (x.2.1.2.2.1 ≥ y6)) fun y7 =>
                  some y7)
                  (some false)))
              (rgd.br d1.1
                (rgd.bnd (x.1.2.2.1.length : Int) fun y8 =>
                rgd.bnd (decide (x.2.1.2.2.1 ≥ y8)) fun y9 =>
                some y9)
                (some false))))
          (rgd.br d1.2.2.1
            (rgd.bnd (decide (x.2.1.2.2.2.2.1 ≥ y2)) fun y10 =>
            rgd.br y10
              (some true)
              (rgd.br d1.1
                (rgd.bnd (x.1.2.2.1.length : Int) fun y11 =>
                rgd.bnd (decide (x.2.1.2.2.1 ≥ y11)) fun y12 =>
                some y12)
                (some false)))
            (rgd.br d1.1
              (rgd.bnd (x.1.2.2.1.length : Int) fun y13 =>
              rgd.bnd (decide (x.2.1.2.2.1 ≥ y13)) fun y14 =>
              some y14)
              (some false)))) fun b3 =>
    rgd.br b3
      (some ((dz (.int .i64)), ((2 : Int), ([], ([], ())))))
      (rgd.jn (
          rgd.br d1.2.1
            (rgd.br d1.2.2.1
              (rgd.bnd (decide (x.2.1.2.2.2.1 = x.2.1.2.2.2.2.1)) fun y16 =>
              some y16)
              (some false))
            (some false)) fun b15 =>
      rgd.br b15
        (some ((dz (.int .i64)), ((4 : Int), ([], ([], ())))))
        (rgd.cal (g_impl_ownBook (x.1, ())) fun d17 =>
        rgd.bnd (decide (x.2.1.2.1 = (1 : Int))) fun y18 =>
        rgd.br y18
          (rgd.bnd (d17.2.2.1.length : Int) fun y19 =>
          rgd.bnd (decide (y19 = (40 : Int))) fun y20 =>
          rgd.br y20
            (some ((dz (.int .i64)), ((3 : Int), ([], ([], ())))))
            (rgd.bnd ((x.2.1.2.2.2.1, (x.2.1.2.2.2.2.1, (x.2.1.1, (x.2.1.2.2.2.2.2.1, (x.2.1.2.2.2.2.2.1, ()))))) :: []) fun y21 =>
            rgd.chk (decide (((d17.2.2.1.length : Int) + (y21.length : Int)) ≤ (1073741824 : Int))) <|
            rgd.bnd (d17.2.2.1 ++ y21) fun y22 =>
            some (x.2.1.1, ((0 : Int), (d17.2.1, (y22, ()))))))
          (rgd.chk (decide ((0 : Int) ≤ x.2.1.2.2.1 ∧ x.2.1.2.2.1 < (d17.2.2.1.length : Int))) <|
          rgd.jn (
              rgd.br d1.2.1
                (rgd.bnd (decide (x.2.1.2.2.2.1 ≠ (d17.2.2.1.getD x.2.1.2.2.1.toNat (dz kd_impl_Tally)).2.1)) fun y24 =>
                rgd.br y24
                  (some true)
                  (rgd.bnd (decide ((d17.2.2.1.getD x.2.1.2.2.1.toNat (dz kd_impl_Tally)).2.2.2.2.1 = (0 : Int))) fun y25 =>
                  rgd.br y25
                    (some true)
                    (rgd.bnd (decide (x.2.1.2.1 = (3 : Int))) fun y26 =>
                    rgd.br y26
                      (rgd.bnd (decide (x.2.1.2.2.2.2.2.1 > (d17.2.2.1.getD x.2.1.2.2.1.toNat (dz kd_impl_Tally)).2.2.2.2.1)) fun y27 =>
                      some y27)
                      (some false))))
                (rgd.bnd (decide ((d17.2.2.1.getD x.2.1.2.2.1.toNat (dz kd_impl_Tally)).2.2.2.2.1 = (0 : Int))) fun y28 =>
                rgd.br y28
                  (some true)
                  (rgd.bnd (decide (x.2.1.2.1 = (3 : Int))) fun y29 =>
                  rgd.br y29
                    (rgd.bnd (decide (x.2.1.2.2.2.2.2.1 > (d17.2.2.1.getD x.2.1.2.2.1.toNat (dz kd_impl_Tally)).2.2.2.2.1)) fun y30 =>
                    some y30)
                    (some false)))) fun b23 =>
          rgd.br b23
            (some ((dz (.int .i64)), ((4 : Int), ([], ([], ())))))
            (rgd.bnd (decide (x.2.1.2.1 = (2 : Int))) fun y31 =>
            rgd.br y31
              (rgd.bnd (d17.2.2.1.set x.2.1.2.2.1.toNat ((d17.2.2.1.getD x.2.1.2.2.1.toNat (dz kd_impl_Tally)).1, (x.2.1.2.2.2.2.1, (d17.2.2.1.getD x.2.1.2.2.1.toNat (dz kd_impl_Tally)).2.2))) fun y32 =>
              rgd.bnd (decide (x.2.1.2.2.2.2.1 = (y32.getD x.2.1.2.2.1.toNat (dz kd_impl_Tally)).1)) fun y33 =>
              rgd.br y33
                (rgd.bnd (y32.set x.2.1.2.2.1.toNat ((y32.getD x.2.1.2.2.1.toNat (dz kd_impl_Tally)).1, ((y32.getD x.2.1.2.2.1.toNat (dz kd_impl_Tally)).2.1, ((y32.getD x.2.1.2.2.1.toNat (dz kd_impl_Tally)).2.2.1, ((y32.getD x.2.1.2.2.1.toNat (dz kd_impl_Tally)).2.2.2.1, ((0 : Int), (y32.getD x.2.1.2.2.1.toNat (dz kd_impl_Tally)).2.2.2.2.2)))))) fun y34 =>
                some (x.2.1.1, ((0 : Int), (d17.2.1, (y34, ())))))
                (some (x.2.1.1, ((0 : Int), (d17.2.1, (y32, ()))))))
              (rgd.bnd (decide (x.2.1.2.1 = (3 : Int))) fun y35 =>
              rgd.br y35
                (rgd.chk (decide ((0 : Int) ≤ (d17.2.2.1.getD x.2.1.2.2.1.toNat (dz kd_impl_Tally)).1 ∧ (d17.2.2.1.getD x.2.1.2.2.1.toNat (dz kd_impl_Tally)).1 < (d17.2.1.length : Int))) <|
                rgd.bnd (decide ((d17.2.1.getD (d17.2.2.1.getD x.2.1.2.2.1.toNat (dz kd_impl_Tally)).1.toNat (dz (.int .i64))) < x.2.1.2.2.2.2.2.1)) fun y36 =>
                rgd.br y36
                  (some ((dz (.int .i64)), ((8 : Int), ([], ([], ())))))
                  (rgd.chk (decide ((0 : Int) ≤ (d17.2.2.1.getD x.2.1.2.2.1.toNat (dz kd_impl_Tally)).1 ∧ (d17.2.2.1.getD x.2.1.2.2.1.toNat (dz kd_impl_Tally)).1 < (d17.2.1.length : Int))) <|
                  rgd.bnd (Go.IntKind.wrap .i64 ((d17.2.1.getD (d17.2.2.1.getD x.2.1.2.2.1.toNat (dz kd_impl_Tally)).1.toNat (dz (.int .i64))) - x.2.1.2.2.2.2.2.1)) fun y37 =>
                  rgd.chk (decide ((0 : Int) ≤ (d17.2.2.1.getD x.2.1.2.2.1.toNat (dz kd_impl_Tally)).1 ∧ (d17.2.2.1.getD x.2.1.2.2.1.toNat (dz kd_impl_Tally)).1 < (d17.2.1.length : Int))) <|
                  rgd.bnd (d17.2.1.set (d17.2.2.1.getD x.2.1.2.2.1.toNat (dz kd_impl_Tally)).1.toNat y37) fun y38 =>
                  rgd.chk (decide ((0 : Int) ≤ (d17.2.2.1.getD x.2.1.2.2.1.toNat (dz kd_impl_Tally)).2.1 ∧ (d17.2.2.1.getD x.2.1.2.2.1.toNat (dz kd_impl_Tally)).2.1 < (y38.length : Int))) <|
                  rgd.bnd (Go.IntKind.wrap .i64 ((y38.getD (d17.2.2.1.getD x.2.1.2.2.1.toNat (dz kd_impl_Tally)).2.1.toNat (dz (.int .i64))) + x.2.1.2.2.2.2.2.1)) fun y39 =>
                  rgd.chk (decide ((0 : Int) ≤ (d17.2.2.1.getD x.2.1.2.2.1.toNat (dz kd_impl_Tally)).2.1 ∧ (d17.2.2.1.getD x.2.1.2.2.1.toNat (dz kd_impl_Tally)).2.1 < (y38.length : Int))) <|
                  rgd.bnd (y38.set (d17.2.2.1.getD x.2.1.2.2.1.toNat (dz kd_impl_Tally)).2.1.toNat y39) fun y40 =>
                  rgd.bnd (Go.IntKind.wrap .i64 ((d17.2.2.1.getD x.2.1.2.2.1.toNat (dz kd_impl_Tally)).2.2.2.2.1 - x.2.1.2.2.2.2.2.1)) fun y41 =>
                  rgd.bnd (d17.2.2.1.set x.2.1.2.2.1.toNat ((d17.2.2.1.getD x.2.1.2.2.1.toNat (dz kd_impl_Tally)).1, ((d17.2.2.1.getD x.2.1.2.2.1.toNat (dz kd_impl_Tally)).2.1, ((d17.2.2.1.getD x.2.1.2.2.1.toNat (dz kd_impl_Tally)).2.2.1, ((d17.2.2.1.getD x.2.1.2.2.1.toNat (dz kd_impl_Tally)).2.2.2.1, (y41, (d17.2.2.1.getD x.2.1.2.2.1.toNat (dz kd_impl_Tally)).2.2.2.2.2)))))) fun y42 =>
                  rgd.chk (decide ((0 : Int) ≤ (y42.getD x.2.1.2.2.1.toNat (dz kd_impl_Tally)).2.1 ∧ (y42.getD x.2.1.2.2.1.toNat (dz kd_impl_Tally)).2.1 < (y40.length : Int))) <|
                  rgd.bnd (decide ((y40.getD (y42.getD x.2.1.2.2.1.toNat (dz kd_impl_Tally)).2.1.toNat (dz (.int .i64))) > (100000000 : Int))) fun y43 =>
                  rgd.br y43
                    (some ((dz (.int .i64)), ((3 : Int), ([], ([], ())))))
                    (some (x.2.1.1, ((0 : Int), (y40, (y42, ())))))))
                (rgd.bnd (decide (x.2.1.2.1 = (4 : Int))) fun y44 =>
                rgd.br y44
                  (rgd.bnd (d17.2.2.1.set x.2.1.2.2.1.toNat ((d17.2.2.1.getD x.2.1.2.2.1.toNat (dz kd_impl_Tally)).1, ((d17.2.2.1.getD x.2.1.2.2.1.toNat (dz kd_impl_Tally)).2.1, ((d17.2.2.1.getD x.2.1.2.2.1.toNat (dz kd_impl_Tally)).2.2.1, ((d17.2.2.1.getD x.2.1.2.2.1.toNat (dz kd_impl_Tally)).2.2.2.1, ((0 : Int), (d17.2.2.1.getD x.2.1.2.2.1.toNat (dz kd_impl_Tally)).2.2.2.2.2)))))) fun y45 =>
                  some (x.2.1.1, ((0 : Int), (d17.2.1, (y45, ())))))
                  (some (x.2.1.1, ((0 : Int), (d17.2.1, (d17.2.2.1, ()))))))))))))
noncomputable def ent_impl_do : Ent := ⟨pars_impl_do, rsh_impl_do, g_impl_do, none⟩
noncomputable def E_impl_do (f : Nat) : Option Ent := lk ([(99, ent_impl_uses), (114, ent_impl_ownBook)] : List (Nat × Ent)) f
theorem q_impl_do : vfun rgd Tf E_impl_do an_impl_do 218 pars_impl_do [(.cell 4 35), (.tmp 5)] rsh_impl_do (Try.f94.body.getD .skip) = g_impl_do := by kernel_rfl
theorem h_impl_do : Holds Try.prog 94 ent_impl_do ∧ Callable Try.prog 94 :=
  fn_ok tok mixed (E := E_impl_do) (EOk_add h_impl_uses (EOk_add h_impl_ownBook EOk_nil)) Try.func94 (by kernel_rfl) (by kernel_rfl) (rs := [(.cell 4 35), (.tmp 5)]) (by kernel_rfl) (by kernel_rfl) (by kernel_rfl) q_impl_do
/- loop.example/g01263/impl.books -/
def pars_impl_books : List (Nat × TSh) := [(0, (.sc true (.pr (.int .i64) (.pr (.sl 2 (.int .i64)) (.pr (.sl 83 (.pr (.int .i64) (.pr (.int .i64) (.pr (.int .i64) (.pr (.int .i64) (.pr (.int .i64) .un)))))) .un))))), (1, (.sc true (.sl 71 (.pr (.int .i64) (.pr (.int .i8) (.pr (.int .i64) (.pr (.int .i64) (.pr (.int .i64) (.pr (.int .i64) .un)))))))))]
def rsh_impl_books : Sh := ⟨[(0, (.al 0)), (1, (.sc true (.int .i64)))], [(0, (.ls 35 (.pr (.int .i64) (.pr (.sl 2 (.int .i64)) (.pr (.sl 83 (.pr (.int .i64) (.pr (.int .i64) (.pr (.int .i64) (.pr (.int .i64) (.pr (.int .i64) .un)))))) .un))) true))], 1⟩
def an_impl_books : An := ⟨fun l => (lk ([(3, ⟨[(2, (.bp 0)), (6, (.al 1)), (12, (.sc true (.sl 71 (.pr (.int .i64) (.pr (.int .i8) (.pr (.int .i64) (.pr (.int .i64) (.pr (.int .i64) (.pr (.int .i64) .un))))))))), (13, (.sc true (.int .i64))), (14, (.sc true (.int .i64)))], [(0, (.bx (.pr (.sc true (.int .i64)) (.pr (.sc false (.sl 2 (.int .i64))) (.pr (.sc false (.sl 83 (.pr (.int .i64) (.pr (.int .i64) (.pr (.int .i64) (.pr (.int .i64) (.pr (.int .i64) .un))))))) .un))))), (1, (.ls 35 (.pr (.int .i64) (.pr (.sl 2 (.int .i64)) (.pr (.sl 83 (.pr (.int .i64) (.pr (.int .i64) (.pr (.int .i64) (.pr (.int .i64) (.pr (.int .i64) .un)))))) .un))) true))], 2⟩)] : List (Nat × Sh)) l).getD noSh, fun l => (lk ([] : List (Nat × List Ri)) l).getD [], fun l => lk ([] : List (Nat × Nat)) l, fun l => lk ([(0, [1, 2]), (1, [1, 2, 6]), (2, [2, 6, 12, 13, 14]), (3, [2, 6, 12, 13, 14, 15]), (4, [2, 6, 8, 12, 13, 14]), (5, [2, 6, 9, 10, 12, 13, 14]), (6, [2, 6, 9, 10, 12, 13, 14, 25]), (7, [4, 5]), (8, [2, 6, 12, 13, 14]), (9, [2, 6, 12, 13, 14]), (10, [2, 6, 12, 13, 14]), (11, [4, 5])] : List (Nat × List Nat)) l⟩
noncomputable def g_impl_books (x : ((Int × ((List Int) × ((List (Int × (Int × (Int × (Int × (Int × Unit)))))) × Unit))) × ((List (Int × (Int × (Int × (Int × (Int × (Int × Unit))))))) × Unit))) : Option (Int × ((List (Int × ((List Int) × ((List (Int × (Int × (Int × (Int × (Int × Unit)))))) × Unit)))) × Unit)) :=
  rgd.bnd (x.2.1.length : Int) fun y0 =>
  rgd.lop (fun (s1 : ((List (Int × (Int × (Int × (Int × (Int × (Int × Unit))))))) × (Int × (Int × (Int × ((List Int) × ((List (Int × (Int × (Int × (Int × (Int × Unit)))))) × ((List (Int × ((List Int) × ((List (Int × (Int × (Int × (Int × (Int × Unit)))))) × Unit)))) × Unit)))))))) =>
    rgd.bnd (decide (s1.2.2.1 < s1.2.1)) fun y2 =>
    rgd.br y2
      (rgd.chk (decide ((0 : Int) ≤ s1.2.2.1 ∧ s1.2.2.1 < (s1.1.length : Int))) <|
      rgd.bnd (s1.1.getD s1.2.2.1.toNat (dz kd_impl_Deal)) fun y3 =>
      rgd.cal (g_impl_do ((s1.2.2.2.1, (s1.2.2.2.2.1, (s1.2.2.2.2.2.1, ()))), (y3, ()))) fun d4 =>
      rgd.bnd (decide (d4.2.1 ≠ (0 : Int))) fun y5 =>
      rgd.br y5
        (rgd.out (
          some (d4.2.1, (s1.2.2.2.2.2.2.1, ()))))
        (rgd.bnd ((d4.1, (d4.2.2.1, (d4.2.2.2.1, ()))) :: []) fun y6 =>
        rgd.chk (decide (((s1.2.2.2.2.2.2.1.length : Int) + (y6.length : Int)) ≤ (1073741824 : Int))) <|
        rgd.bnd (s1.2.2.2.2.2.2.1 ++ y6) fun y7 =>
        rgd.bnd (Go.IntKind.wrap .i64 (s1.2.2.1 + (1 : Int))) fun y8 =>
        some (.inl (s1.1, (s1.2.1, (y8, (d4.1, (d4.2.2.1, (d4.2.2.2.1, (y7, ()))))))))))
      (rgd.out (
        some ((0 : Int), (s1.2.2.2.2.2.2.1, ()))))) (x.2.1, (y0, ((0 : Int), (x.1.1, (x.1.2.1, (x.1.2.2.1, ([], ())))))))
noncomputable def ent_impl_books : Ent := ⟨pars_impl_books, rsh_impl_books, g_impl_books, none⟩
noncomputable def E_impl_books (f : Nat) : Option Ent := lk ([(94, ent_impl_do)] : List (Nat × Ent)) f
theorem q_impl_books : vfun rgd Tf E_impl_books an_impl_books 35 pars_impl_books [(.tmp 4), (.tmp 5)] rsh_impl_books (Try.f69.body.getD .skip) = g_impl_books := by kernel_rfl
theorem h_impl_books : Holds Try.prog 69 ent_impl_books ∧ Callable Try.prog 69 :=
  fn_ok tok mixed (E := E_impl_books) (EOk_add h_impl_do EOk_nil) Try.func69 (by kernel_rfl) (by kernel_rfl) (rs := [(.tmp 4), (.tmp 5)]) (by kernel_rfl) (by kernel_rfl) (by kernel_rfl) q_impl_books
/- loop.example/g01263/impl.FirstWrong -/
def pars_impl_FirstWrong : List (Nat × TSh) := [(0, (.sc true (.pr (.int .i64) (.pr (.sl 2 (.int .i64)) (.pr (.sl 83 (.pr (.int .i64) (.pr (.int .i64) (.pr (.int .i64) (.pr (.int .i64) (.pr (.int .i64) .un)))))) .un))))), (1, (.sc true (.sl 71 (.pr (.int .i64) (.pr (.int .i8) (.pr (.int .i64) (.pr (.int .i64) (.pr (.int .i64) (.pr (.int .i64) .un))))))))), (2, (.sc true (.sl 35 (.pr (.int .i64) (.pr (.sl 2 (.int .i64)) (.pr (.sl 83 (.pr (.int .i64) (.pr (.int .i64) (.pr (.int .i64) (.pr (.int .i64) (.pr (.int .i64) .un)))))) .un))))))]
def rsh_impl_FirstWrong : Sh := ⟨[(0, (.sc true (.int .i64))), (1, (.sc true (.int .i64)))], [], 0⟩
def an_impl_FirstWrong : An := ⟨fun l => (lk ([(8, ⟨[(9, (.al 0)), (28, (.sc true (.sl 35 (.pr (.int .i64) (.pr (.sl 2 (.int .i64)) (.pr (.sl 83 (.pr (.int .i64) (.pr (.int .i64) (.pr (.int .i64) (.pr (.int .i64) (.pr (.int .i64) .un)))))) .un)))))), (29, (.sc true (.int .i64))), (30, (.sc true (.int .i64)))], [(0, (.ls 35 (.pr (.int .i64) (.pr (.sl 2 (.int .i64)) (.pr (.sl 83 (.pr (.int .i64) (.pr (.int .i64) (.pr (.int .i64) (.pr (.int .i64) (.pr (.int .i64) .un)))))) .un))) true))], 1⟩)] : List (Nat × Sh)) l).getD noSh, fun l => (lk ([(10, [⟨0, false, [36, 37]⟩, ⟨0, false, [35]⟩, ⟨2, false, [35]⟩, ⟨7, false, []⟩, ⟨15, false, []⟩, ⟨31, false, [41, 42, 43, 44]⟩, ⟨31, false, [40, 42]⟩, ⟨31, false, [40, 41]⟩, ⟨223, false, [40]⟩, ⟨479, false, [40]⟩, ⟨1023, false, []⟩, ⟨2047, false, []⟩, ⟨4095, false, []⟩])] : List (Nat × List Ri)) l).getD [], fun l => lk ([(10, 47)] : List (Nat × Nat)) l, fun l => lk ([(0, [1, 2, 3]), (1, [1, 2, 3, 8]), (2, [1, 2, 3, 8, 17]), (3, [6, 7]), (4, [2, 9, 10]), (5, [2, 9, 10, 26]), (6, [6, 7]), (7, [9, 28, 29, 30]), (8, [9, 28, 29, 30, 31]), (9, [9, 11, 12, 28, 29, 30]), (10, [9, 11, 28, 29, 30, 47]), (11, [6, 7]), (12, [9, 28, 29, 30]), (13, [6, 7])] : List (Nat × List Nat)) l⟩
noncomputable def g_impl_FirstWrong (x : ((Int × ((List Int) × ((List (Int × (Int × (Int × (Int × (Int × Unit)))))) × Unit))) × ((List (Int × (Int × (Int × (Int × (Int × (Int × Unit))))))) × ((List (Int × ((List Int) × ((List (Int × (Int × (Int × (Int × (Int × Unit)))))) × Unit)))) × Unit)))) : Option (Int × (Int × Unit)) :=
  rgd.cal (g_impl_dealsCode (x.1, (x.2.1, ()))) fun d0 =>
  rgd.bnd (decide (d0.1 ≠ (0 : Int))) fun y1 =>
  rgd.br y1
    (some ((0 : Int), (d0.1, ())))
    (rgd.cal (g_impl_books (x.1, (x.2.1, ()))) fun d2 =>
    rgd.bnd (decide (d2.1 ≠ (0 : Int))) fun y3 =>
    rgd.br y3
      (some ((0 : Int), (d2.1, ())))
      (rgd.bnd (x.2.2.1.length : Int) fun y4 =>
      rgd.lop (fun (s5 : ((List (Int × ((List Int) × ((List (Int × (Int × (Int × (Int × (Int × Unit)))))) × Unit)))) × (Int × (Int × ((List (Int × ((List Int) × ((List (Int × (Int × (Int × (Int × (Int × Unit)))))) × Unit)))) × Unit))))) =>
        rgd.bnd (decide (s5.2.2.1 < s5.2.1)) fun y6 =>
        rgd.br y6
          (rgd.chk (decide ((0 : Int) ≤ s5.2.2.1 ∧ s5.2.2.1 < (s5.1.length : Int))) <|
          rgd.bnd (s5.1.getD s5.2.2.1.toNat (dz kd_impl_Book)) fun y7 =>
          rgd.jn (
              rgd.bnd (s5.2.2.2.1.length : Int) fun y9 =>
              rgd.bnd (decide (s5.2.2.1 ≥ y9)) fun y10 =>
              rgd.br y10
                (some true)
                (rgd.chk (decide ((0 : Int) ≤ s5.2.2.1 ∧ s5.2.2.1 < (s5.2.2.2.1.length : Int))) <|
                rgd.cal (g_impl_SameBook (y7, (((s5.2.2.2.1.getD s5.2.2.1.toNat (dz kd_impl_Book)).1, ((s5.2.2.2.1.getD s5.2.2.1.toNat (dz kd_impl_Book)).2.1, ((s5.2.2.2.1.getD s5.2.2.1.toNat (dz kd_impl_Book)).2.2.1, ()))), ()))) fun d11 =>
                rgd.bnd (!d11.1) fun y12 =>
                some y12)) fun b8 =>
          rgd.br b8
            (rgd.out (
              some (s5.2.2.1, ((0 : Int), ()))))
            (rgd.bnd (Go.IntKind.wrap .i64 (s5.2.2.1 + (1 : Int))) fun y13 =>
            some (.inl (s5.1, (s5.2.1, (y13, (s5.2.2.2.1, ())))))))
          (rgd.out (
            some ((0 : Int), ((6 : Int), ()))))) (x.2.2.1, (y4, ((0 : Int), (d2.2.1, ()))))))
noncomputable def ent_impl_FirstWrong : Ent := ⟨pars_impl_FirstWrong, rsh_impl_FirstWrong, g_impl_FirstWrong, none⟩
noncomputable def E_impl_FirstWrong (f : Nat) : Option Ent := lk ([(43, ent_impl_SameBook), (68, ent_impl_dealsCode), (69, ent_impl_books)] : List (Nat × Ent)) f
theorem q_impl_FirstWrong : vfun rgd Tf E_impl_FirstWrong an_impl_FirstWrong 50 pars_impl_FirstWrong [(.tmp 6), (.tmp 7)] rsh_impl_FirstWrong (Try.f18.body.getD .skip) = g_impl_FirstWrong := by kernel_rfl
theorem h_impl_FirstWrong : Holds Try.prog 18 ent_impl_FirstWrong ∧ Callable Try.prog 18 :=
  fn_ok tok mixed (E := E_impl_FirstWrong) (EOk_add h_impl_SameBook (EOk_add h_impl_dealsCode (EOk_add h_impl_books EOk_nil))) Try.func18 (by kernel_rfl) (by kernel_rfl) (rs := [(.tmp 6), (.tmp 7)]) (by kernel_rfl) (by kernel_rfl) (by kernel_rfl) q_impl_FirstWrong
/- loop.example/g01263/laws.eqInt64S -/
def pars_laws_eqInt64S : List (Nat × TSh) := [(0, (.sc true (.sl 2 (.int .i64)))), (1, (.sc true (.sl 2 (.int .i64))))]
def rsh_laws_eqInt64S : Sh := ⟨[(0, (.sc true .bool))], [], 0⟩
def an_laws_eqInt64S : An := ⟨fun l => (lk ([(4, ⟨[(0, (.sc true (.sl 2 (.int .i64)))), (1, (.sc true (.sl 2 (.int .i64)))), (5, (.sc true (.int .i64)))], [], 0⟩)] : List (Nat × Sh)) l).getD noSh, fun l => (lk ([(6, [⟨0, false, [18, 21, 22, 23, 24]⟩, ⟨0, false, [17, 21, 22, 23, 24]⟩, ⟨3, false, [21, 22, 23, 24]⟩, ⟨7, false, [21, 22, 23, 24]⟩, ⟨0, false, [17, 18, 19, 20, 22]⟩, ⟨0, false, [17, 18, 19, 20, 21]⟩, ⟨48, false, [17, 18, 19, 20]⟩, ⟨112, false, [17, 18, 19, 20]⟩, ⟨255, true, []⟩])] : List (Nat × List Ri)) l).getD [], fun l => lk ([] : List (Nat × Nat)) l, fun l => lk ([(0, [0, 1]), (1, [0, 1, 10]), (2, [4]), (3, [0, 1, 5]), (4, [0, 1, 5, 14]), (5, [0, 1, 5]), (6, [0, 1, 5, 25]), (7, [4]), (8, [4])] : List (Nat × List Nat)) l⟩
noncomputable def g_laws_eqInt64S (x : ((List Int) × ((List Int) × Unit))) : Option (Bool × Unit) :=
  rgd.bnd (x.1.length : Int) fun y0 =>
  rgd.bnd (x.2.1.length : Int) fun y1 =>
  rgd.bnd (decide (y0 ≠ y1)) fun y2 =>
  rgd.br y2
    (some (false, ()))
    (rgd.lop (fun (s3 : ((List Int) × ((List Int) × (Int × Unit)))) =>
      rgd.bnd (s3.1.length : Int) fun y4 =>
      rgd.bnd (decide (s3.2.2.1 < y4)) fun y5 =>
      rgd.br y5
        (rgd.chk (decide ((0 : Int) ≤ s3.2.2.1 ∧ s3.2.2.1 < (s3.1.length : Int))) <|
        rgd.bnd (s3.1.getD s3.2.2.1.toNat (dz (.int .i64))) fun y6 =>
        rgd.chk (decide ((0 : Int) ≤ s3.2.2.1 ∧ s3.2.2.1 < (s3.2.1.length : Int))) <|
        rgd.bnd (s3.2.1.getD s3.2.2.1.toNat (dz (.int .i64))) fun y7 =>
        rgd.bnd (decide (y6 ≠ y7)) fun y8 =>
        rgd.br y8
          (rgd.out (
            some (false, ())))
          (rgd.bnd (Go.IntKind.wrap .i64 (s3.2.2.1 + (1 : Int))) fun y9 =>
          some (.inl (s3.1, (s3.2.1, (y9, ()))))))
        (rgd.out (
          some (true, ())))) (x.1, (x.2.1, ((0 : Int), ()))))
noncomputable def ent_laws_eqInt64S : Ent := ⟨pars_laws_eqInt64S, rsh_laws_eqInt64S, g_laws_eqInt64S, none⟩
noncomputable def E_laws_eqInt64S (f : Nat) : Option Ent := lk ([] : List (Nat × Ent)) f
theorem q_laws_eqInt64S : vfun rgd Tf E_laws_eqInt64S an_laws_eqInt64S 26 pars_laws_eqInt64S [(.tmp 4)] rsh_laws_eqInt64S (Try.f31.body.getD .skip) = g_laws_eqInt64S := by kernel_rfl
theorem h_laws_eqInt64S : Holds Try.prog 31 ent_laws_eqInt64S ∧ Callable Try.prog 31 :=
  fn_ok tok mixed (E := E_laws_eqInt64S) EOk_nil Try.func31 (by kernel_rfl) (by kernel_rfl) (rs := [(.tmp 4)]) (by kernel_rfl) (by kernel_rfl) (by kernel_rfl) q_laws_eqInt64S
/- loop.example/g01263/laws.eqTally -/
def pars_laws_eqTally : List (Nat × TSh) := [(0, (.sc true (.pr (.int .i64) (.pr (.int .i64) (.pr (.int .i64) (.pr (.int .i64) (.pr (.int .i64) .un))))))), (1, (.sc true (.pr (.int .i64) (.pr (.int .i64) (.pr (.int .i64) (.pr (.int .i64) (.pr (.int .i64) .un)))))))]
def rsh_laws_eqTally : Sh := ⟨[(0, (.sc true .bool))], [], 0⟩
def an_laws_eqTally : An := ⟨fun l => (lk ([] : List (Nat × Sh)) l).getD noSh, fun l => (lk ([] : List (Nat × List Ri)) l).getD [], fun l => lk ([] : List (Nat × Nat)) l, fun l => lk ([(0, [2, 3]), (1, [2, 3, 9]), (2, [4]), (3, [2, 3, 14]), (4, [4]), (5, [2, 3, 19]), (6, [4]), (7, [2, 3, 24]), (8, [4]), (9, [29]), (10, [4]), (11, [4])] : List (Nat × List Nat)) l⟩
noncomputable def g_laws_eqTally (x : ((Int × (Int × (Int × (Int × (Int × Unit))))) × ((Int × (Int × (Int × (Int × (Int × Unit))))) × Unit))) : Option (Bool × Unit) :=
  rgd.bnd (decide (x.1.1 ≠ x.2.1.1)) fun y0 =>
  rgd.br y0
    (some (false, ()))
    (rgd.bnd (decide (x.1.2.1 ≠ x.2.1.2.1)) fun y1 =>
    rgd.br y1
      (some (false, ()))
      (rgd.bnd (decide (x.1.2.2.1 ≠ x.2.1.2.2.1)) fun y2 =>
      rgd.br y2
        (some (false, ()))
        (rgd.bnd (decide (x.1.2.2.2.1 ≠ x.2.1.2.2.2.1)) fun y3 =>
        rgd.br y3
          (some (false, ()))
          (rgd.bnd (decide (x.1.2.2.2.2.1 ≠ x.2.1.2.2.2.2.1)) fun y4 =>
          rgd.br y4
            (some (false, ()))
            (some (true, ()))))))
noncomputable def ent_laws_eqTally : Ent := ⟨pars_laws_eqTally, rsh_laws_eqTally, g_laws_eqTally, none⟩
noncomputable def E_laws_eqTally (f : Nat) : Option Ent := lk ([] : List (Nat × Ent)) f
theorem q_laws_eqTally : vfun rgd Tf E_laws_eqTally an_laws_eqTally 30 pars_laws_eqTally [(.tmp 4)] rsh_laws_eqTally (Try.f112.body.getD .skip) = g_laws_eqTally := by kernel_rfl
theorem h_laws_eqTally : Holds Try.prog 112 ent_laws_eqTally ∧ Callable Try.prog 112 :=
  fn_ok tok mixed (E := E_laws_eqTally) EOk_nil Try.func112 (by kernel_rfl) (by kernel_rfl) (rs := [(.tmp 4)]) (by kernel_rfl) (by kernel_rfl) (by kernel_rfl) q_laws_eqTally
/- loop.example/g01263/laws.eqTallyS -/
def pars_laws_eqTallyS : List (Nat × TSh) := [(0, (.sc true (.sl 83 (.pr (.int .i64) (.pr (.int .i64) (.pr (.int .i64) (.pr (.int .i64) (.pr (.int .i64) .un)))))))), (1, (.sc true (.sl 83 (.pr (.int .i64) (.pr (.int .i64) (.pr (.int .i64) (.pr (.int .i64) (.pr (.int .i64) .un))))))))]
def rsh_laws_eqTallyS : Sh := ⟨[(0, (.sc true .bool))], [], 0⟩
def an_laws_eqTallyS : An := ⟨fun l => (lk ([(4, ⟨[(0, (.sc true (.sl 83 (.pr (.int .i64) (.pr (.int .i64) (.pr (.int .i64) (.pr (.int .i64) (.pr (.int .i64) .un)))))))), (1, (.sc true (.sl 83 (.pr (.int .i64) (.pr (.int .i64) (.pr (.int .i64) (.pr (.int .i64) (.pr (.int .i64) .un)))))))), (5, (.sc true (.int .i64)))], [], 0⟩)] : List (Nat × Sh)) l).getD noSh, fun l => (lk ([(6, [⟨0, false, [18, 21, 22, 23, 24]⟩, ⟨0, false, [17, 21, 22, 23, 24]⟩, ⟨3, false, [21, 22, 23, 24]⟩, ⟨7, false, [21, 22, 23, 24]⟩, ⟨0, false, [17, 18, 19, 20, 22]⟩, ⟨0, false, [17, 18, 19, 20, 21]⟩, ⟨48, false, [17, 18, 19, 20]⟩, ⟨112, false, [17, 18, 19, 20]⟩, ⟨255, true, []⟩, ⟨511, true, []⟩])] : List (Nat × List Ri)) l).getD [], fun l => lk ([] : List (Nat × Nat)) l, fun l => lk ([(0, [0, 1]), (1, [0, 1, 10]), (2, [4]), (3, [0, 1, 5]), (4, [0, 1, 5, 14]), (5, [0, 1, 5]), (6, [0, 1, 5, 26]), (7, [4]), (8, [4])] : List (Nat × List Nat)) l⟩
noncomputable def g_laws_eqTallyS (x : ((List (Int × (Int × (Int × (Int × (Int × Unit)))))) × ((List (Int × (Int × (Int × (Int × (Int × Unit)))))) × Unit))) : Option (Bool × Unit) :=
  rgd.bnd (x.1.length : Int) fun y0 =>
  rgd.bnd (x.2.1.length : Int) fun y1 =>
  rgd.bnd (decide (y0 ≠ y1)) fun y2 =>
  rgd.br y2
    (some (false, ()))
    (rgd.lop (fun (s3 : ((List (Int × (Int × (Int × (Int × (Int × Unit)))))) × ((List (Int × (Int × (Int × (Int × (Int × Unit)))))) × (Int × Unit)))) =>
      rgd.bnd (s3.1.length : Int) fun y4 =>
      rgd.bnd (decide (s3.2.2.1 < y4)) fun y5 =>
      rgd.br y5
        (rgd.chk (decide ((0 : Int) ≤ s3.2.2.1 ∧ s3.2.2.1 < (s3.1.length : Int))) <|
        rgd.bnd (s3.1.getD s3.2.2.1.toNat (dz kd_impl_Tally)) fun y6 =>
        rgd.chk (decide ((0 : Int) ≤ s3.2.2.1 ∧ s3.2.2.1 < (s3.2.1.length : Int))) <|
        rgd.bnd (s3.2.1.getD s3.2.2.1.toNat (dz kd_impl_Tally)) fun y7 =>
        rgd.cal (g_laws_eqTally (y6, (y7, ()))) fun d8 =>
        rgd.bnd (!d8.1) fun y9 =>
        rgd.br y9
          (rgd.out (
            some (false, ())))
          (rgd.bnd (Go.IntKind.wrap .i64 (s3.2.2.1 + (1 : Int))) fun y10 =>
          some (.inl (s3.1, (s3.2.1, (y10, ()))))))
        (rgd.out (
          some (true, ())))) (x.1, (x.2.1, ((0 : Int), ()))))
noncomputable def ent_laws_eqTallyS : Ent := ⟨pars_laws_eqTallyS, rsh_laws_eqTallyS, g_laws_eqTallyS, none⟩
noncomputable def E_laws_eqTallyS (f : Nat) : Option Ent := lk ([(112, ent_laws_eqTally)] : List (Nat × Ent)) f
theorem q_laws_eqTallyS : vfun rgd Tf E_laws_eqTallyS an_laws_eqTallyS 27 pars_laws_eqTallyS [(.tmp 4)] rsh_laws_eqTallyS (Try.f70.body.getD .skip) = g_laws_eqTallyS := by kernel_rfl
theorem h_laws_eqTallyS : Holds Try.prog 70 ent_laws_eqTallyS ∧ Callable Try.prog 70 :=
  fn_ok tok mixed (E := E_laws_eqTallyS) (EOk_add h_laws_eqTally EOk_nil) Try.func70 (by kernel_rfl) (by kernel_rfl) (rs := [(.tmp 4)]) (by kernel_rfl) (by kernel_rfl) (by kernel_rfl) q_laws_eqTallyS
/- loop.example/g01263/laws.eqBook -/
def pars_laws_eqBook : List (Nat × TSh) := [(0, (.sc true (.pr (.int .i64) (.pr (.sl 2 (.int .i64)) (.pr (.sl 83 (.pr (.int .i64) (.pr (.int .i64) (.pr (.int .i64) (.pr (.int .i64) (.pr (.int .i64) .un)))))) .un))))), (1, (.sc true (.pr (.int .i64) (.pr (.sl 2 (.int .i64)) (.pr (.sl 83 (.pr (.int .i64) (.pr (.int .i64) (.pr (.int .i64) (.pr (.int .i64) (.pr (.int .i64) .un)))))) .un)))))]
def rsh_laws_eqBook : Sh := ⟨[(0, (.sc true .bool))], [], 0⟩
def an_laws_eqBook : An := ⟨fun l => (lk ([] : List (Nat × Sh)) l).getD noSh, fun l => (lk ([] : List (Nat × List Ri)) l).getD [], fun l => lk ([] : List (Nat × Nat)) l, fun l => lk ([(0, [2, 3]), (1, [2, 3, 9]), (2, [4]), (3, [2, 3, 15]), (4, [4]), (5, [21]), (6, [4]), (7, [4])] : List (Nat × List Nat)) l⟩
noncomputable def g_laws_eqBook (x : ((Int × ((List Int) × ((List (Int × (Int × (Int × (Int × (Int × Unit)))))) × Unit))) × ((Int × ((List Int) × ((List (Int × (Int × (Int × (Int × (Int × Unit)))))) × Unit))) × Unit))) : Option (Bool × Unit) :=
  rgd.bnd (decide (x.1.1 ≠ x.2.1.1)) fun y0 =>
  rgd.br y0
    (some (false, ()))
    (rgd.cal (g_laws_eqInt64S (x.1.2.1, (x.2.1.2.1, ()))) fun d1 =>
    rgd.bnd (!d1.1) fun y2 =>
    rgd.br y2
      (some (false, ()))
      (rgd.cal (g_laws_eqTallyS (x.1.2.2.1, (x.2.1.2.2.1, ()))) fun d3 =>
      rgd.bnd (!d3.1) fun y4 =>
      rgd.br y4
        (some (false, ()))
        (some (true, ()))))
noncomputable def ent_laws_eqBook : Ent := ⟨pars_laws_eqBook, rsh_laws_eqBook, g_laws_eqBook, none⟩
noncomputable def E_laws_eqBook (f : Nat) : Option Ent := lk ([(31, ent_laws_eqInt64S), (70, ent_laws_eqTallyS)] : List (Nat × Ent)) f
theorem q_laws_eqBook : vfun rgd Tf E_laws_eqBook an_laws_eqBook 22 pars_laws_eqBook [(.tmp 4)] rsh_laws_eqBook (Try.f19.body.getD .skip) = g_laws_eqBook := by kernel_rfl
theorem h_laws_eqBook : Holds Try.prog 19 ent_laws_eqBook ∧ Callable Try.prog 19 :=
  fn_ok tok mixed (E := E_laws_eqBook) (EOk_add h_laws_eqInt64S (EOk_add h_laws_eqTallyS EOk_nil)) Try.func19 (by kernel_rfl) (by kernel_rfl) (rs := [(.tmp 4)]) (by kernel_rfl) (by kernel_rfl) (by kernel_rfl) q_laws_eqBook
/- loop.example/g01263/laws.eqDeal -/
def pars_laws_eqDeal : List (Nat × TSh) := [(0, (.sc true (.pr (.int .i64) (.pr (.int .i8) (.pr (.int .i64) (.pr (.int .i64) (.pr (.int .i64) (.pr (.int .i64) .un)))))))), (1, (.sc true (.pr (.int .i64) (.pr (.int .i8) (.pr (.int .i64) (.pr (.int .i64) (.pr (.int .i64) (.pr (.int .i64) .un))))))))]
def rsh_laws_eqDeal : Sh := ⟨[(0, (.sc true .bool))], [], 0⟩
def an_laws_eqDeal : An := ⟨fun l => (lk ([] : List (Nat × Sh)) l).getD noSh, fun l => (lk ([] : List (Nat × List Ri)) l).getD [], fun l => lk ([] : List (Nat × Nat)) l, fun l => lk ([(0, [2, 3]), (1, [2, 3, 9]), (2, [4]), (3, [2, 3, 14]), (4, [4]), (5, [2, 3, 19]), (6, [4]), (7, [2, 3, 24]), (8, [4]), (9, [2, 3, 29]), (10, [4]), (11, [34]), (12, [4]), (13, [4])] : List (Nat × List Nat)) l⟩
noncomputable def g_laws_eqDeal (x : ((Int × (Int × (Int × (Int × (Int × (Int × Unit)))))) × ((Int × (Int × (Int × (Int × (Int × (Int × Unit)))))) × Unit))) : Option (Bool × Unit) :=
  rgd.bnd (decide (x.1.1 ≠ x.2.1.1)) fun y0 =>
  rgd.br y0
    (some (false, ()))
    (rgd.bnd (decide (x.1.2.1 ≠ x.2.1.2.1)) fun y1 =>
    rgd.br y1
      (some (false, ()))
      (rgd.bnd (decide (x.1.2.2.1 ≠ x.2.1.2.2.1)) fun y2 =>
      rgd.br y2
        (some (false, ()))
        (rgd.bnd (decide (x.1.2.2.2.1 ≠ x.2.1.2.2.2.1)) fun y3 =>
        rgd.br y3
          (some (false, ()))
          (rgd.bnd (decide (x.1.2.2.2.2.1 ≠ x.2.1.2.2.2.2.1)) fun y4 =>
          rgd.br y4
            (some (false, ()))
            (rgd.bnd (decide (x.1.2.2.2.2.2.1 ≠ x.2.1.2.2.2.2.2.1)) fun y5 =>
            rgd.br y5
              (some (false, ()))
              (some (true, ())))))))
noncomputable def ent_laws_eqDeal : Ent := ⟨pars_laws_eqDeal, rsh_laws_eqDeal, g_laws_eqDeal, none⟩
noncomputable def E_laws_eqDeal (f : Nat) : Option Ent := lk ([] : List (Nat × Ent)) f
theorem q_laws_eqDeal : vfun rgd Tf E_laws_eqDeal an_laws_eqDeal 35 pars_laws_eqDeal [(.tmp 4)] rsh_laws_eqDeal (Try.f71.body.getD .skip) = g_laws_eqDeal := by kernel_rfl
theorem h_laws_eqDeal : Holds Try.prog 71 ent_laws_eqDeal ∧ Callable Try.prog 71 :=
  fn_ok tok mixed (E := E_laws_eqDeal) EOk_nil Try.func71 (by kernel_rfl) (by kernel_rfl) (rs := [(.tmp 4)]) (by kernel_rfl) (by kernel_rfl) (by kernel_rfl) q_laws_eqDeal
/- loop.example/g01263/laws.eqDealS -/
def pars_laws_eqDealS : List (Nat × TSh) := [(0, (.sc true (.sl 71 (.pr (.int .i64) (.pr (.int .i8) (.pr (.int .i64) (.pr (.int .i64) (.pr (.int .i64) (.pr (.int .i64) .un))))))))), (1, (.sc true (.sl 71 (.pr (.int .i64) (.pr (.int .i8) (.pr (.int .i64) (.pr (.int .i64) (.pr (.int .i64) (.pr (.int .i64) .un)))))))))]
def rsh_laws_eqDealS : Sh := ⟨[(0, (.sc true .bool))], [], 0⟩
def an_laws_eqDealS : An := ⟨fun l => (lk ([(4, ⟨[(0, (.sc true (.sl 71 (.pr (.int .i64) (.pr (.int .i8) (.pr (.int .i64) (.pr (.int .i64) (.pr (.int .i64) (.pr (.int .i64) .un))))))))), (1, (.sc true (.sl 71 (.pr (.int .i64) (.pr (.int .i8) (.pr (.int .i64) (.pr (.int .i64) (.pr (.int .i64) (.pr (.int .i64) .un))))))))), (5, (.sc true (.int .i64)))], [], 0⟩)] : List (Nat × Sh)) l).getD noSh, fun l => (lk ([(6, [⟨0, false, [18, 21, 22, 23, 24]⟩, ⟨0, false, [17, 21, 22, 23, 24]⟩, ⟨3, false, [21, 22, 23, 24]⟩, ⟨7, false, [21, 22, 23, 24]⟩, ⟨0, false, [17, 18, 19, 20, 22]⟩, ⟨0, false, [17, 18, 19, 20, 21]⟩, ⟨48, false, [17, 18, 19, 20]⟩, ⟨112, false, [17, 18, 19, 20]⟩, ⟨255, true, []⟩, ⟨511, true, []⟩])] : List (Nat × List Ri)) l).getD [], fun l => lk ([] : List (Nat × Nat)) l, fun l => lk ([(0, [0, 1]), (1, [0, 1, 10]), (2, [4]), (3, [0, 1, 5]), (4, [0, 1, 5, 14]), (5, [0, 1, 5]), (6, [0, 1, 5, 26]), (7, [4]), (8, [4])] : List (Nat × List Nat)) l⟩
noncomputable def g_laws_eqDealS (x : ((List (Int × (Int × (Int × (Int × (Int × (Int × Unit))))))) × ((List (Int × (Int × (Int × (Int × (Int × (Int × Unit))))))) × Unit))) : Option (Bool × Unit) :=
  rgd.bnd (x.1.length : Int) fun y0 =>
  rgd.bnd (x.2.1.length : Int) fun y1 =>
  rgd.bnd (decide (y0 ≠ y1)) fun y2 =>
  rgd.br y2
    (some (false, ()))
    (rgd.lop (fun (s3 : ((List (Int × (Int × (Int × (Int × (Int × (Int × Unit))))))) × ((List (Int × (Int × (Int × (Int × (Int × (Int × Unit))))))) × (Int × Unit)))) =>
      rgd.bnd (s3.1.length : Int) fun y4 =>
      rgd.bnd (decide (s3.2.2.1 < y4)) fun y5 =>
      rgd.br y5
        (rgd.chk (decide ((0 : Int) ≤ s3.2.2.1 ∧ s3.2.2.1 < (s3.1.length : Int))) <|
        rgd.bnd (s3.1.getD s3.2.2.1.toNat (dz kd_impl_Deal)) fun y6 =>
        rgd.chk (decide ((0 : Int) ≤ s3.2.2.1 ∧ s3.2.2.1 < (s3.2.1.length : Int))) <|
        rgd.bnd (s3.2.1.getD s3.2.2.1.toNat (dz kd_impl_Deal)) fun y7 =>
        rgd.cal (g_laws_eqDeal (y6, (y7, ()))) fun d8 =>
        rgd.bnd (!d8.1) fun y9 =>
        rgd.br y9
          (rgd.out (
            some (false, ())))
          (rgd.bnd (Go.IntKind.wrap .i64 (s3.2.2.1 + (1 : Int))) fun y10 =>
          some (.inl (s3.1, (s3.2.1, (y10, ()))))))
        (rgd.out (
          some (true, ())))) (x.1, (x.2.1, ((0 : Int), ()))))
noncomputable def ent_laws_eqDealS : Ent := ⟨pars_laws_eqDealS, rsh_laws_eqDealS, g_laws_eqDealS, none⟩
noncomputable def E_laws_eqDealS (f : Nat) : Option Ent := lk ([(71, ent_laws_eqDeal)] : List (Nat × Ent)) f
theorem q_laws_eqDealS : vfun rgd Tf E_laws_eqDealS an_laws_eqDealS 27 pars_laws_eqDealS [(.tmp 4)] rsh_laws_eqDealS (Try.f20.body.getD .skip) = g_laws_eqDealS := by kernel_rfl
theorem h_laws_eqDealS : Holds Try.prog 20 ent_laws_eqDealS ∧ Callable Try.prog 20 :=
  fn_ok tok mixed (E := E_laws_eqDealS) (EOk_add h_laws_eqDeal EOk_nil) Try.func20 (by kernel_rfl) (by kernel_rfl) (rs := [(.tmp 4)]) (by kernel_rfl) (by kernel_rfl) (by kernel_rfl) q_laws_eqDealS
/- loop.example/g01263/laws.eqBookS -/
def pars_laws_eqBookS : List (Nat × TSh) := [(0, (.sc true (.sl 35 (.pr (.int .i64) (.pr (.sl 2 (.int .i64)) (.pr (.sl 83 (.pr (.int .i64) (.pr (.int .i64) (.pr (.int .i64) (.pr (.int .i64) (.pr (.int .i64) .un)))))) .un)))))), (1, (.sc true (.sl 35 (.pr (.int .i64) (.pr (.sl 2 (.int .i64)) (.pr (.sl 83 (.pr (.int .i64) (.pr (.int .i64) (.pr (.int .i64) (.pr (.int .i64) (.pr (.int .i64) .un)))))) .un))))))]
def rsh_laws_eqBookS : Sh := ⟨[(0, (.sc true .bool))], [], 0⟩
def an_laws_eqBookS : An := ⟨fun l => (lk ([(4, ⟨[(0, (.sc true (.sl 35 (.pr (.int .i64) (.pr (.sl 2 (.int .i64)) (.pr (.sl 83 (.pr (.int .i64) (.pr (.int .i64) (.pr (.int .i64) (.pr (.int .i64) (.pr (.int .i64) .un)))))) .un)))))), (1, (.sc true (.sl 35 (.pr (.int .i64) (.pr (.sl 2 (.int .i64)) (.pr (.sl 83 (.pr (.int .i64) (.pr (.int .i64) (.pr (.int .i64) (.pr (.int .i64) (.pr (.int .i64) .un)))))) .un)))))), (5, (.sc true (.int .i64)))], [], 0⟩)] : List (Nat × Sh)) l).getD noSh, fun l => (lk ([(6, [⟨0, false, [18, 21, 22, 23, 24]⟩, ⟨0, false, [17, 21, 22, 23, 24]⟩, ⟨3, false, [21, 22, 23, 24]⟩, ⟨7, false, [21, 22, 23, 24]⟩, ⟨0, false, [17, 18, 19, 20, 22]⟩, ⟨0, false, [17, 18, 19, 20, 21]⟩, ⟨48, false, [17, 18, 19, 20]⟩, ⟨112, false, [17, 18, 19, 20]⟩, ⟨255, true, []⟩, ⟨511, true, []⟩])] : List (Nat × List Ri)) l).getD [], fun l => lk ([] : List (Nat × Nat)) l, fun l => lk ([(0, [0, 1]), (1, [0, 1, 10]), (2, [4]), (3, [0, 1, 5]), (4, [0, 1, 5, 14]), (5, [0, 1, 5]), (6, [0, 1, 5, 26]), (7, [4]), (8, [4])] : List (Nat × List Nat)) l⟩
noncomputable def g_laws_eqBookS (x : ((List (Int × ((List Int) × ((List (Int × (Int × (Int × (Int × (Int × Unit)))))) × Unit)))) × ((List (Int × ((List Int) × ((List (Int × (Int × (Int × (Int × (Int × Unit)))))) × Unit)))) × Unit))) : Option (Bool × Unit) :=
  rgd.bnd (x.1.length : Int) fun y0 =>
  rgd.bnd (x.2.1.length : Int) fun y1 =>
  rgd.bnd (decide (y0 ≠ y1)) fun y2 =>
  rgd.br y2
    (some (false, ()))
    (rgd.lop (fun (s3 : ((List (Int × ((List Int) × ((List (Int × (Int × (Int × (Int × (Int × Unit)))))) × Unit)))) × ((List (Int × ((List Int) × ((List (Int × (Int × (Int × (Int × (Int × Unit)))))) × Unit)))) × (Int × Unit)))) =>
      rgd.bnd (s3.1.length : Int) fun y4 =>
      rgd.bnd (decide (s3.2.2.1 < y4)) fun y5 =>
      rgd.br y5
        (rgd.chk (decide ((0 : Int) ≤ s3.2.2.1 ∧ s3.2.2.1 < (s3.1.length : Int))) <|
        rgd.bnd (s3.1.getD s3.2.2.1.toNat (dz kd_impl_Book)) fun y6 =>
        rgd.chk (decide ((0 : Int) ≤ s3.2.2.1 ∧ s3.2.2.1 < (s3.2.1.length : Int))) <|
        rgd.bnd (s3.2.1.getD s3.2.2.1.toNat (dz kd_impl_Book)) fun y7 =>
        rgd.cal (g_laws_eqBook (y6, (y7, ()))) fun d8 =>
        rgd.bnd (!d8.1) fun y9 =>
        rgd.br y9
          (rgd.out (
            some (false, ())))
          (rgd.bnd (Go.IntKind.wrap .i64 (s3.2.2.1 + (1 : Int))) fun y10 =>
          some (.inl (s3.1, (s3.2.1, (y10, ()))))))
        (rgd.out (
          some (true, ())))) (x.1, (x.2.1, ((0 : Int), ()))))
noncomputable def ent_laws_eqBookS : Ent := ⟨pars_laws_eqBookS, rsh_laws_eqBookS, g_laws_eqBookS, none⟩
noncomputable def E_laws_eqBookS (f : Nat) : Option Ent := lk ([(19, ent_laws_eqBook)] : List (Nat × Ent)) f
theorem q_laws_eqBookS : vfun rgd Tf E_laws_eqBookS an_laws_eqBookS 27 pars_laws_eqBookS [(.tmp 4)] rsh_laws_eqBookS (Try.f21.body.getD .skip) = g_laws_eqBookS := by kernel_rfl
theorem h_laws_eqBookS : Holds Try.prog 21 ent_laws_eqBookS ∧ Callable Try.prog 21 :=
  fn_ok tok mixed (E := E_laws_eqBookS) (EOk_add h_laws_eqBook EOk_nil) Try.func21 (by kernel_rfl) (by kernel_rfl) (rs := [(.tmp 4)]) (by kernel_rfl) (by kernel_rfl) (by kernel_rfl) q_laws_eqBookS
/- loop.example/g01263/laws.FnExactFirstWrong -/
def pars_laws_FnExactFirstWrong : List (Nat × TSh) := [(0, (.sc true (.pr (.int .i64) (.pr (.sl 2 (.int .i64)) (.pr (.sl 134 (.pr (.int .i64) (.pr (.int .i64) (.pr (.int .i64) (.pr (.int .i64) (.pr (.int .i64) .un)))))) .un))))), (1, (.sc true (.sl 94 (.pr (.int .i64) (.pr (.int .i8) (.pr (.int .i64) (.pr (.int .i64) (.pr (.int .i64) (.pr (.int .i64) .un))))))))), (2, (.sc true (.sl 25 (.pr (.int .i64) (.pr (.sl 2 (.int .i64)) (.pr (.sl 134 (.pr (.int .i64) (.pr (.int .i64) (.pr (.int .i64) (.pr (.int .i64) (.pr (.int .i64) .un)))))) .un))))))]
def rsh_laws_FnExactFirstWrong : Sh := ⟨[(0, (.sc true .bool))], [], 0⟩
def an_laws_FnExactFirstWrong : An := ⟨fun l => (lk ([] : List (Nat × Sh)) l).getD noSh, fun l => (lk ([(16, [⟨0, false, []⟩, ⟨1, false, []⟩, ⟨3, false, []⟩, ⟨7, false, []⟩, ⟨15, false, []⟩, ⟨31, false, []⟩, ⟨63, false, []⟩, ⟨127, false, []⟩]), (18, [⟨0, false, [62, 63]⟩, ⟨0, false, [61]⟩, ⟨2, false, [61]⟩, ⟨7, true, []⟩, ⟨15, true, []⟩])] : List (Nat × List Ri)) l).getD [], fun l => lk ([(16, 60)] : List (Nat × Nat)) l, fun l => lk ([(0, [1, 2, 3]), (1, [1, 2, 3, 7]), (2, [1, 2, 3, 7]), (3, [1, 2, 3, 7, 19]), (4, [6]), (5, [1, 2, 3, 7]), (6, [1, 2, 3, 7, 24]), (7, [6]), (8, [1, 2, 3, 7]), (9, [1, 2, 3, 29]), (10, [6]), (11, [1, 2, 3, 8, 9]), (12, [1, 2, 3, 8, 9, 10]), (13, [1, 2, 3, 8, 9, 10, 11]), (14, [1, 2, 3, 8, 9, 10, 11, 12]), (15, [1, 2, 3, 8, 9, 10, 11, 12, 13, 14]), (16, [1, 2, 3, 10, 11, 12, 60]), (17, [6]), (18, [1, 2, 11, 12, 65]), (19, [6]), (20, [2, 12, 70]), (21, [6]), (22, [75]), (23, [6]), (24, [6])] : List (Nat × List Nat)) l⟩
noncomputable def g_laws_FnExactFirstWrong (x : ((Int × ((List Int) × ((List (Int × (Int × (Int × (Int × (Int × Unit)))))) × Unit))) × ((List (Int × (Int × (Int × (Int × (Int × (Int × Unit))))))) × ((List (Int × ((List Int) × ((List (Int × (Int × (Int × (Int × (Int × Unit)))))) × Unit)))) × Unit)))) : Option (Bool × Unit) :=
  rgd.cal (g_laws_szBook (x.1, ((1048576 : Int), ()))) fun d0 =>
  rgd.bnd (decide (d0.1 < (0 : Int))) fun y1 =>
  rgd.br y1
    (some (true, ()))
    (rgd.cal (g_laws_szDealS (x.2.1, (d0.1, ()))) fun d2 =>
    rgd.bnd (decide (d2.1 < (0 : Int))) fun y3 =>
    rgd.br y3
      (some (true, ()))
      (rgd.cal (g_laws_szBookS (x.2.2.1, (d2.1, ()))) fun d4 =>
      rgd.bnd (decide (d4.1 < (0 : Int))) fun y5 =>
      rgd.br y5
        (some (true, ()))
        (rgd.cal (g_laws_toBook (x.1, ())) fun d6 =>
        rgd.cal (g_laws_toDealS (x.2.1, ())) fun d7 =>
        rgd.cal (g_laws_toBookS (x.2.2.1, ())) fun d8 =>
        rgd.cal (g_spec_FirstWrong ((d6.1, (d6.2.1, (d6.2.2.1, ()))), (d7.1, (d8.1, ())))) fun d9 =>
        rgd.cal (g_laws_toBook (x.1, ())) fun d10 =>
        rgd.cal (g_laws_toDealS (x.2.1, ())) fun d11 =>
        rgd.cal (g_laws_toBookS (x.2.2.1, ())) fun d12 =>
        rgd.cal (g_impl_FirstWrong ((d10.1, (d10.2.1, (d10.2.2.1, ()))), (d11.1, (d12.1, ())))) fun d13 =>
        rgd.jn (
            rgd.bnd (decide (d13.1 ≠ d9.1)) fun y15 =>
            rgd.br y15
              (some true)
              (rgd.bnd (decide (d13.2.1 ≠ d9.2.1)) fun y16 =>
              some y16)) fun b14 =>
        rgd.br b14
          (some (false, ()))
          (rgd.cal (g_laws_toBook (x.1, ())) fun d17 =>
          rgd.cal (g_laws_eqBook ((d10.1, (d10.2.1, (d10.2.2.1, ()))), ((d17.1, (d17.2.1, (d17.2.2.1, ()))), ()))) fun d18 =>
          rgd.bnd (!d18.1) fun y19 =>
          rgd.br y19
            (some (false, ()))
            (rgd.cal (g_laws_toDealS (x.2.1, ())) fun d20 =>
            rgd.cal (g_laws_eqDealS (d11.1, (d20.1, ()))) fun d21 =>
            rgd.bnd (!d21.1) fun y22 =>
            rgd.br y22
              (some (false, ()))
              (rgd.cal (g_laws_toBookS (x.2.2.1, ())) fun d23 =>
              rgd.cal (g_laws_eqBookS (d12.1, (d23.1, ()))) fun d24 =>
              rgd.bnd (!d24.1) fun y25 =>
              rgd.br y25
                (some (false, ()))
                (some (true, ()))))))))
noncomputable def ent_laws_FnExactFirstWrong : Ent := ⟨pars_laws_FnExactFirstWrong, rsh_laws_FnExactFirstWrong, g_laws_FnExactFirstWrong, none⟩
noncomputable def E_laws_FnExactFirstWrong (f : Nat) : Option Ent := lk ([(11, ent_laws_szBook), (12, ent_laws_szDealS), (13, ent_laws_szBookS), (14, ent_spec_FirstWrong), (15, ent_laws_toBook), (16, ent_laws_toDealS), (17, ent_laws_toBookS), (18, ent_impl_FirstWrong), (19, ent_laws_eqBook), (20, ent_laws_eqDealS), (21, ent_laws_eqBookS)] : List (Nat × Ent)) f
theorem q_laws_FnExactFirstWrong : vfun rgd Tf E_laws_FnExactFirstWrong an_laws_FnExactFirstWrong 76 pars_laws_FnExactFirstWrong [(.tmp 6)] rsh_laws_FnExactFirstWrong (Try.f3.body.getD .skip) = g_laws_FnExactFirstWrong := by kernel_rfl
theorem h_laws_FnExactFirstWrong : Holds Try.prog 3 ent_laws_FnExactFirstWrong ∧ Callable Try.prog 3 :=
  fn_ok tok mixed (E := E_laws_FnExactFirstWrong) (EOk_add h_laws_szBook (EOk_add h_laws_szDealS (EOk_add h_laws_szBookS (EOk_add h_spec_FirstWrong (EOk_add h_laws_toBook (EOk_add h_laws_toDealS (EOk_add h_laws_toBookS (EOk_add h_impl_FirstWrong (EOk_add h_laws_eqBook (EOk_add h_laws_eqDealS (EOk_add h_laws_eqBookS EOk_nil))))))))))) Try.func3 (by kernel_rfl) (by kernel_rfl) (rs := [(.tmp 6)]) (by kernel_rfl) (by kernel_rfl) (by kernel_rfl) q_laws_FnExactFirstWrong
/- loop.example/g01263/spec.DoDeals -/
def pars_spec_DoDeals : List (Nat × TSh) := [(0, (.sc true (.pr (.int .i64) (.pr (.sl 2 (.int .i64)) (.pr (.sl 83 (.pr (.int .i64) (.pr (.int .i64) (.pr (.int .i64) (.pr (.int .i64) (.pr (.int .i64) .un)))))) .un))))), (1, (.sc true (.sl 71 (.pr (.int .i64) (.pr (.int .i8) (.pr (.int .i64) (.pr (.int .i64) (.pr (.int .i64) (.pr (.int .i64) .un)))))))))]
def rsh_spec_DoDeals : Sh := ⟨[(0, (.pr (.sc true (.int .i64)) (.pr (.al 0) (.pr (.al 1) .un)))), (1, (.sc true (.int .i64)))], [(0, (.ls 2 (.int .i64) true)), (1, (.ls 83 (.pr (.int .i64) (.pr (.int .i64) (.pr (.int .i64) (.pr (.int .i64) (.pr (.int .i64) .un))))) true))], 2⟩
def an_spec_DoDeals : An := ⟨fun l => (lk ([] : List (Nat × Sh)) l).getD noSh, fun l => (lk ([] : List (Nat × List Ri)) l).getD [], fun l => lk ([] : List (Nat × Nat)) l, fun l => lk ([(0, [1, 2, 4]), (1, [1, 2, 4, 6]), (2, [1, 2, 4, 6, 13]), (3, [4, 5]), (4, [2, 4, 7, 8]), (5, [2, 4, 7, 8, 23]), (6, [4, 5]), (7, [2, 4, 7, 28]), (8, [4, 5]), (9, [4, 5])] : List (Nat × List Nat)) l⟩
noncomputable def g_spec_DoDeals (x : ((Int × ((List Int) × ((List (Int × (Int × (Int × (Int × (Int × Unit)))))) × Unit))) × ((List (Int × (Int × (Int × (Int × (Int × (Int × Unit))))))) × Unit))) : Option (Int × (Int × ((List Int) × ((List (Int × (Int × (Int × (Int × (Int × Unit)))))) × Unit)))) :=
  rgd.cal (g_spec_l07Asked (x.1, (x.2.1, ()))) fun d0 =>
  rgd.bnd (decide (d0.1 ≠ (0 : Int))) fun y1 =>
  rgd.br y1
    (some ((dz (.int .i64)), (d0.1, ([], ([], ())))))
    (rgd.cal (g_spec_l07All (x.1, (x.2.1, ()))) fun d2 =>
    rgd.bnd (decide (d2.1 ≠ (0 : Int))) fun y3 =>
    rgd.br y3
      (some ((dz (.int .i64)), (d2.1, ([], ([], ())))))
      (rgd.bnd (d2.2.2.1.length : Int) fun y4 =>
      rgd.bnd (decide (y4 = (0 : Int))) fun y5 =>
      rgd.br y5
        (rgd.cal (g_spec_l07Copy (x.1, ())) fun d6 =>
        some (d6.1, ((0 : Int), (d6.2.1, (d6.2.2.1, ())))))
        (rgd.bnd (d2.2.2.1.length : Int) fun y7 =>
        rgd.bnd (Go.IntKind.wrap .i64 (y7 - (1 : Int))) fun y8 =>
        rgd.chk (decide ((0 : Int) ≤ y8 ∧ y8 < (d2.2.2.1.length : Int))) <|
        rgd.cal (g_spec_l07Copy ((d2.2.2.1.getD y8.toNat (dz kd_impl_Book)), ())) fun d9 =>
        some (d9.1, ((0 : Int), (d9.2.1, (d9.2.2.1, ())))))))
noncomputable def ent_spec_DoDeals : Ent := ⟨pars_spec_DoDeals, rsh_spec_DoDeals, g_spec_DoDeals, none⟩
noncomputable def E_spec_DoDeals (f : Nat) : Option Ent := lk ([(63, ent_spec_l07Asked), (64, ent_spec_l07All), (76, ent_spec_l07Copy)] : List (Nat × Ent)) f
theorem q_spec_DoDeals : vfun rgd Tf E_spec_DoDeals an_spec_DoDeals 36 pars_spec_DoDeals [(.cell 4 35), (.tmp 5)] rsh_spec_DoDeals (Try.f24.body.getD .skip) = g_spec_DoDeals := by kernel_rfl
theorem h_spec_DoDeals : Holds Try.prog 24 ent_spec_DoDeals ∧ Callable Try.prog 24 :=
  fn_ok tok mixed (E := E_spec_DoDeals) (EOk_add h_spec_l07Asked (EOk_add h_spec_l07All (EOk_add h_spec_l07Copy EOk_nil))) Try.func24 (by kernel_rfl) (by kernel_rfl) (rs := [(.cell 4 35), (.tmp 5)]) (by kernel_rfl) (by kernel_rfl) (by kernel_rfl) q_spec_DoDeals
/- loop.example/g01263/impl.behind -/
def pars_impl_behind : List (Nat × TSh) := [(0, (.sc true (.pr (.int .i64) (.pr (.sl 2 (.int .i64)) (.pr (.sl 83 (.pr (.int .i64) (.pr (.int .i64) (.pr (.int .i64) (.pr (.int .i64) (.pr (.int .i64) .un)))))) .un))))), (1, (.sc true (.sl 71 (.pr (.int .i64) (.pr (.int .i8) (.pr (.int .i64) (.pr (.int .i64) (.pr (.int .i64) (.pr (.int .i64) .un)))))))))]
def rsh_impl_behind : Sh := ⟨[(0, (.pr (.sc true (.int .i64)) (.pr (.al 0) (.pr (.al 1) .un)))), (1, (.sc true (.int .i64)))], [(0, (.ls 2 (.int .i64) true)), (1, (.ls 83 (.pr (.int .i64) (.pr (.int .i64) (.pr (.int .i64) (.pr (.int .i64) (.pr (.int .i64) .un))))) true))], 2⟩
def an_impl_behind : An := ⟨fun l => (lk ([] : List (Nat × Sh)) l).getD noSh, fun l => (lk ([] : List (Nat × List Ri)) l).getD [], fun l => lk ([] : List (Nat × Nat)) l, fun l => lk ([(0, [1, 2, 4]), (1, [2, 4, 6, 7]), (2, [2, 4, 6, 7, 14]), (3, [4, 5]), (4, [2, 4, 6, 19]), (5, [4, 5]), (6, [4, 5])] : List (Nat × List Nat)) l⟩
noncomputable def g_impl_behind (x : ((Int × ((List Int) × ((List (Int × (Int × (Int × (Int × (Int × Unit)))))) × Unit))) × ((List (Int × (Int × (Int × (Int × (Int × (Int × Unit))))))) × Unit))) : Option (Int × (Int × ((List Int) × ((List (Int × (Int × (Int × (Int × (Int × Unit)))))) × Unit)))) :=
  rgd.cal (g_impl_books (x.1, (x.2.1, ()))) fun d0 =>
  rgd.bnd (decide (d0.1 ≠ (0 : Int))) fun y1 =>
  rgd.br y1
    (some ((dz (.int .i64)), (d0.1, ([], ([], ())))))
    (rgd.bnd (d0.2.1.length : Int) fun y2 =>
    rgd.bnd (decide (y2 = (0 : Int))) fun y3 =>
    rgd.br y3
      (rgd.cal (g_impl_ownBook (x.1, ())) fun d4 =>
      some (d4.1, ((0 : Int), (d4.2.1, (d4.2.2.1, ())))))
      (rgd.bnd (d0.2.1.length : Int) fun y5 =>
      rgd.bnd (Go.IntKind.wrap .i64 (y5 - (1 : Int))) fun y6 =>
      rgd.chk (decide ((0 : Int) ≤ y6 ∧ y6 < (d0.2.1.length : Int))) <|
      some ((d0.2.1.getD y6.toNat (dz kd_impl_Book)).1, ((0 : Int), ((d0.2.1.getD y6.toNat (dz kd_impl_Book)).2.1, ((d0.2.1.getD y6.toNat (dz kd_impl_Book)).2.2.1, ()))))))
noncomputable def ent_impl_behind : Ent := ⟨pars_impl_behind, rsh_impl_behind, g_impl_behind, none⟩
noncomputable def E_impl_behind (f : Nat) : Option Ent := lk ([(69, ent_impl_books), (114, ent_impl_ownBook)] : List (Nat × Ent)) f
theorem q_impl_behind : vfun rgd Tf E_impl_behind an_impl_behind 31 pars_impl_behind [(.cell 4 35), (.tmp 5)] rsh_impl_behind (Try.f77.body.getD .skip) = g_impl_behind := by kernel_rfl
theorem h_impl_behind : Holds Try.prog 77 ent_impl_behind ∧ Callable Try.prog 77 :=
  fn_ok tok mixed (E := E_impl_behind) (EOk_add h_impl_books (EOk_add h_impl_ownBook EOk_nil)) Try.func77 (by kernel_rfl) (by kernel_rfl) (rs := [(.cell 4 35), (.tmp 5)]) (by kernel_rfl) (by kernel_rfl) (by kernel_rfl) q_impl_behind
/- loop.example/g01263/impl.DoDeals -/
def pars_impl_DoDeals : List (Nat × TSh) := [(0, (.sc true (.pr (.int .i64) (.pr (.sl 2 (.int .i64)) (.pr (.sl 83 (.pr (.int .i64) (.pr (.int .i64) (.pr (.int .i64) (.pr (.int .i64) (.pr (.int .i64) .un)))))) .un))))), (1, (.sc true (.sl 71 (.pr (.int .i64) (.pr (.int .i8) (.pr (.int .i64) (.pr (.int .i64) (.pr (.int .i64) (.pr (.int .i64) .un)))))))))]
def rsh_impl_DoDeals : Sh := ⟨[(0, (.pr (.sc true (.int .i64)) (.pr (.al 0) (.pr (.al 1) .un)))), (1, (.sc true (.int .i64)))], [(0, (.ls 2 (.int .i64) true)), (1, (.ls 83 (.pr (.int .i64) (.pr (.int .i64) (.pr (.int .i64) (.pr (.int .i64) (.pr (.int .i64) .un))))) true))], 2⟩
def an_impl_DoDeals : An := ⟨fun l => (lk ([] : List (Nat × Sh)) l).getD noSh, fun l => (lk ([] : List (Nat × List Ri)) l).getD [], fun l => lk ([] : List (Nat × Nat)) l, fun l => lk ([(0, [1, 2, 4]), (1, [1, 2, 4, 6]), (2, [1, 2, 4, 6, 11]), (3, [4, 5]), (4, [4, 5])] : List (Nat × List Nat)) l⟩
noncomputable def g_impl_DoDeals (x : ((Int × ((List Int) × ((List (Int × (Int × (Int × (Int × (Int × Unit)))))) × Unit))) × ((List (Int × (Int × (Int × (Int × (Int × (Int × Unit))))))) × Unit))) : Option (Int × (Int × ((List Int) × ((List (Int × (Int × (Int × (Int × (Int × Unit)))))) × Unit)))) :=
  rgd.cal (g_impl_dealsCode (x.1, (x.2.1, ()))) fun d0 =>
  rgd.bnd (decide (d0.1 ≠ (0 : Int))) fun y1 =>
  rgd.br y1
    (some ((dz (.int .i64)), (d0.1, ([], ([], ())))))
    (rgd.cal (g_impl_behind (x.1, (x.2.1, ()))) fun d2 =>
    some (d2.1, (d2.2.1, (d2.2.2.1, (d2.2.2.2.1, ())))))
noncomputable def ent_impl_DoDeals : Ent := ⟨pars_impl_DoDeals, rsh_impl_DoDeals, g_impl_DoDeals, none⟩
noncomputable def E_impl_DoDeals (f : Nat) : Option Ent := lk ([(68, ent_impl_dealsCode), (77, ent_impl_behind)] : List (Nat × Ent)) f
theorem q_impl_DoDeals : vfun rgd Tf E_impl_DoDeals an_impl_DoDeals 19 pars_impl_DoDeals [(.cell 4 35), (.tmp 5)] rsh_impl_DoDeals (Try.f25.body.getD .skip) = g_impl_DoDeals := by kernel_rfl
theorem h_impl_DoDeals : Holds Try.prog 25 ent_impl_DoDeals ∧ Callable Try.prog 25 :=
  fn_ok tok mixed (E := E_impl_DoDeals) (EOk_add h_impl_dealsCode (EOk_add h_impl_behind EOk_nil)) Try.func25 (by kernel_rfl) (by kernel_rfl) (rs := [(.cell 4 35), (.tmp 5)]) (by kernel_rfl) (by kernel_rfl) (by kernel_rfl) q_impl_DoDeals
/- loop.example/g01263/laws.markInt64S -/
def psh_laws_markInt64S : Sh := ⟨[(0, (.al 0)), (1, (.sc true (.int .i64)))], [(0, (.ls 2 (.int .i64) true))], 1⟩
def rsh_laws_markInt64S : Sh := ⟨[(0, (.sc true (.int .i64))), (1, (.al 0))], [(0, (.ls 2 (.int .i64) true))], 1⟩
def an_laws_markInt64S : An := ⟨fun l => (lk ([(2, ⟨[(0, (.al 0)), (1, (.sc true (.int .i64))), (5, (.sc true (.int .i64)))], [(0, (.ls 2 (.int .i64) true))], 1⟩)] : List (Nat × Sh)) l).getD noSh, fun l => (lk ([] : List (Nat × List Ri)) l).getD [], fun l => lk ([] : List (Nat × Nat)) l, fun l => lk ([(0, [0, 1]), (1, [0, 1, 5]), (2, [0, 1, 5, 9]), (3, [0, 1, 5]), (4, [0, 1, 5]), (5, [0, 1, 5]), (6, [0, 4])] : List (Nat × List Nat)) l⟩
noncomputable def g_laws_markInt64S (x : (Int × ((List Int) × Unit))) : Option (Int × ((List Int) × Unit)) :=
  rgd.lop (fun (s0 : (Int × (Int × ((List Int) × Unit)))) =>
    rgd.bnd (s0.2.2.1.length : Int) fun y1 =>
    rgd.bnd (decide (s0.2.1 < y1)) fun y2 =>
    rgd.br y2
      (rgd.chk (decide ((0 : Int) ≤ s0.2.1 ∧ s0.2.1 < (s0.2.2.1.length : Int))) <|
      rgd.bnd (s0.2.2.1.set s0.2.1.toNat s0.1) fun y3 =>
      rgd.bnd (Go.IntKind.wrap .i64 (s0.1 + (1 : Int))) fun y4 =>
      rgd.bnd (Go.IntKind.wrap .i64 (s0.2.1 + (1 : Int))) fun y5 =>
      some (.inl (y4, (y5, (y3, ())))))
      (rgd.out (
        some (s0.1, (s0.2.2.1, ()))))) (x.1, ((0 : Int), (x.2.1, ())))
noncomputable def ent_laws_markInt64S : Ent := ⟨[], ⟨[], [], 0⟩, fun _ => none, some ⟨psh_laws_markInt64S, 2, rsh_laws_markInt64S, 1, g_laws_markInt64S⟩⟩
noncomputable def E_laws_markInt64S (f : Nat) : Option Ent := lk ([] : List (Nat × Ent)) f
theorem q_laws_markInt64S : vfunH rgd Tf E_laws_markInt64S an_laws_markInt64S 19 psh_laws_markInt64S 2 [0] [(.tmp 4)] rsh_laws_markInt64S (Try.f32.body.getD .skip) = g_laws_markInt64S := by kernel_rfl
theorem h_laws_markInt64S : Holds Try.prog 32 ent_laws_markInt64S ∧ Callable Try.prog 32 :=
  fnH_ok tok mixed (E := E_laws_markInt64S) EOk_nil Try.func32 (by kernel_rfl) (by kernel_rfl) (rs := [(.tmp 4)]) (fx := [0]) (by kernel_rfl) (by kernel_rfl) (by kernel_rfl) q_laws_markInt64S
/- loop.example/g01263/laws.markTallyS -/
def psh_laws_markTallyS : Sh := ⟨[(0, (.al 0)), (1, (.sc true (.int .i64)))], [(0, (.ls 83 (.pr (.int .i64) (.pr (.int .i64) (.pr (.int .i64) (.pr (.int .i64) (.pr (.int .i64) .un))))) true))], 1⟩
def rsh_laws_markTallyS : Sh := ⟨[(0, (.sc true (.int .i64))), (1, (.al 0))], [(0, (.ls 83 (.pr (.int .i64) (.pr (.int .i64) (.pr (.int .i64) (.pr (.int .i64) (.pr (.int .i64) .un))))) true))], 1⟩
def an_laws_markTallyS : An := ⟨fun l => (lk ([(2, ⟨[(0, (.al 0)), (1, (.sc true (.int .i64))), (5, (.sc true (.int .i64)))], [(0, (.ls 83 (.pr (.int .i64) (.pr (.int .i64) (.pr (.int .i64) (.pr (.int .i64) (.pr (.int .i64) .un))))) true))], 1⟩)] : List (Nat × Sh)) l).getD noSh, fun l => (lk ([] : List (Nat × List Ri)) l).getD [], fun l => lk ([] : List (Nat × Nat)) l, fun l => lk ([(0, [0, 1]), (1, [0, 1, 5]), (2, [0, 1, 5, 9]), (3, [0, 1, 5]), (4, [0, 1, 5]), (5, [0, 1, 5]), (6, [0, 1, 5]), (7, [0, 1, 5]), (8, [0, 1, 5]), (9, [0, 1, 5]), (10, [0, 1, 5]), (11, [0, 1, 5]), (12, [0, 1, 5]), (13, [0, 1, 5]), (14, [0, 4])] : List (Nat × List Nat)) l⟩
noncomputable def g_laws_markTallyS (x : (Int × ((List (Int × (Int × (Int × (Int × (Int × Unit)))))) × Unit))) : Option (Int × ((List (Int × (Int × (Int × (Int × (Int × Unit)))))) × Unit)) :=
  rgd.lop (fun (s0 : (Int × (Int × ((List (Int × (Int × (Int × (Int × (Int × Unit)))))) × Unit)))) =>
    rgd.bnd (s0.2.2.1.length : Int) fun y1 =>
    rgd.bnd (decide (s0.2.1 < y1)) fun y2 =>
    rgd.br y2
      (rgd.chk (decide ((0 : Int) ≤ s0.2.1 ∧ s0.2.1 < (s0.2.2.1.length : Int))) <|
      rgd.bnd (s0.2.2.1.set s0.2.1.toNat (s0.1, (s0.2.2.1.getD s0.2.1.toNat (dz kd_impl_Tally)).2)) fun y3 =>
      rgd.bnd (Go.IntKind.wrap .i64 (s0.1 + (1 : Int))) fun y4 =>
      rgd.chk (decide ((0 : Int) ≤ s0.2.1 ∧ s0.2.1 < (y3.length : Int))) <|
      rgd.bnd (y3.set s0.2.1.toNat ((y3.getD s0.2.1.toNat (dz kd_impl_Tally)).1, (y4, (y3.getD s0.2.1.toNat (dz kd_impl_Tally)).2.2))) fun y5 =>
      rgd.bnd (Go.IntKind.wrap .i64 (y4 + (1 : Int))) fun y6 =>
      rgd.chk (decide ((0 : Int) ≤ s0.2.1 ∧ s0.2.1 < (y5.length : Int))) <|
      rgd.bnd (y5.set s0.2.1.toNat ((y5.getD s0.2.1.toNat (dz kd_impl_Tally)).1, ((y5.getD s0.2.1.toNat (dz kd_impl_Tally)).2.1, (y6, (y5.getD s0.2.1.toNat (dz kd_impl_Tally)).2.2.2)))) fun y7 =>
      rgd.bnd (Go.IntKind.wrap .i64 (y6 + (1 : Int))) fun y8 =>
      rgd.chk (decide ((0 : Int) ≤ s0.2.1 ∧ s0.2.1 < (y7.length : Int))) <|
      rgd.bnd (y7.set s0.2.1.toNat ((y7.getD s0.2.1.toNat (dz kd_impl_Tally)).1, ((y7.getD s0.2.1.toNat (dz kd_impl_Tally)).2.1, ((y7.getD s0.2.1.toNat (dz kd_impl_Tally)).2.2.1, (y8, (y7.getD s0.2.1.toNat (dz kd_impl_Tally)).2.2.2.2))))) fun y9 =>
      rgd.bnd (Go.IntKind.wrap .i64 (y8 + (1 : Int))) fun y10 =>
      rgd.chk (decide ((0 : Int) ≤ s0.2.1 ∧ s0.2.1 < (y9.length : Int))) <|
      rgd.bnd (y9.set s0.2.1.toNat ((y9.getD s0.2.1.toNat (dz kd_impl_Tally)).1, ((y9.getD s0.2.1.toNat (dz kd_impl_Tally)).2.1, ((y9.getD s0.2.1.toNat (dz kd_impl_Tally)).2.2.1, ((y9.getD s0.2.1.toNat (dz kd_impl_Tally)).2.2.2.1, (y10, (y9.getD s0.2.1.toNat (dz kd_impl_Tally)).2.2.2.2.2)))))) fun y11 =>
      rgd.bnd (Go.IntKind.wrap .i64 (y10 + (1 : Int))) fun y12 =>
      rgd.bnd (Go.IntKind.wrap .i64 (s0.2.1 + (1 : Int))) fun y13 =>
      some (.inl (y12, (y13, (y11, ())))))
      (rgd.out (
        some (s0.1, (s0.2.2.1, ()))))) (x.1, ((0 : Int), (x.2.1, ())))
noncomputable def ent_laws_markTallyS : Ent := ⟨[], ⟨[], [], 0⟩, fun _ => none, some ⟨psh_laws_markTallyS, 2, rsh_laws_markTallyS, 1, g_laws_markTallyS⟩⟩
noncomputable def E_laws_markTallyS (f : Nat) : Option Ent := lk ([] : List (Nat × Ent)) f
theorem q_laws_markTallyS : vfunH rgd Tf E_laws_markTallyS an_laws_markTallyS 48 psh_laws_markTallyS 2 [0] [(.tmp 4)] rsh_laws_markTallyS (Try.f78.body.getD .skip) = g_laws_markTallyS := by kernel_rfl
theorem h_laws_markTallyS : Holds Try.prog 78 ent_laws_markTallyS ∧ Callable Try.prog 78 :=
  fnH_ok tok mixed (E := E_laws_markTallyS) EOk_nil Try.func78 (by kernel_rfl) (by kernel_rfl) (rs := [(.tmp 4)]) (fx := [0]) (by kernel_rfl) (by kernel_rfl) (by kernel_rfl) q_laws_markTallyS
/- loop.example/g01263/laws.markBook -/
def psh_laws_markBook : Sh := ⟨[(0, (.pr (.sc true (.int .i64)) (.pr (.al 0) (.pr (.al 1) .un)))), (1, (.sc true (.int .i64)))], [(0, (.ls 2 (.int .i64) true)), (1, (.ls 83 (.pr (.int .i64) (.pr (.int .i64) (.pr (.int .i64) (.pr (.int .i64) (.pr (.int .i64) .un))))) true))], 2⟩
def rsh_laws_markBook : Sh := ⟨[(0, (.sc true (.int .i64))), (1, (.pr (.sc true (.int .i64)) (.pr (.al 0) (.pr (.al 1) .un))))], [(0, (.ls 2 (.int .i64) true)), (1, (.ls 83 (.pr (.int .i64) (.pr (.int .i64) (.pr (.int .i64) (.pr (.int .i64) (.pr (.int .i64) .un))))) true))], 2⟩
def an_laws_markBook : An := ⟨fun l => (lk ([] : List (Nat × Sh)) l).getD noSh, fun l => (lk ([] : List (Nat × List Ri)) l).getD [], fun l => lk ([] : List (Nat × Nat)) l, fun l => lk ([(0, [0, 1, 2]), (1, [0, 1, 2]), (2, [0, 1]), (3, [0, 4])] : List (Nat × List Nat)) l⟩
noncomputable def g_laws_markBook (x : (Int × (Int × ((List Int) × ((List (Int × (Int × (Int × (Int × (Int × Unit)))))) × Unit))))) : Option (Int × (Int × ((List Int) × ((List (Int × (Int × (Int × (Int × (Int × Unit)))))) × Unit)))) :=
  rgd.cal (g_laws_markInt64S (x.2.1, (x.2.2.1, ()))) fun d0 =>
  rgd.cal (g_laws_markTallyS (d0.1, (x.2.2.2.1, ()))) fun d1 =>
  some (d1.1, (x.1, (d0.2.1, (d1.2.1, ()))))
noncomputable def ent_laws_markBook : Ent := ⟨[], ⟨[], [], 0⟩, fun _ => none, some ⟨psh_laws_markBook, 2, rsh_laws_markBook, 1, g_laws_markBook⟩⟩
noncomputable def E_laws_markBook (f : Nat) : Option Ent := lk ([(32, ent_laws_markInt64S), (78, ent_laws_markTallyS)] : List (Nat × Ent)) f
theorem q_laws_markBook : vfunH rgd Tf E_laws_markBook an_laws_markBook 14 psh_laws_markBook 2 [0] [(.tmp 4)] rsh_laws_markBook (Try.f26.body.getD .skip) = g_laws_markBook := by kernel_rfl
theorem h_laws_markBook : Holds Try.prog 26 ent_laws_markBook ∧ Callable Try.prog 26 :=
  fnH_ok tok mixed (E := E_laws_markBook) (EOk_add h_laws_markInt64S (EOk_add h_laws_markTallyS EOk_nil)) Try.func26 (by kernel_rfl) (by kernel_rfl) (rs := [(.tmp 4)]) (fx := [0]) (by kernel_rfl) (by kernel_rfl) (by kernel_rfl) q_laws_markBook
/- loop.example/g01263/laws.markDealS -/
def psh_laws_markDealS : Sh := ⟨[(0, (.al 0)), (1, (.sc true (.int .i64)))], [(0, (.ls 71 (.pr (.int .i64) (.pr (.int .i8) (.pr (.int .i64) (.pr (.int .i64) (.pr (.int .i64) (.pr (.int .i64) .un)))))) true))], 1⟩
def rsh_laws_markDealS : Sh := ⟨[(0, (.sc true (.int .i64))), (1, (.al 0))], [(0, (.ls 71 (.pr (.int .i64) (.pr (.int .i8) (.pr (.int .i64) (.pr (.int .i64) (.pr (.int .i64) (.pr (.int .i64) .un)))))) true))], 1⟩
def an_laws_markDealS : An := ⟨fun l => (lk ([(2, ⟨[(0, (.al 0)), (1, (.sc true (.int .i64))), (5, (.sc true (.int .i64)))], [(0, (.ls 71 (.pr (.int .i64) (.pr (.int .i8) (.pr (.int .i64) (.pr (.int .i64) (.pr (.int .i64) (.pr (.int .i64) .un)))))) true))], 1⟩)] : List (Nat × Sh)) l).getD noSh, fun l => (lk ([] : List (Nat × List Ri)) l).getD [], fun l => lk ([] : List (Nat × Nat)) l, fun l => lk ([(0, [0, 1]), (1, [0, 1, 5]), (2, [0, 1, 5, 9]), (3, [0, 1, 5]), (4, [0, 1, 5]), (5, [0, 1, 5]), (6, [0, 1, 5]), (7, [0, 1, 5]), (8, [0, 1, 5]), (9, [0, 1, 5]), (10, [0, 1, 5]), (11, [0, 1, 5]), (12, [0, 1, 5]), (13, [0, 1, 5]), (14, [0, 1, 5]), (15, [0, 1, 5]), (16, [0, 4])] : List (Nat × List Nat)) l⟩
noncomputable def g_laws_markDealS (x : (Int × ((List (Int × (Int × (Int × (Int × (Int × (Int × Unit))))))) × Unit))) : Option (Int × ((List (Int × (Int × (Int × (Int × (Int × (Int × Unit))))))) × Unit)) :=
  rgd.lop (fun (s0 : (Int × (Int × ((List (Int × (Int × (Int × (Int × (Int × (Int × Unit))))))) × Unit)))) =>
    rgd.bnd (s0.2.2.1.length : Int) fun y1 =>
    rgd.bnd (decide (s0.2.1 < y1)) fun y2 =>
    rgd.br y2
      (rgd.chk (decide ((0 : Int) ≤ s0.2.1 ∧ s0.2.1 < (s0.2.2.1.length : Int))) <|
      rgd.bnd (s0.2.2.1.set s0.2.1.toNat (s0.1, (s0.2.2.1.getD s0.2.1.toNat (dz kd_impl_Deal)).2)) fun y3 =>
      rgd.bnd (Go.IntKind.wrap .i64 (s0.1 + (1 : Int))) fun y4 =>
      rgd.bnd (Go.IntKind.wrap .i8 y4) fun y5 =>
      rgd.chk (decide ((0 : Int) ≤ s0.2.1 ∧ s0.2.1 < (y3.length : Int))) <|
      rgd.bnd (y3.set s0.2.1.toNat ((y3.getD s0.2.1.toNat (dz kd_impl_Deal)).1, (y5, (y3.getD s0.2.1.toNat (dz kd_impl_Deal)).2.2))) fun y6 =>
      rgd.bnd (Go.IntKind.wrap .i64 (y4 + (1 : Int))) fun y7 =>
      rgd.chk (decide ((0 : Int) ≤ s0.2.1 ∧ s0.2.1 < (y6.length : Int))) <|
      rgd.bnd (y6.set s0.2.1.toNat ((y6.getD s0.2.1.toNat (dz kd_impl_Deal)).1, ((y6.getD s0.2.1.toNat (dz kd_impl_Deal)).2.1, (y7, (y6.getD s0.2.1.toNat (dz kd_impl_Deal)).2.2.2)))) fun y8 =>
      rgd.bnd (Go.IntKind.wrap .i64 (y7 + (1 : Int))) fun y9 =>
      rgd.chk (decide ((0 : Int) ≤ s0.2.1 ∧ s0.2.1 < (y8.length : Int))) <|
      rgd.bnd (y8.set s0.2.1.toNat ((y8.getD s0.2.1.toNat (dz kd_impl_Deal)).1, ((y8.getD s0.2.1.toNat (dz kd_impl_Deal)).2.1, ((y8.getD s0.2.1.toNat (dz kd_impl_Deal)).2.2.1, (y9, (y8.getD s0.2.1.toNat (dz kd_impl_Deal)).2.2.2.2))))) fun y10 =>
      rgd.bnd (Go.IntKind.wrap .i64 (y9 + (1 : Int))) fun y11 =>
      rgd.chk (decide ((0 : Int) ≤ s0.2.1 ∧ s0.2.1 < (y10.length : Int))) <|
      rgd.bnd (y10.set s0.2.1.toNat ((y10.getD s0.2.1.toNat (dz kd_impl_Deal)).1, ((y10.getD s0.2.1.toNat (dz kd_impl_Deal)).2.1, ((y10.getD s0.2.1.toNat (dz kd_impl_Deal)).2.2.1, ((y10.getD s0.2.1.toNat (dz kd_impl_Deal)).2.2.2.1, (y11, (y10.getD s0.2.1.toNat (dz kd_impl_Deal)).2.2.2.2.2)))))) fun y12 =>
      rgd.bnd (Go.IntKind.wrap .i64 (y11 + (1 : Int))) fun y13 =>
      rgd.chk (decide ((0 : Int) ≤ s0.2.1 ∧ s0.2.1 < (y12.length : Int))) <|
      rgd.bnd (y12.set s0.2.1.toNat ((y12.getD s0.2.1.toNat (dz kd_impl_Deal)).1, ((y12.getD s0.2.1.toNat (dz kd_impl_Deal)).2.1, ((y12.getD s0.2.1.toNat (dz kd_impl_Deal)).2.2.1, ((y12.getD s0.2.1.toNat (dz kd_impl_Deal)).2.2.2.1, ((y12.getD s0.2.1.toNat (dz kd_impl_Deal)).2.2.2.2.1, (y13, (y12.getD s0.2.1.toNat (dz kd_impl_Deal)).2.2.2.2.2.2))))))) fun y14 =>
      rgd.bnd (Go.IntKind.wrap .i64 (y13 + (1 : Int))) fun y15 =>
      rgd.bnd (Go.IntKind.wrap .i64 (s0.2.1 + (1 : Int))) fun y16 =>
      some (.inl (y15, (y16, (y14, ())))))
      (rgd.out (
        some (s0.1, (s0.2.2.1, ()))))) (x.1, ((0 : Int), (x.2.1, ())))
noncomputable def ent_laws_markDealS : Ent := ⟨[], ⟨[], [], 0⟩, fun _ => none, some ⟨psh_laws_markDealS, 2, rsh_laws_markDealS, 1, g_laws_markDealS⟩⟩
noncomputable def E_laws_markDealS (f : Nat) : Option Ent := lk ([] : List (Nat × Ent)) f
theorem q_laws_markDealS : vfunH rgd Tf E_laws_markDealS an_laws_markDealS 56 psh_laws_markDealS 2 [0] [(.tmp 4)] rsh_laws_markDealS (Try.f27.body.getD .skip) = g_laws_markDealS := by kernel_rfl
theorem h_laws_markDealS : Holds Try.prog 27 ent_laws_markDealS ∧ Callable Try.prog 27 :=
  fnH_ok tok mixed (E := E_laws_markDealS) EOk_nil Try.func27 (by kernel_rfl) (by kernel_rfl) (rs := [(.tmp 4)]) (fx := [0]) (by kernel_rfl) (by kernel_rfl) (by kernel_rfl) q_laws_markDealS
/- loop.example/g01263/laws.heldInt64S -/
def pars_laws_heldInt64S : List (Nat × TSh) := [(0, (.sc true (.sl 2 (.int .i64)))), (1, (.sc true (.int .i64)))]
def rsh_laws_heldInt64S : Sh := ⟨[(0, (.sc true (.int .i64)))], [], 0⟩
def an_laws_heldInt64S : An := ⟨fun l => (lk ([(2, ⟨[(0, (.sc true (.sl 2 (.int .i64)))), (1, (.sc true (.int .i64))), (5, (.sc true (.int .i64)))], [], 0⟩)] : List (Nat × Sh)) l).getD noSh, fun l => (lk ([] : List (Nat × List Ri)) l).getD [], fun l => lk ([] : List (Nat × Nat)) l, fun l => lk ([(0, [0, 1]), (1, [0, 1, 5]), (2, [0, 1, 5, 9]), (3, [0, 1, 5]), (4, [0, 1, 5, 17]), (5, [4]), (6, [0, 1, 5]), (7, [4])] : List (Nat × List Nat)) l⟩
noncomputable def g_laws_heldInt64S (x : ((List Int) × (Int × Unit))) : Option (Int × Unit) :=
  rgd.lop (fun (s0 : ((List Int) × (Int × (Int × Unit)))) =>
    rgd.bnd (s0.1.length : Int) fun y1 =>
    rgd.bnd (decide (s0.2.2.1 < y1)) fun y2 =>
    rgd.br y2
      (rgd.chk (decide ((0 : Int) ≤ s0.2.2.1 ∧ s0.2.2.1 < (s0.1.length : Int))) <|
      rgd.bnd (s0.1.getD s0.2.2.1.toNat (dz (.int .i64))) fun y3 =>
      rgd.bnd (decide (y3 ≠ s0.2.1)) fun y4 =>
      rgd.br y4
        (rgd.out (
          some ((-1 : Int), ())))
        (rgd.bnd (Go.IntKind.wrap .i64 (s0.2.1 + (1 : Int))) fun y5 =>
        rgd.bnd (Go.IntKind.wrap .i64 (s0.2.2.1 + (1 : Int))) fun y6 =>
        some (.inl (s0.1, (y5, (y6, ()))))))
      (rgd.out (
        some (s0.2.1, ())))) (x.1, (x.2.1, ((0 : Int), ())))
noncomputable def ent_laws_heldInt64S : Ent := ⟨pars_laws_heldInt64S, rsh_laws_heldInt64S, g_laws_heldInt64S, none⟩
noncomputable def E_laws_heldInt64S (f : Nat) : Option Ent := lk ([] : List (Nat × Ent)) f
theorem q_laws_heldInt64S : vfun rgd Tf E_laws_heldInt64S an_laws_heldInt64S 21 pars_laws_heldInt64S [(.tmp 4)] rsh_laws_heldInt64S (Try.f33.body.getD .skip) = g_laws_heldInt64S := by kernel_rfl
theorem h_laws_heldInt64S : Holds Try.prog 33 ent_laws_heldInt64S ∧ Callable Try.prog 33 :=
  fn_ok tok mixed (E := E_laws_heldInt64S) EOk_nil Try.func33 (by kernel_rfl) (by kernel_rfl) (rs := [(.tmp 4)]) (by kernel_rfl) (by kernel_rfl) (by kernel_rfl) q_laws_heldInt64S
/- loop.example/g01263/laws.heldTallyS -/
def pars_laws_heldTallyS : List (Nat × TSh) := [(0, (.sc true (.sl 83 (.pr (.int .i64) (.pr (.int .i64) (.pr (.int .i64) (.pr (.int .i64) (.pr (.int .i64) .un)))))))), (1, (.sc true (.int .i64)))]
def rsh_laws_heldTallyS : Sh := ⟨[(0, (.sc true (.int .i64)))], [], 0⟩
def an_laws_heldTallyS : An := ⟨fun l => (lk ([(2, ⟨[(0, (.sc true (.sl 83 (.pr (.int .i64) (.pr (.int .i64) (.pr (.int .i64) (.pr (.int .i64) (.pr (.int .i64) .un)))))))), (1, (.sc true (.int .i64))), (5, (.sc true (.int .i64)))], [], 0⟩)] : List (Nat × Sh)) l).getD noSh, fun l => (lk ([] : List (Nat × List Ri)) l).getD [], fun l => lk ([] : List (Nat × Nat)) l, fun l => lk ([(0, [0, 1]), (1, [0, 1, 5]), (2, [0, 1, 5, 9]), (3, [0, 1, 5]), (4, [0, 1, 5, 18]), (5, [4]), (6, [0, 1, 5]), (7, [0, 1, 5, 27]), (8, [4]), (9, [0, 1, 5]), (10, [0, 1, 5, 36]), (11, [4]), (12, [0, 1, 5]), (13, [0, 1, 5, 45]), (14, [4]), (15, [0, 1, 5]), (16, [0, 1, 5, 54]), (17, [4]), (18, [0, 1, 5]), (19, [4])] : List (Nat × List Nat)) l⟩
noncomputable def g_laws_heldTallyS (x : ((List (Int × (Int × (Int × (Int × (Int × Unit)))))) × (Int × Unit))) : Option (Int × Unit) :=
  rgd.lop (fun (s0 : ((List (Int × (Int × (Int × (Int × (Int × Unit)))))) × (Int × (Int × Unit)))) =>
    rgd.bnd (s0.1.length : Int) fun y1 =>
    rgd.bnd (decide (s0.2.2.1 < y1)) fun y2 =>
    rgd.br y2
      (rgd.chk (decide ((0 : Int) ≤ s0.2.2.1 ∧ s0.2.2.1 < (s0.1.length : Int))) <|
      rgd.bnd (s0.1.getD s0.2.2.1.toNat (dz kd_impl_Tally)) fun y3 =>
      rgd.bnd (decide (y3.1 ≠ s0.2.1)) fun y4 =>
      rgd.br y4
        (rgd.out (
          some ((-1 : Int), ())))
        (rgd.bnd (Go.IntKind.wrap .i64 (s0.2.1 + (1 : Int))) fun y5 =>
        rgd.chk (decide ((0 : Int) ≤ s0.2.2.1 ∧ s0.2.2.1 < (s0.1.length : Int))) <|
        rgd.bnd (s0.1.getD s0.2.2.1.toNat (dz kd_impl_Tally)) fun y6 =>
        rgd.bnd (decide (y6.2.1 ≠ y5)) fun y7 =>
        rgd.br y7
          (rgd.out (
            some ((-1 : Int), ())))
          (rgd.bnd (Go.IntKind.wrap .i64 (y5 + (1 : Int))) fun y8 =>
          rgd.chk (decide ((0 : Int) ≤ s0.2.2.1 ∧ s0.2.2.1 < (s0.1.length : Int))) <|
          rgd.bnd (s0.1.getD s0.2.2.1.toNat (dz kd_impl_Tally)) fun y9 =>
          rgd.bnd (decide (y9.2.2.1 ≠ y8)) fun y10 =>
          rgd.br y10
            (rgd.out (
              some ((-1 : Int), ())))
            (rgd.bnd (Go.IntKind.wrap .i64 (y8 + (1 : Int))) fun y11 =>
            rgd.chk (decide ((0 : Int) ≤ s0.2.2.1 ∧ s0.2.2.1 < (s0.1.length : Int))) <|
            rgd.bnd (s0.1.getD s0.2.2.1.toNat (dz kd_impl_Tally)) fun y12 =>
            rgd.bnd (decide (y12.2.2.2.1 ≠ y11)) fun y13 =>
            rgd.br y13
              (rgd.out (
                some ((-1 : Int), ())))
              (rgd.bnd (Go.IntKind.wrap .i64 (y11 + (1 : Int))) fun y14 =>
              rgd.chk (decide ((0 : Int) ≤ s0.2.2.1 ∧ s0.2.2.1 < (s0.1.length : Int))) <|
              rgd.bnd (s0.1.getD s0.2.2.1.toNat (dz kd_impl_Tally)) fun y15 =>
              rgd.bnd (decide (y15.2.2.2.2.1 ≠ y14)) fun y16 =>
              rgd.br y16
                (rgd.out (
                  some ((-1 : Int), ())))
                (rgd.bnd (Go.IntKind.wrap .i64 (y14 + (1 : Int))) fun y17 =>
                rgd.bnd (Go.IntKind.wrap .i64 (s0.2.2.1 + (1 : Int))) fun y18 =>
                some (.inl (s0.1, (y17, (y18, ()))))))))))
      (rgd.out (
        some (s0.2.1, ())))) (x.1, (x.2.1, ((0 : Int), ())))
noncomputable def ent_laws_heldTallyS : Ent := ⟨pars_laws_heldTallyS, rsh_laws_heldTallyS, g_laws_heldTallyS, none⟩
noncomputable def E_laws_heldTallyS (f : Nat) : Option Ent := lk ([] : List (Nat × Ent)) f
theorem q_laws_heldTallyS : vfun rgd Tf E_laws_heldTallyS an_laws_heldTallyS 58 pars_laws_heldTallyS [(.tmp 4)] rsh_laws_heldTallyS (Try.f79.body.getD .skip) = g_laws_heldTallyS := by kernel_rfl
theorem h_laws_heldTallyS : Holds Try.prog 79 ent_laws_heldTallyS ∧ Callable Try.prog 79 :=
  fn_ok tok mixed (E := E_laws_heldTallyS) EOk_nil Try.func79 (by kernel_rfl) (by kernel_rfl) (rs := [(.tmp 4)]) (by kernel_rfl) (by kernel_rfl) (by kernel_rfl) q_laws_heldTallyS
/- loop.example/g01263/laws.heldBook -/
def pars_laws_heldBook : List (Nat × TSh) := [(0, (.sc true (.pr (.int .i64) (.pr (.sl 2 (.int .i64)) (.pr (.sl 83 (.pr (.int .i64) (.pr (.int .i64) (.pr (.int .i64) (.pr (.int .i64) (.pr (.int .i64) .un)))))) .un))))), (1, (.sc true (.int .i64)))]
def rsh_laws_heldBook : Sh := ⟨[(0, (.sc true (.int .i64)))], [], 0⟩
def an_laws_heldBook : An := ⟨fun l => (lk ([] : List (Nat × Sh)) l).getD noSh, fun l => (lk ([] : List (Nat × List Ri)) l).getD [], fun l => lk ([] : List (Nat × Nat)) l, fun l => lk ([(0, [1, 2]), (1, [1, 2]), (2, [1, 2, 10]), (3, [4]), (4, [1]), (5, [1, 16]), (6, [4]), (7, [4])] : List (Nat × List Nat)) l⟩
noncomputable def g_laws_heldBook (x : ((Int × ((List Int) × ((List (Int × (Int × (Int × (Int × (Int × Unit)))))) × Unit))) × (Int × Unit))) : Option (Int × Unit) :=
  rgd.cal (g_laws_heldInt64S (x.1.2.1, (x.2.1, ()))) fun d0 =>
  rgd.bnd (decide (d0.1 < (0 : Int))) fun y1 =>
  rgd.br y1
    (some ((-1 : Int), ()))
    (rgd.cal (g_laws_heldTallyS (x.1.2.2.1, (d0.1, ()))) fun d2 =>
    rgd.bnd (decide (d2.1 < (0 : Int))) fun y3 =>
    rgd.br y3
      (some ((-1 : Int), ()))
      (some (d2.1, ())))
noncomputable def ent_laws_heldBook : Ent := ⟨pars_laws_heldBook, rsh_laws_heldBook, g_laws_heldBook, none⟩
noncomputable def E_laws_heldBook (f : Nat) : Option Ent := lk ([(33, ent_laws_heldInt64S), (79, ent_laws_heldTallyS)] : List (Nat × Ent)) f
theorem q_laws_heldBook : vfun rgd Tf E_laws_heldBook an_laws_heldBook 18 pars_laws_heldBook [(.tmp 4)] rsh_laws_heldBook (Try.f28.body.getD .skip) = g_laws_heldBook := by kernel_rfl
theorem h_laws_heldBook : Holds Try.prog 28 ent_laws_heldBook ∧ Callable Try.prog 28 :=
  fn_ok tok mixed (E := E_laws_heldBook) (EOk_add h_laws_heldInt64S (EOk_add h_laws_heldTallyS EOk_nil)) Try.func28 (by kernel_rfl) (by kernel_rfl) (rs := [(.tmp 4)]) (by kernel_rfl) (by kernel_rfl) (by kernel_rfl) q_laws_heldBook
/- loop.example/g01263/laws.FnExactDoDeals -/
def pars_laws_FnExactDoDeals : List (Nat × TSh) := [(0, (.sc true (.pr (.int .i64) (.pr (.sl 2 (.int .i64)) (.pr (.sl 134 (.pr (.int .i64) (.pr (.int .i64) (.pr (.int .i64) (.pr (.int .i64) (.pr (.int .i64) .un)))))) .un))))), (1, (.sc true (.sl 94 (.pr (.int .i64) (.pr (.int .i8) (.pr (.int .i64) (.pr (.int .i64) (.pr (.int .i64) (.pr (.int .i64) .un)))))))))]
def rsh_laws_FnExactDoDeals : Sh := ⟨[(0, (.sc true .bool))], [], 0⟩
def an_laws_FnExactDoDeals : An := ⟨fun l => (lk ([] : List (Nat × Sh)) l).getD noSh, fun l => (lk ([(12, [⟨0, false, []⟩, ⟨1, false, []⟩, ⟨3, false, []⟩, ⟨7, false, []⟩, ⟨15, false, []⟩, ⟨31, false, []⟩, ⟨63, false, []⟩, ⟨127, false, []⟩, ⟨255, false, []⟩]), (14, [⟨0, false, [55, 56]⟩, ⟨0, false, [54]⟩, ⟨2, false, [54]⟩, ⟨7, true, []⟩, ⟨15, true, []⟩]), (21, [⟨0, false, []⟩, ⟨1, false, []⟩, ⟨3, false, []⟩, ⟨7, false, []⟩, ⟨15, false, []⟩, ⟨31, false, []⟩, ⟨63, false, []⟩, ⟨127, false, []⟩, ⟨255, false, []⟩, ⟨511, false, []⟩, ⟨1023, false, []⟩, ⟨2047, false, []⟩, ⟨4095, false, []⟩]), (32, [⟨0, false, []⟩, ⟨1, false, []⟩, ⟨3, false, []⟩, ⟨7, false, []⟩, ⟨15, false, []⟩, ⟨31, false, []⟩, ⟨63, false, []⟩, ⟨127, false, []⟩, ⟨255, false, []⟩])] : List (Nat × List Ri)) l).getD [], fun l => lk ([(12, 53), (21, 82), (32, 110)] : List (Nat × Nat)) l, fun l => lk ([(0, [1, 2]), (1, [1, 2, 5]), (2, [1, 2, 5]), (3, [1, 2, 5, 21]), (4, [4]), (5, [1, 2, 5]), (6, [1, 2, 26]), (7, [4]), (8, [1, 2, 6, 7]), (9, [1, 2, 6, 7, 8]), (10, [1, 2, 6, 7, 8, 9]), (11, [1, 2, 6, 7, 8, 9, 10, 11]), (12, [1, 2, 6, 7, 8, 9, 10, 11, 53]), (13, [4]), (14, [1, 2, 6, 7, 8, 9, 10, 11, 58]), (15, [4]), (16, [1, 2, 6, 7, 8, 9, 10, 11, 63]), (17, [4]), (18, [1, 2, 6, 7, 8, 9, 10, 11, 12]), (19, [1, 2, 6, 7, 9, 10, 11, 12]), (20, [1, 2, 6, 7, 10, 11, 12]), (21, [1, 2, 6, 7, 10, 82]), (22, [4]), (23, [1, 2, 6, 7, 10, 13]), (24, [1, 2, 6, 7, 10, 13]), (25, [1, 2, 6, 7, 10, 13, 14]), (26, [1, 2, 6, 7, 10, 13, 14]), (27, [1, 2, 6, 7, 10, 13, 14, 90]), (28, [4]), (29, [1, 2, 6, 7, 10, 13, 93]), (30, [4]), (31, [6, 7, 10, 13, 15, 16]), (32, [10, 13, 110]), (33, [4]), (34, [10, 13, 14]), (35, [13, 14]), (36, [13, 14, 115]), (37, [4]), (38, [118]), (39, [4]), (40, [4])] : List (Nat × List Nat)) l⟩
noncomputable def g_laws_FnExactDoDeals (x : ((Int × ((List Int) × ((List (Int × (Int × (Int × (Int × (Int × Unit)))))) × Unit))) × ((List (Int × (Int × (Int × (Int × (Int × (Int × Unit))))))) × Unit))) : Option (Bool × Unit) :=
  rgd.cal (g_laws_szBook (x.1, ((1048576 : Int), ()))) fun d0 =>
  rgd.bnd (decide (d0.1 < (0 : Int))) fun y1 =>
  rgd.br y1
    (some (true, ()))
    (rgd.cal (g_laws_szDealS (x.2.1, (d0.1, ()))) fun d2 =>
    rgd.bnd (decide (d2.1 < (0 : Int))) fun y3 =>
    rgd.br y3
      (some (true, ()))
      (rgd.cal (g_laws_toBook (x.1, ())) fun d4 =>
      rgd.cal (g_laws_toDealS (x.2.1, ())) fun d5 =>
      rgd.cal (g_spec_DoDeals ((d4.1, (d4.2.1, (d4.2.2.1, ()))), (d5.1, ()))) fun d6 =>
      rgd.cal (g_laws_toBook (x.1, ())) fun d7 =>
      rgd.cal (g_laws_toDealS (x.2.1, ())) fun d8 =>
      rgd.cal (g_impl_DoDeals ((d7.1, (d7.2.1, (d7.2.2.1, ()))), (d8.1, ()))) fun d9 =>
      rgd.jn (
          rgd.cal (g_laws_eqBook ((d9.1, (d9.2.2.1, (d9.2.2.2.1, ()))), ((d6.1, (d6.2.2.1, (d6.2.2.2.1, ()))), ()))) fun d11 =>
          rgd.bnd (!d11.1) fun y12 =>
          rgd.br y12
            (some true)
            (rgd.bnd (decide (d9.2.1 ≠ d6.2.1)) fun y13 =>
            some y13)) fun b10 =>
      rgd.br b10
        (some (false, ()))
        (rgd.cal (g_laws_toBook (x.1, ())) fun d14 =>
        rgd.cal (g_laws_eqBook ((d7.1, (d7.2.1, (d7.2.2.1, ()))), ((d14.1, (d14.2.1, (d14.2.2.1, ()))), ()))) fun d15 =>
        rgd.bnd (!d15.1) fun y16 =>
        rgd.br y16
          (some (false, ()))
          (rgd.cal (g_laws_toDealS (x.2.1, ())) fun d17 =>
          rgd.cal (g_laws_eqDealS (d8.1, (d17.1, ()))) fun d18 =>
          rgd.bnd (!d18.1) fun y19 =>
          rgd.br y19
            (some (false, ()))
            (rgd.cal (g_laws_markBook (d7.1, ((1 : Int), (d7.2.1, (d7.2.2.1, ()))))) fun d20 =>
            rgd.cal (g_laws_markDealS (d20.1, (d8.1, ()))) fun d21 =>
            rgd.jn (
                rgd.bnd (decide (d21.1 < (0 : Int))) fun y23 =>
                rgd.br y23
                  (some true)
                  (rgd.cal (g_laws_eqBook ((d9.1, (d9.2.2.1, (d9.2.2.2.1, ()))), ((d6.1, (d6.2.2.1, (d6.2.2.2.1, ()))), ()))) fun d24 =>
                  rgd.bnd (!d24.1) fun y25 =>
                  rgd.br y25
                    (some true)
                    (rgd.bnd (decide (d9.2.1 ≠ d6.2.1)) fun y26 =>
                    some y26))) fun b22 =>
            rgd.br b22
              (some (false, ()))
              (rgd.cal (g_laws_markBook (d9.1, ((1 : Int), (d9.2.2.1, (d9.2.2.2.1, ()))))) fun d27 =>
              rgd.cal (g_laws_heldBook ((d9.1, (d27.2.2.1, (d27.2.2.2.1, ()))), ((1 : Int), ()))) fun d28 =>
              rgd.bnd (decide (d28.1 < (0 : Int))) fun y29 =>
              rgd.br y29
                (some (false, ()))
                (rgd.bnd (decide (d28.1 ≠ d27.1)) fun y30 =>
                rgd.br y30
                  (some (false, ()))
                  (rgd.cal (g_laws_toBook (x.1, ())) fun d31 =>
                  rgd.cal (g_laws_toDealS (x.2.1, ())) fun d32 =>
                  rgd.cal (g_impl_DoDeals ((d31.1, (d31.2.1, (d31.2.2.1, ()))), (d32.1, ()))) fun d33 =>
                  rgd.jn (
                      rgd.cal (g_laws_eqBook ((d33.1, (d33.2.2.1, (d33.2.2.2.1, ()))), ((d6.1, (d6.2.2.1, (d6.2.2.2.1, ()))), ()))) fun d35 =>
                      rgd.bnd (!d35.1) fun y36 =>
                      rgd.br y36
                        (some true)
                        (rgd.bnd (decide (d33.2.1 ≠ d6.2.1)) fun y37 =>
                        some y37)) fun b34 =>
                  rgd.br b34
                    (some (false, ()))
                    (rgd.cal (g_laws_heldBook ((d9.1, (d27.2.2.1, (d27.2.2.2.1, ()))), ((1 : Int), ()))) fun d38 =>
                    rgd.bnd (decide (d38.1 < (0 : Int))) fun y39 =>
                    rgd.br y39
                      (some (false, ()))
                      (rgd.bnd (decide (d38.1 ≠ d27.1)) fun y40 =>
                      rgd.br y40
                        (some (false, ()))
                        (some (true, ()))))))))))))
noncomputable def ent_laws_FnExactDoDeals : Ent := ⟨pars_laws_FnExactDoDeals, rsh_laws_FnExactDoDeals, g_laws_FnExactDoDeals, none⟩
noncomputable def E_laws_FnExactDoDeals (f : Nat) : Option Ent := lk ([(11, ent_laws_szBook), (12, ent_laws_szDealS), (15, ent_laws_toBook), (16, ent_laws_toDealS), (19, ent_laws_eqBook), (20, ent_laws_eqDealS), (24, ent_spec_DoDeals), (25, ent_impl_DoDeals), (26, ent_laws_markBook), (27, ent_laws_markDealS), (28, ent_laws_heldBook)] : List (Nat × Ent)) f
theorem q_laws_FnExactDoDeals : vfun rgd Tf E_laws_FnExactDoDeals an_laws_FnExactDoDeals 119 pars_laws_FnExactDoDeals [(.tmp 4)] rsh_laws_FnExactDoDeals (Try.f5.body.getD .skip) = g_laws_FnExactDoDeals := by kernel_rfl
theorem h_laws_FnExactDoDeals : Holds Try.prog 5 ent_laws_FnExactDoDeals ∧ Callable Try.prog 5 :=
  fn_ok tok mixed (E := E_laws_FnExactDoDeals) (EOk_add h_laws_szBook (EOk_add h_laws_szDealS (EOk_add h_laws_toBook (EOk_add h_laws_toDealS (EOk_add h_laws_eqBook (EOk_add h_laws_eqDealS (EOk_add h_spec_DoDeals (EOk_add h_impl_DoDeals (EOk_add h_laws_markBook (EOk_add h_laws_markDealS (EOk_add h_laws_heldBook EOk_nil))))))))))) Try.func5 (by kernel_rfl) (by kernel_rfl) (rs := [(.tmp 4)]) (by kernel_rfl) (by kernel_rfl) (by kernel_rfl) q_laws_FnExactDoDeals
end Go.Proofs.Ytjnfbibaldbjhaa
