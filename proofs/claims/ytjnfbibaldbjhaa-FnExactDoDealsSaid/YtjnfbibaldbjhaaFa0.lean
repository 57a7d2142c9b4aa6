/- The functions of the loaded program, as they are worked out, each with its contract: told by a program of this work. -/
import Derived.Test.YtjnfbibaldbjhaaProg
import Derived.Test.YtjnfbibaldbjhaaVmG
import Derived.KernelRfl
set_option linter.unusedVariables false
set_option maxRecDepth 100000
namespace Go.Proofs.Ytjnfbibaldbjhaa
open Go.Vm
def Tl : List (Nat × K) := [(2, (.int .i64)), (3, (.int .i64)), (4, .bool), (5, (.int .u8)), (6, (.int .u8)), (7, (.pr (.int .i64) (.pr (.int .i64) (.pr .bool (.pr (.int .u8) .un))))), (8, (.pr (.int .i64) (.pr (.int .i64) (.pr .bool (.pr (.int .u8) .un))))), (9, .str), (10, .str), (11, .str), (12, (.int .u64)), (21, (.int .i32)), (22, (.sl 2 (.int .i64))), (23, (.sl 134 (.pr (.int .i64) (.pr (.int .i64) (.pr (.int .i64) (.pr (.int .i64) (.pr (.int .i64) .un))))))), (24, (.pr (.int .i64) (.pr (.sl 2 (.int .i64)) (.pr (.sl 134 (.pr (.int .i64) (.pr (.int .i64) (.pr (.int .i64) (.pr (.int .i64) (.pr (.int .i64) .un)))))) .un)))), (25, (.pr (.int .i64) (.pr (.sl 2 (.int .i64)) (.pr (.sl 134 (.pr (.int .i64) (.pr (.int .i64) (.pr (.int .i64) (.pr (.int .i64) (.pr (.int .i64) .un)))))) .un)))), (26, (.sl 94 (.pr (.int .i64) (.pr (.int .i8) (.pr (.int .i64) (.pr (.int .i64) (.pr (.int .i64) (.pr (.int .i64) .un)))))))), (27, (.sl 25 (.pr (.int .i64) (.pr (.sl 2 (.int .i64)) (.pr (.sl 134 (.pr (.int .i64) (.pr (.int .i64) (.pr (.int .i64) (.pr (.int .i64) (.pr (.int .i64) .un)))))) .un))))), (33, (.sl 83 (.pr (.int .i64) (.pr (.int .i64) (.pr (.int .i64) (.pr (.int .i64) (.pr (.int .i64) .un))))))), (34, (.pr (.int .i64) (.pr (.sl 2 (.int .i64)) (.pr (.sl 83 (.pr (.int .i64) (.pr (.int .i64) (.pr (.int .i64) (.pr (.int .i64) (.pr (.int .i64) .un)))))) .un)))), (35, (.pr (.int .i64) (.pr (.sl 2 (.int .i64)) (.pr (.sl 83 (.pr (.int .i64) (.pr (.int .i64) (.pr (.int .i64) (.pr (.int .i64) (.pr (.int .i64) .un)))))) .un)))), (37, (.sl 71 (.pr (.int .i64) (.pr (.int .i8) (.pr (.int .i64) (.pr (.int .i64) (.pr (.int .i64) (.pr (.int .i64) .un)))))))), (39, (.sl 35 (.pr (.int .i64) (.pr (.sl 2 (.int .i64)) (.pr (.sl 83 (.pr (.int .i64) (.pr (.int .i64) (.pr (.int .i64) (.pr (.int .i64) (.pr (.int .i64) .un)))))) .un))))), (61, (.sl 5 (.int .u8))), (69, (.int .i8)), (70, (.pr (.int .i64) (.pr (.int .i8) (.pr (.int .i64) (.pr (.int .i64) (.pr (.int .i64) (.pr (.int .i64) .un))))))), (71, (.pr (.int .i64) (.pr (.int .i8) (.pr (.int .i64) (.pr (.int .i64) (.pr (.int .i64) (.pr (.int .i64) .un))))))), (73, (.sl 124 (.pr (.int .i64) (.pr (.int .i64) (.pr (.int .i64) .un))))), (82, (.pr (.int .i64) (.pr (.int .i64) (.pr (.int .i64) (.pr (.int .i64) (.pr (.int .i64) .un)))))), (83, (.pr (.int .i64) (.pr (.int .i64) (.pr (.int .i64) (.pr (.int .i64) (.pr (.int .i64) .un)))))), (94, (.pr (.int .i64) (.pr (.int .i8) (.pr (.int .i64) (.pr (.int .i64) (.pr (.int .i64) (.pr (.int .i64) .un))))))), (102, (.sl 4 .bool)), (123, (.pr (.int .i64) (.pr (.int .i64) (.pr (.int .i64) .un)))), (124, (.pr (.int .i64) (.pr (.int .i64) (.pr (.int .i64) .un)))), (134, (.pr (.int .i64) (.pr (.int .i64) (.pr (.int .i64) (.pr (.int .i64) (.pr (.int .i64) .un)))))), (141, (.int .u64)), (142, (.pr (.sl 5 (.int .u8)) (.pr (.int .i64) (.pr (.int .u64) .un)))), (143, (.pr (.sl 5 (.int .u8)) (.pr (.int .i64) (.pr (.int .u64) .un)))), (146, (.arr 16 (.int .i64))), (147, (.arr 16 (.arr 16 (.int .i64)))), (148, (.arr 16 (.arr 16 (.int .i64)))), (151, (.arr 16 (.arr 16 (.int .i64)))), (156, (.int .u64)), (164, (.int .u32)), (165, (.int .u8)), (166, (.int .u8)), (169, (.int .i32)), (170, (.int .i32))]
def Tf (t : Nat) : K := tab Tl t
def noSh : Sh := ⟨[], [(1, .bx .un)], 0⟩
theorem tok : TOk Try.prog Tf := tab_ok (by kernel_rfl) (by kernel_rfl) (by kernel_rfl)
@[reducible] def kd_impl_Book : K := (.pr (.int .i64) (.pr (.sl 2 (.int .i64)) (.pr (.sl 83 (.pr (.int .i64) (.pr (.int .i64) (.pr (.int .i64) (.pr (.int .i64) (.pr (.int .i64) .un)))))) .un)))
@[reducible] def kd_impl_Deal : K := (.pr (.int .i64) (.pr (.int .i8) (.pr (.int .i64) (.pr (.int .i64) (.pr (.int .i64) (.pr (.int .i64) .un))))))
@[reducible] def kd_impl_Debt : K := (.pr (.int .i64) (.pr (.int .i64) (.pr (.int .i64) .un)))
@[reducible] def kd_impl_Tally : K := (.pr (.int .i64) (.pr (.int .i64) (.pr (.int .i64) (.pr (.int .i64) (.pr (.int .i64) .un)))))
@[reducible] def kd_laws_Book : K := (.pr (.int .i64) (.pr (.sl 2 (.int .i64)) (.pr (.sl 134 (.pr (.int .i64) (.pr (.int .i64) (.pr (.int .i64) (.pr (.int .i64) (.pr (.int .i64) .un)))))) .un)))
@[reducible] def kd_runtime_boundsError : K := (.pr (.int .i64) (.pr (.int .i64) (.pr .bool (.pr (.int .u8) .un))))
@[reducible] def kd_spec_l00Src : K := (.pr (.sl 5 (.int .u8)) (.pr (.int .i64) (.pr (.int .u64) .un)))
theorem mixed : Try.prog.follows .mixedOrders = true := by kernel_rfl
/- loop.example/g01263/laws.szInt64S -/
def pars_laws_szInt64S : List (Nat × TSh) := [(0, (.sc true (.sl 2 (.int .i64)))), (1, (.sc true (.int .i64)))]
def rsh_laws_szInt64S : Sh := ⟨[(0, (.sc true (.int .i64)))], [], 0⟩
def an_laws_szInt64S : An := ⟨fun l => (lk ([] : List (Nat × Sh)) l).getD noSh, fun l => (lk ([] : List (Nat × List Ri)) l).getD [], fun l => lk ([] : List (Nat × Nat)) l, fun l => lk ([(0, [0, 1]), (1, [1]), (2, [1, 10]), (3, [4]), (4, [4])] : List (Nat × List Nat)) l⟩
noncomputable def g_laws_szInt64S (x : ((List Int) × (Int × Unit))) : Option (Int × Unit) :=
  rgd.bnd (x.1.length : Int) fun y0 =>
  rgd.bnd (Go.IntKind.wrap .i64 (x.2.1 - y0)) fun y1 =>
  rgd.bnd (decide (y1 < (0 : Int))) fun y2 =>
  rgd.br y2
    (some ((-1 : Int), ()))
    (some (y1, ()))
noncomputable def ent_laws_szInt64S : Ent := ⟨pars_laws_szInt64S, rsh_laws_szInt64S, g_laws_szInt64S, none⟩
noncomputable def E_laws_szInt64S (f : Nat) : Option Ent := lk ([] : List (Nat × Ent)) f
theorem q_laws_szInt64S : vfun rgd Tf E_laws_szInt64S an_laws_szInt64S 12 pars_laws_szInt64S [(.tmp 4)] rsh_laws_szInt64S (Try.f61.body.getD .skip) = g_laws_szInt64S := by kernel_rfl
theorem h_laws_szInt64S : Holds Try.prog 61 ent_laws_szInt64S ∧ Callable Try.prog 61 :=
  fn_ok tok mixed (E := E_laws_szInt64S) EOk_nil Try.func61 (by kernel_rfl) (by kernel_rfl) (rs := [(.tmp 4)]) (by kernel_rfl) (by kernel_rfl) (by kernel_rfl) q_laws_szInt64S
/- loop.example/g01263/laws.szTallyS -/
def pars_laws_szTallyS : List (Nat × TSh) := [(0, (.sc true (.sl 134 (.pr (.int .i64) (.pr (.int .i64) (.pr (.int .i64) (.pr (.int .i64) (.pr (.int .i64) .un)))))))), (1, (.sc true (.int .i64)))]
def rsh_laws_szTallyS : Sh := ⟨[(0, (.sc true (.int .i64)))], [], 0⟩
def an_laws_szTallyS : An := ⟨fun l => (lk ([] : List (Nat × Sh)) l).getD noSh, fun l => (lk ([] : List (Nat × List Ri)) l).getD [], fun l => lk ([] : List (Nat × Nat)) l, fun l => lk ([(0, [0, 1]), (1, [1]), (2, [1, 10]), (3, [4]), (4, [4])] : List (Nat × List Nat)) l⟩
noncomputable def g_laws_szTallyS (x : ((List (Int × (Int × (Int × (Int × (Int × Unit)))))) × (Int × Unit))) : Option (Int × Unit) :=
  rgd.bnd (x.1.length : Int) fun y0 =>
  rgd.bnd (Go.IntKind.wrap .i64 (x.2.1 - y0)) fun y1 =>
  rgd.bnd (decide (y1 < (0 : Int))) fun y2 =>
  rgd.br y2
    (some ((-1 : Int), ()))
    (some (y1, ()))
noncomputable def ent_laws_szTallyS : Ent := ⟨pars_laws_szTallyS, rsh_laws_szTallyS, g_laws_szTallyS, none⟩
noncomputable def E_laws_szTallyS (f : Nat) : Option Ent := lk ([] : List (Nat × Ent)) f
theorem q_laws_szTallyS : vfun rgd Tf E_laws_szTallyS an_laws_szTallyS 12 pars_laws_szTallyS [(.tmp 4)] rsh_laws_szTallyS (Try.f62.body.getD .skip) = g_laws_szTallyS := by kernel_rfl
theorem h_laws_szTallyS : Holds Try.prog 62 ent_laws_szTallyS ∧ Callable Try.prog 62 :=
  fn_ok tok mixed (E := E_laws_szTallyS) EOk_nil Try.func62 (by kernel_rfl) (by kernel_rfl) (rs := [(.tmp 4)]) (by kernel_rfl) (by kernel_rfl) (by kernel_rfl) q_laws_szTallyS
/- loop.example/g01263/laws.szBook -/
def pars_laws_szBook : List (Nat × TSh) := [(0, (.sc true (.pr (.int .i64) (.pr (.sl 2 (.int .i64)) (.pr (.sl 134 (.pr (.int .i64) (.pr (.int .i64) (.pr (.int .i64) (.pr (.int .i64) (.pr (.int .i64) .un)))))) .un))))), (1, (.sc true (.int .i64)))]
def rsh_laws_szBook : Sh := ⟨[(0, (.sc true (.int .i64)))], [], 0⟩
def an_laws_szBook : An := ⟨fun l => (lk ([] : List (Nat × Sh)) l).getD noSh, fun l => (lk ([] : List (Nat × List Ri)) l).getD [], fun l => lk ([] : List (Nat × Nat)) l, fun l => lk ([(0, [1, 2]), (1, [1, 2]), (2, [1, 2, 10]), (3, [4]), (4, [1]), (5, [1, 16]), (6, [4]), (7, [4])] : List (Nat × List Nat)) l⟩
noncomputable def g_laws_szBook (x : ((Int × ((List Int) × ((List (Int × (Int × (Int × (Int × (Int × Unit)))))) × Unit))) × (Int × Unit))) : Option (Int × Unit) :=
  rgd.cal (g_laws_szInt64S (x.1.2.1, (x.2.1, ()))) fun d0 =>
  rgd.bnd (decide (d0.1 < (0 : Int))) fun y1 =>
  rgd.br y1
    (some ((-1 : Int), ()))
    (rgd.cal (g_laws_szTallyS (x.1.2.2.1, (d0.1, ()))) fun d2 =>
    rgd.bnd (decide (d2.1 < (0 : Int))) fun y3 =>
    rgd.br y3
      (some ((-1 : Int), ()))
      (some (d2.1, ())))
noncomputable def ent_laws_szBook : Ent := ⟨pars_laws_szBook, rsh_laws_szBook, g_laws_szBook, none⟩
noncomputable def E_laws_szBook (f : Nat) : Option Ent := lk ([(61, ent_laws_szInt64S), (62, ent_laws_szTallyS)] : List (Nat × Ent)) f
theorem q_laws_szBook : vfun rgd Tf E_laws_szBook an_laws_szBook 18 pars_laws_szBook [(.tmp 4)] rsh_laws_szBook (Try.f11.body.getD .skip) = g_laws_szBook := by kernel_rfl
theorem h_laws_szBook : Holds Try.prog 11 ent_laws_szBook ∧ Callable Try.prog 11 :=
  fn_ok tok mixed (E := E_laws_szBook) (EOk_add h_laws_szInt64S (EOk_add h_laws_szTallyS EOk_nil)) Try.func11 (by kernel_rfl) (by kernel_rfl) (rs := [(.tmp 4)]) (by kernel_rfl) (by kernel_rfl) (by kernel_rfl) q_laws_szBook
/- loop.example/g01263/laws.szDealS -/
def pars_laws_szDealS : List (Nat × TSh) := [(0, (.sc true (.sl 94 (.pr (.int .i64) (.pr (.int .i8) (.pr (.int .i64) (.pr (.int .i64) (.pr (.int .i64) (.pr (.int .i64) .un))))))))), (1, (.sc true (.int .i64)))]
def rsh_laws_szDealS : Sh := ⟨[(0, (.sc true (.int .i64)))], [], 0⟩
def an_laws_szDealS : An := ⟨fun l => (lk ([] : List (Nat × Sh)) l).getD noSh, fun l => (lk ([] : List (Nat × List Ri)) l).getD [], fun l => lk ([] : List (Nat × Nat)) l, fun l => lk ([(0, [0, 1]), (1, [1]), (2, [1, 10]), (3, [4]), (4, [4])] : List (Nat × List Nat)) l⟩
noncomputable def g_laws_szDealS (x : ((List (Int × (Int × (Int × (Int × (Int × (Int × Unit))))))) × (Int × Unit))) : Option (Int × Unit) :=
  rgd.bnd (x.1.length : Int) fun y0 =>
  rgd.bnd (Go.IntKind.wrap .i64 (x.2.1 - y0)) fun y1 =>
  rgd.bnd (decide (y1 < (0 : Int))) fun y2 =>
  rgd.br y2
    (some ((-1 : Int), ()))
    (some (y1, ()))
noncomputable def ent_laws_szDealS : Ent := ⟨pars_laws_szDealS, rsh_laws_szDealS, g_laws_szDealS, none⟩
noncomputable def E_laws_szDealS (f : Nat) : Option Ent := lk ([] : List (Nat × Ent)) f
theorem q_laws_szDealS : vfun rgd Tf E_laws_szDealS an_laws_szDealS 12 pars_laws_szDealS [(.tmp 4)] rsh_laws_szDealS (Try.f12.body.getD .skip) = g_laws_szDealS := by kernel_rfl
theorem h_laws_szDealS : Holds Try.prog 12 ent_laws_szDealS ∧ Callable Try.prog 12 :=
  fn_ok tok mixed (E := E_laws_szDealS) EOk_nil Try.func12 (by kernel_rfl) (by kernel_rfl) (rs := [(.tmp 4)]) (by kernel_rfl) (by kernel_rfl) (by kernel_rfl) q_laws_szDealS
/- loop.example/g01263/laws.szBookS -/
def pars_laws_szBookS : List (Nat × TSh) := [(0, (.sc true (.sl 25 (.pr (.int .i64) (.pr (.sl 2 (.int .i64)) (.pr (.sl 134 (.pr (.int .i64) (.pr (.int .i64) (.pr (.int .i64) (.pr (.int .i64) (.pr (.int .i64) .un)))))) .un)))))), (1, (.sc true (.int .i64)))]
def rsh_laws_szBookS : Sh := ⟨[(0, (.sc true (.int .i64)))], [], 0⟩
def an_laws_szBookS : An := ⟨fun l => (lk ([(5, ⟨[(0, (.sc true (.sl 25 (.pr (.int .i64) (.pr (.sl 2 (.int .i64)) (.pr (.sl 134 (.pr (.int .i64) (.pr (.int .i64) (.pr (.int .i64) (.pr (.int .i64) (.pr (.int .i64) .un)))))) .un)))))), (1, (.sc true (.int .i64))), (5, (.sc true (.int .i64)))], [], 0⟩)] : List (Nat × Sh)) l).getD noSh, fun l => (lk ([] : List (Nat × List Ri)) l).getD [], fun l => lk ([] : List (Nat × Nat)) l, fun l => lk ([(0, [0, 1]), (1, [0, 1]), (2, [0, 1, 11]), (3, [4]), (4, [0, 1, 5]), (5, [0, 1, 5, 15]), (6, [0, 1, 5]), (7, [0, 1, 5]), (8, [0, 1, 5, 25]), (9, [4]), (10, [4])] : List (Nat × List Nat)) l⟩
noncomputable def g_laws_szBookS (x : ((List (Int × ((List Int) × ((List (Int × (Int × (Int × (Int × (Int × Unit)))))) × Unit)))) × (Int × Unit))) : Option (Int × Unit) :=
  rgd.bnd (x.1.length : Int) fun y0 =>
  rgd.bnd (Go.IntKind.wrap .i64 (x.2.1 - y0)) fun y1 =>
  rgd.bnd (decide (y1 < (0 : Int))) fun y2 =>
  rgd.br y2
    (some ((-1 : Int), ()))
    (rgd.lop (fun (s3 : ((List (Int × ((List Int) × ((List (Int × (Int × (Int × (Int × (Int × Unit)))))) × Unit)))) × (Int × (Int × Unit)))) =>
      rgd.bnd (s3.1.length : Int) fun y4 =>
      rgd.bnd (decide (s3.2.2.1 < y4)) fun y5 =>
      rgd.br y5
        (rgd.chk (decide ((0 : Int) ≤ s3.2.2.1 ∧ s3.2.2.1 < (s3.1.length : Int))) <|
        rgd.bnd (s3.1.getD s3.2.2.1.toNat (dz kd_laws_Book)) fun y6 =>
        rgd.cal (g_laws_szBook (y6, (s3.2.1, ()))) fun d7 =>
        rgd.bnd (decide (d7.1 < (0 : Int))) fun y8 =>
        rgd.br y8
          (rgd.out (
            some ((-1 : Int), ())))
          (rgd.bnd (Go.IntKind.wrap .i64 (s3.2.2.1 + (1 : Int))) fun y9 =>
          some (.inl (s3.1, (d7.1, (y9, ()))))))
        (rgd.out (
          some (s3.2.1, ())))) (x.1, (y1, ((0 : Int), ()))))
noncomputable def ent_laws_szBookS : Ent := ⟨pars_laws_szBookS, rsh_laws_szBookS, g_laws_szBookS, none⟩
noncomputable def E_laws_szBookS (f : Nat) : Option Ent := lk ([(11, ent_laws_szBook)] : List (Nat × Ent)) f
theorem q_laws_szBookS : vfun rgd Tf E_laws_szBookS an_laws_szBookS 27 pars_laws_szBookS [(.tmp 4)] rsh_laws_szBookS (Try.f13.body.getD .skip) = g_laws_szBookS := by kernel_rfl
theorem h_laws_szBookS : Holds Try.prog 13 ent_laws_szBookS ∧ Callable Try.prog 13 :=
  fn_ok tok mixed (E := E_laws_szBookS) (EOk_add h_laws_szBook EOk_nil) Try.func13 (by kernel_rfl) (by kernel_rfl) (rs := [(.tmp 4)]) (by kernel_rfl) (by kernel_rfl) (by kernel_rfl) q_laws_szBookS
/- loop.example/g01263/spec.l00In -/
def pars_spec_l00In : List (Nat × TSh) := [(0, (.sc true (.int .i64))), (1, (.sc true (.int .i64))), (2, (.sc true (.int .i64)))]
def rsh_spec_l00In : Sh := ⟨[(0, (.sc true .bool))], [], 0⟩
def an_spec_l00In : An := ⟨fun l => (lk ([] : List (Nat × Sh)) l).getD noSh, fun l => (lk ([(1, [⟨0, false, []⟩, ⟨1, false, []⟩, ⟨3, false, []⟩, ⟨7, false, []⟩, ⟨15, false, []⟩, ⟨31, false, []⟩, ⟨63, false, []⟩, ⟨127, false, []⟩, ⟨255, false, []⟩])] : List (Nat × List Ri)) l).getD [], fun l => lk ([(1, 6)] : List (Nat × Nat)) l, fun l => lk ([(0, [0, 1, 2]), (1, [6])] : List (Nat × List Nat)) l⟩
noncomputable def g_spec_l00In (x : (Int × (Int × (Int × Unit)))) : Option (Bool × Unit) :=
  rgd.jn (
      rgd.bnd (decide (x.1 ≥ x.2.1)) fun y1 =>
      rgd.br y1
        (rgd.bnd (decide (x.1 ≤ x.2.2.1)) fun y2 =>
        some y2)
        (some false)) fun b0 =>
  some (b0, ())
noncomputable def ent_spec_l00In : Ent := ⟨pars_spec_l00In, rsh_spec_l00In, g_spec_l00In, none⟩
noncomputable def E_spec_l00In (f : Nat) : Option Ent := lk ([] : List (Nat × Ent)) f
theorem q_spec_l00In : vfun rgd Tf E_spec_l00In an_spec_l00In 15 pars_spec_l00In [(.tmp 6)] rsh_spec_l00In (Try.f113.body.getD .skip) = g_spec_l00In := by kernel_rfl
theorem h_spec_l00In : Holds Try.prog 113 ent_spec_l00In ∧ Callable Try.prog 113 :=
  fn_ok tok mixed (E := E_spec_l00In) EOk_nil Try.func113 (by kernel_rfl) (by kernel_rfl) (rs := [(.tmp 6)]) (by kernel_rfl) (by kernel_rfl) (by kernel_rfl) q_spec_l00In
/- loop.example/g01263/spec.l07Day -/
def pars_spec_l07Day : List (Nat × TSh) := [(0, (.sc true (.int .i64)))]
def rsh_spec_l07Day : Sh := ⟨[(0, (.sc true .bool))], [], 0⟩
def an_spec_l07Day : An := ⟨fun l => (lk ([] : List (Nat × Sh)) l).getD noSh, fun l => (lk ([] : List (Nat × List Ri)) l).getD [], fun l => lk ([] : List (Nat × Nat)) l, fun l => lk ([(0, [0]), (1, [2])] : List (Nat × List Nat)) l⟩
noncomputable def g_spec_l07Day (x : (Int × Unit)) : Option (Bool × Unit) :=
  rgd.cal (g_spec_l00In (x.1, ((0 : Int), ((100000 : Int), ())))) fun d0 =>
  some (d0.1, ())
noncomputable def ent_spec_l07Day : Ent := ⟨pars_spec_l07Day, rsh_spec_l07Day, g_spec_l07Day, none⟩
noncomputable def E_spec_l07Day (f : Nat) : Option Ent := lk ([(113, ent_spec_l00In)] : List (Nat × Ent)) f
theorem q_spec_l07Day : vfun rgd Tf E_spec_l07Day an_spec_l07Day 5 pars_spec_l07Day [(.tmp 2)] rsh_spec_l07Day (Try.f81.body.getD .skip) = g_spec_l07Day := by kernel_rfl
theorem h_spec_l07Day : Holds Try.prog 81 ent_spec_l07Day ∧ Callable Try.prog 81 :=
  fn_ok tok mixed (E := E_spec_l07Day) (EOk_add h_spec_l00In EOk_nil) Try.func81 (by kernel_rfl) (by kernel_rfl) (rs := [(.tmp 2)]) (by kernel_rfl) (by kernel_rfl) (by kernel_rfl) q_spec_l07Day
/- loop.example/g01263/spec.l02Person -/
def pars_spec_l02Person : List (Nat × TSh) := [(0, (.sc true (.int .i64))), (1, (.sc true (.int .i64)))]
def rsh_spec_l02Person : Sh := ⟨[(0, (.sc true .bool))], [], 0⟩
def an_spec_l02Person : An := ⟨fun l => (lk ([] : List (Nat × Sh)) l).getD noSh, fun l => (lk ([] : List (Nat × List Ri)) l).getD [], fun l => lk ([] : List (Nat × Nat)) l, fun l => lk ([(0, [0, 1]), (1, [4])] : List (Nat × List Nat)) l⟩
noncomputable def g_spec_l02Person (x : (Int × (Int × Unit))) : Option (Bool × Unit) :=
  rgd.bnd (Go.IntKind.wrap .i64 (x.1 - (1 : Int))) fun y0 =>
  rgd.cal (g_spec_l00In (x.2.1, ((0 : Int), (y0, ())))) fun d1 =>
  some (d1.1, ())
noncomputable def ent_spec_l02Person : Ent := ⟨pars_spec_l02Person, rsh_spec_l02Person, g_spec_l02Person, none⟩
noncomputable def E_spec_l02Person (f : Nat) : Option Ent := lk ([(113, ent_spec_l00In)] : List (Nat × Ent)) f
theorem q_spec_l02Person : vfun rgd Tf E_spec_l02Person an_spec_l02Person 9 pars_spec_l02Person [(.tmp 4)] rsh_spec_l02Person (Try.f85.body.getD .skip) = g_spec_l02Person := by kernel_rfl
theorem h_spec_l02Person : Holds Try.prog 85 ent_spec_l02Person ∧ Callable Try.prog 85 :=
  fn_ok tok mixed (E := E_spec_l02Person) (EOk_add h_spec_l00In EOk_nil) Try.func85 (by kernel_rfl) (by kernel_rfl) (rs := [(.tmp 4)]) (by kernel_rfl) (by kernel_rfl) (by kernel_rfl) q_spec_l02Person
/- loop.example/g01263/spec.l01Amount -/
def pars_spec_l01Amount : List (Nat × TSh) := [(0, (.sc true (.int .i64)))]
def rsh_spec_l01Amount : Sh := ⟨[(0, (.sc true .bool))], [], 0⟩
def an_spec_l01Amount : An := ⟨fun l => (lk ([] : List (Nat × Sh)) l).getD noSh, fun l => (lk ([] : List (Nat × List Ri)) l).getD [], fun l => lk ([] : List (Nat × Nat)) l, fun l => lk ([(0, [0]), (1, [2])] : List (Nat × List Nat)) l⟩
noncomputable def g_spec_l01Amount (x : (Int × Unit)) : Option (Bool × Unit) :=
  rgd.cal (g_spec_l00In (x.1, ((0 : Int), ((100000000 : Int), ())))) fun d0 =>
  some (d0.1, ())
noncomputable def ent_spec_l01Amount : Ent := ⟨pars_spec_l01Amount, rsh_spec_l01Amount, g_spec_l01Amount, none⟩
noncomputable def E_spec_l01Amount (f : Nat) : Option Ent := lk ([(113, ent_spec_l00In)] : List (Nat × Ent)) f
theorem q_spec_l01Amount : vfun rgd Tf E_spec_l01Amount an_spec_l01Amount 5 pars_spec_l01Amount [(.tmp 2)] rsh_spec_l01Amount (Try.f132.body.getD .skip) = g_spec_l01Amount := by kernel_rfl
theorem h_spec_l01Amount : Holds Try.prog 132 ent_spec_l01Amount ∧ Callable Try.prog 132 :=
  fn_ok tok mixed (E := E_spec_l01Amount) (EOk_add h_spec_l00In EOk_nil) Try.func132 (by kernel_rfl) (by kernel_rfl) (rs := [(.tmp 2)]) (by kernel_rfl) (by kernel_rfl) (by kernel_rfl) q_spec_l01Amount
/- loop.example/g01263/spec.l07Cash -/
def pars_spec_l07Cash : List (Nat × TSh) := [(0, (.sc true (.sl 2 (.int .i64))))]
def rsh_spec_l07Cash : Sh := ⟨[(0, (.sc true .bool))], [], 0⟩
def an_spec_l07Cash : An := ⟨fun l => (lk ([(2, ⟨[(0, (.sc true (.sl 2 (.int .i64)))), (3, (.sc true (.int .i64)))], [], 0⟩)] : List (Nat × Sh)) l).getD noSh, fun l => (lk ([] : List (Nat × List Ri)) l).getD [], fun l => lk ([] : List (Nat × Nat)) l, fun l => lk ([(0, [0]), (1, [0, 3]), (2, [0, 3, 7]), (3, [0, 3]), (4, [0, 3, 15]), (5, [2]), (6, [2])] : List (Nat × List Nat)) l⟩
noncomputable def g_spec_l07Cash (x : ((List Int) × Unit)) : Option (Bool × Unit) :=
  rgd.lop (fun (s0 : ((List Int) × (Int × Unit))) =>
    rgd.bnd (s0.1.length : Int) fun y1 =>
    rgd.bnd (decide (s0.2.1 < y1)) fun y2 =>
    rgd.br y2
      (rgd.chk (decide ((0 : Int) ≤ s0.2.1 ∧ s0.2.1 < (s0.1.length : Int))) <|
      rgd.bnd (s0.1.getD s0.2.1.toNat (dz (.int .i64))) fun y3 =>
      rgd.cal (g_spec_l01Amount (y3, ())) fun d4 =>
      rgd.bnd (!d4.1) fun y5 =>
      rgd.br y5
        (rgd.out (
          some (false, ())))
        (rgd.bnd (Go.IntKind.wrap .i64 (s0.2.1 + (1 : Int))) fun y6 =>
        some (.inl (s0.1, (y6, ())))))
      (rgd.out (
        rgd.bnd (s0.1.length : Int) fun y7 =>
        rgd.cal (g_spec_l00In (y7, ((1 : Int), ((16 : Int), ())))) fun d8 =>
        some (d8.1, ())))) (x.1, ((0 : Int), ()))
noncomputable def ent_spec_l07Cash : Ent := ⟨pars_spec_l07Cash, rsh_spec_l07Cash, g_spec_l07Cash, none⟩
noncomputable def E_spec_l07Cash (f : Nat) : Option Ent := lk ([(113, ent_spec_l00In), (132, ent_spec_l01Amount)] : List (Nat × Ent)) f
theorem q_spec_l07Cash : vfun rgd Tf E_spec_l07Cash an_spec_l07Cash 19 pars_spec_l07Cash [(.tmp 2)] rsh_spec_l07Cash (Try.f121.body.getD .skip) = g_spec_l07Cash := by kernel_rfl
theorem h_spec_l07Cash : Holds Try.prog 121 ent_spec_l07Cash ∧ Callable Try.prog 121 :=
  fn_ok tok mixed (E := E_spec_l07Cash) (EOk_add h_spec_l00In (EOk_add h_spec_l01Amount EOk_nil)) Try.func121 (by kernel_rfl) (by kernel_rfl) (rs := [(.tmp 2)]) (by kernel_rfl) (by kernel_rfl) (by kernel_rfl) q_spec_l07Cash
/- loop.example/g01263/spec.l07Ok -/
def pars_spec_l07Ok : List (Nat × TSh) := [(0, (.cp true 35 (.pr (.int .i64) (.pr (.sl 2 (.int .i64)) (.pr (.sl 83 (.pr (.int .i64) (.pr (.int .i64) (.pr (.int .i64) (.pr (.int .i64) (.pr (.int .i64) .un)))))) .un)))))]
def rsh_spec_l07Ok : Sh := ⟨[(0, (.sc true .bool))], [], 0⟩
def an_spec_l07Ok : An := ⟨fun l => (lk ([(5, ⟨[(0, (.cp true 35 (.pr (.int .i64) (.pr (.sl 2 (.int .i64)) (.pr (.sl 83 (.pr (.int .i64) (.pr (.int .i64) (.pr (.int .i64) (.pr (.int .i64) (.pr (.int .i64) .un)))))) .un))))), (3, (.sc true (.int .i64))), (4, (.sc true (.int .i64)))], [], 0⟩)] : List (Nat × Sh)) l).getD noSh, fun l => (lk ([(1, [⟨0, false, []⟩, ⟨1, false, []⟩, ⟨3, false, []⟩, ⟨7, false, []⟩, ⟨15, false, []⟩, ⟨31, false, []⟩, ⟨63, false, []⟩, ⟨127, false, []⟩, ⟨255, false, []⟩, ⟨511, false, []⟩, ⟨1023, false, []⟩, ⟨2047, false, []⟩, ⟨4095, false, []⟩, ⟨8191, false, []⟩, ⟨16383, false, []⟩, ⟨32767, false, []⟩, ⟨65535, false, []⟩, ⟨131071, false, []⟩, ⟨262143, false, []⟩, ⟨524287, false, []⟩, ⟨1048575, false, []⟩, ⟨2097151, false, []⟩]), (8, [⟨0, false, [49, 50, 51, 52]⟩, ⟨0, false, [48]⟩, ⟨2, false, [48]⟩, ⟨6, false, [48]⟩, ⟨14, false, [48]⟩, ⟨31, false, []⟩, ⟨63, false, []⟩, ⟨127, false, []⟩, ⟨255, false, [57, 58, 59, 60]⟩, ⟨255, false, [56]⟩, ⟨767, false, [56]⟩, ⟨1791, false, [56]⟩, ⟨3839, false, [56]⟩, ⟨8191, false, []⟩, ⟨16383, false, []⟩, ⟨32767, false, []⟩, ⟨65535, false, []⟩, ⟨131071, false, [69, 70, 71, 72]⟩, ⟨262143, false, [69, 70, 71, 72]⟩, ⟨524287, false, [69, 70, 71, 72]⟩, ⟨1048575, false, [69, 70, 71, 72]⟩, ⟨131071, false, [65, 66, 67, 68]⟩, ⟨2228223, false, [65, 66, 67, 68]⟩, ⟨6422527, false, [65, 66, 67, 68]⟩, ⟨14811135, false, [65, 66, 67, 68]⟩, ⟨33554431, false, []⟩, ⟨67108863, false, []⟩, ⟨134217727, false, []⟩, ⟨268435455, false, []⟩, ⟨536870911, false, []⟩, ⟨1073741823, false, []⟩, ⟨2147483647, false, []⟩, ⟨4294967295, false, []⟩, ⟨8589934591, false, []⟩, ⟨17179869183, false, []⟩, ⟨34359738367, false, []⟩, ⟨68719476735, false, []⟩, ⟨137438953471, false, [89, 90, 91, 92]⟩, ⟨274877906943, false, [89, 90, 91, 92]⟩, ⟨549755813887, false, [89, 90, 91, 92]⟩, ⟨1099511627775, false, [89, 90, 91, 92]⟩, ⟨137438953471, false, [85, 86, 87, 88]⟩, ⟨2336462209023, false, [85, 86, 87, 88]⟩, ⟨6734508720127, false, [85, 86, 87, 88]⟩, ⟨15530601742335, false, [85, 86, 87, 88]⟩, ⟨35184372088831, false, []⟩, ⟨70368744177663, false, []⟩, ⟨140737488355327, false, []⟩]), (10, [⟨0, false, [100, 101, 102, 103]⟩, ⟨1, false, [100, 101, 102, 103]⟩, ⟨3, false, [100, 101, 102, 103]⟩, ⟨7, false, [100, 101, 102, 103]⟩, ⟨0, false, [96, 97, 98, 99]⟩, ⟨16, false, [96, 97, 98, 99]⟩, ⟨48, false, [96, 97, 98, 99]⟩, ⟨112, false, [96, 97, 98, 99]⟩, ⟨255, false, []⟩, ⟨511, false, []⟩, ⟨1023, false, []⟩, ⟨2047, false, []⟩, ⟨4095, false, []⟩, ⟨8191, false, []⟩, ⟨16383, false, []⟩, ⟨32767, false, []⟩, ⟨65535, false, []⟩, ⟨131071, false, []⟩, ⟨262143, false, []⟩, ⟨524287, false, []⟩, ⟨1048575, false, [120, 121, 122, 123, 124, 125, 126, 127, 128]⟩, ⟨2097151, false, [120, 121, 122, 123, 124, 125, 126, 127, 128]⟩, ⟨4194303, false, [120, 121, 122, 123, 124, 125, 126, 127, 128]⟩, ⟨8388607, false, [120, 121, 122, 123, 124, 125, 126, 127, 128]⟩, ⟨1048575, false, [116, 117, 118, 119, 124, 125]⟩, ⟨17825791, false, [116, 117, 118, 119, 124, 125]⟩, ⟨51380223, false, [116, 117, 118, 119, 124, 125]⟩, ⟨118489087, false, [116, 117, 118, 119, 124, 125]⟩, ⟨1048575, false, [116, 117, 118, 119, 120, 121, 122, 123]⟩, ⟨269484031, false, [116, 117, 118, 119, 120, 121, 122, 123]⟩, ⟨1058013183, false, [116, 117, 118, 119]⟩, ⟨2131755007, false, [116, 117, 118, 119]⟩, ⟨4279238655, false, [116, 117, 118, 119]⟩, ⟨8589934591, false, []⟩, ⟨17179869183, false, []⟩, ⟨34359738367, false, []⟩])] : List (Nat × List Ri)) l).getD [], fun l => lk ([(1, 27), (8, 95), (10, 131)] : List (Nat × Nat)) l, fun l => lk ([(0, [0]), (1, [0, 27]), (2, [2]), (3, [0, 3]), (4, [0, 3, 4]), (5, [0, 3, 4, 39]), (6, [0, 3, 4]), (7, [0, 3, 4, 5]), (8, [0, 3, 4, 5, 95]), (9, [2]), (10, [0, 3, 4, 131]), (11, [2]), (12, [2])] : List (Nat × List Nat)) l⟩
noncomputable def g_spec_l07Ok (x : ((Int × ((List Int) × ((List (Int × (Int × (Int × (Int × (Int × Unit)))))) × Unit))) × Unit)) : Option (Bool × Unit) :=
  rgd.jn (
      rgd.cal (g_spec_l07Day (x.1.1, ())) fun d1 =>
      rgd.bnd (!d1.1) fun y2 =>
      rgd.br y2
        (some true)
        (rgd.cal (g_spec_l07Cash (x.1.2.1, ())) fun d3 =>
        rgd.bnd (!d3.1) fun y4 =>
        rgd.br y4
          (some true)
          (rgd.bnd (x.1.2.2.1.length : Int) fun y5 =>
          rgd.bnd (decide (y5 > (40 : Int))) fun y6 =>
          some y6))) fun b0 =>
  rgd.br b0
    (some (false, ()))
    (rgd.bnd (x.1.2.1.length : Int) fun y7 =>
    rgd.lop (fun (s8 : ((Int × ((List Int) × ((List (Int × (Int × (Int × (Int × (Int × Unit)))))) × Unit))) × (Int × (Int × Unit)))) =>
      rgd.bnd (s8.1.2.2.1.length : Int) fun y9 =>
      rgd.bnd (decide (s8.2.2.1 < y9)) fun y10 =>
      rgd.br y10
        (rgd.chk (decide ((0 : Int) ≤ s8.2.2.1 ∧ s8.2.2.1 < (s8.1.2.2.1.length : Int))) <|
        rgd.bnd (s8.1.2.2.1.getD s8.2.2.1.toNat (dz kd_impl_Tally)) fun y11 =>
        rgd.jn (
            rgd.cal (g_spec_l02Person (s8.2.1, (y11.1, ()))) fun d13 =>
            rgd.bnd (!d13.1) fun y14 =>
            rgd.br y14
              (some true)
              (rgd.cal (g_spec_l02Person (s8.2.1, (y11.2.1, ()))) fun d15 =>
              rgd.bnd (!d15.1) fun y16 =>
              rgd.br y16
                (some true)
                (rgd.cal (g_spec_l00In (y11.2.2.1, ((0 : Int), (s8.1.1, ())))) fun d17 =>
                rgd.bnd (!d17.1) fun y18 =>
                rgd.br y18
                  (some true)
                  (rgd.cal (g_spec_l00In (y11.2.2.2.1, ((1 : Int), ((100000000 : Int), ())))) fun d19 =>
                  rgd.bnd (!d19.1) fun y20 =>
                  rgd.br y20
                    (some true)
                    (rgd.cal (g_spec_l00In (y11.2.2.2.2.1, ((0 : Int), (y11.2.2.2.1, ())))) fun d21 =>
                    rgd.bnd (!d21.1) fun y22 =>
                    some y22))))) fun b12 =>
        rgd.br b12
          (rgd.out (
            some (false, ())))
          (rgd.jn (
              rgd.bnd (decide (y11.1 = y11.2.1)) fun y24 =>
              rgd.br y24
                (rgd.bnd (decide (y11.2.2.2.2.1 ≠ (0 : Int))) fun y25 =>
                rgd.br y25
                  (some true)
                  (rgd.bnd (decide (s8.2.2.1 > (0 : Int))) fun y26 =>
                  rgd.br y26
                    (rgd.bnd (Go.IntKind.wrap .i64 (s8.2.2.1 - (1 : Int))) fun y27 =>
                    rgd.chk (decide ((0 : Int) ≤ y27 ∧ y27 < (s8.1.2.2.1.length : Int))) <|
                    rgd.bnd (s8.1.2.2.1.getD y27.toNat (dz kd_impl_Tally)) fun y28 =>
                    rgd.bnd (decide (y11.2.2.1 < y28.2.2.1)) fun y29 =>
                    some y29)
                    (some false)))
                (rgd.bnd (decide (s8.2.2.1 > (0 : Int))) fun y30 =>
                rgd.br y30
                  (rgd.bnd (Go.IntKind.wrap .i64 (s8.2.2.1 - (1 : Int))) fun y31 =>
                  rgd.chk (decide ((0 : Int) ≤ y31 ∧ y31 < (s8.1.2.2.1.length : Int))) <|
                  rgd.bnd (s8.1.2.2.1.getD y31.toNat (dz kd_impl_Tally)) fun y32 =>
                  rgd.bnd (decide (y11.2.2.1 < y32.2.2.1)) fun y33 =>
                  some y33)
                  (some false))) fun b23 =>
          rgd.br b23
            (rgd.out (
              some (false, ())))
            (rgd.bnd (Go.IntKind.wrap .i64 (s8.2.2.1 + (1 : Int))) fun y34 =>
            some (.inl (s8.1, (s8.2.1, (y34, ())))))))
        (rgd.out (
          some (true, ())))) (x.1, (y7, ((0 : Int), ()))))
noncomputable def ent_spec_l07Ok : Ent := ⟨pars_spec_l07Ok, rsh_spec_l07Ok, g_spec_l07Ok, none⟩
noncomputable def E_spec_l07Ok (f : Nat) : Option Ent := lk ([(81, ent_spec_l07Day), (85, ent_spec_l02Person), (113, ent_spec_l00In), (121, ent_spec_l07Cash)] : List (Nat × Ent)) f
theorem q_spec_l07Ok : vfun rgd Tf E_spec_l07Ok an_spec_l07Ok 132 pars_spec_l07Ok [(.tmp 2)] rsh_spec_l07Ok (Try.f95.body.getD .skip) = g_spec_l07Ok := by kernel_rfl
theorem h_spec_l07Ok : Holds Try.prog 95 ent_spec_l07Ok ∧ Callable Try.prog 95 :=
  fn_ok tok mixed (E := E_spec_l07Ok) (EOk_add h_spec_l07Day (EOk_add h_spec_l02Person (EOk_add h_spec_l00In (EOk_add h_spec_l07Cash EOk_nil)))) Try.func95 (by kernel_rfl) (by kernel_rfl) (rs := [(.tmp 2)]) (by kernel_rfl) (by kernel_rfl) (by kernel_rfl) q_spec_l07Ok
/- loop.example/g01263/spec.l07Deal -/
def pars_spec_l07Deal : List (Nat × TSh) := [(0, (.cp true 71 (.pr (.int .i64) (.pr (.int .i8) (.pr (.int .i64) (.pr (.int .i64) (.pr (.int .i64) (.pr (.int .i64) .un))))))))]
def rsh_spec_l07Deal : Sh := ⟨[(0, (.sc true .bool))], [], 0⟩
def an_spec_l07Deal : An := ⟨fun l => (lk ([] : List (Nat × Sh)) l).getD noSh, fun l => (lk ([(9, [⟨0, false, []⟩, ⟨1, false, []⟩, ⟨3, false, []⟩, ⟨7, false, []⟩, ⟨15, false, []⟩, ⟨31, false, []⟩, ⟨63, false, []⟩, ⟨127, false, []⟩, ⟨255, false, []⟩, ⟨511, false, []⟩, ⟨1023, false, []⟩, ⟨2047, false, []⟩, ⟨4095, false, []⟩, ⟨8191, false, []⟩, ⟨16383, false, []⟩]), (11, [⟨0, false, []⟩, ⟨1, false, []⟩, ⟨3, false, []⟩, ⟨7, false, []⟩, ⟨15, false, []⟩, ⟨31, false, []⟩, ⟨63, false, []⟩, ⟨127, false, []⟩, ⟨255, false, []⟩, ⟨511, false, []⟩, ⟨1023, false, []⟩, ⟨2047, false, []⟩, ⟨4095, false, []⟩, ⟨8191, false, []⟩, ⟨16383, false, []⟩]), (13, [⟨0, false, []⟩, ⟨1, false, []⟩, ⟨3, false, []⟩, ⟨7, false, []⟩, ⟨15, false, []⟩, ⟨31, false, []⟩, ⟨63, false, []⟩, ⟨127, false, []⟩, ⟨255, false, []⟩, ⟨511, false, []⟩, ⟨1023, false, []⟩, ⟨2047, false, []⟩, ⟨4095, false, []⟩, ⟨8191, false, []⟩, ⟨16383, false, []⟩, ⟨32767, false, []⟩, ⟨65535, false, []⟩, ⟨131071, false, []⟩, ⟨262143, false, []⟩]), (15, [⟨0, false, []⟩, ⟨1, false, []⟩, ⟨3, false, []⟩, ⟨7, false, []⟩, ⟨15, false, []⟩, ⟨31, false, []⟩, ⟨63, false, []⟩, ⟨127, false, []⟩, ⟨255, false, []⟩, ⟨511, false, []⟩, ⟨1023, false, []⟩, ⟨2047, false, []⟩, ⟨4095, false, []⟩, ⟨8191, false, []⟩, ⟨16383, false, []⟩, ⟨32767, false, []⟩, ⟨65535, false, []⟩, ⟨131071, false, []⟩, ⟨262143, false, []⟩])] : List (Nat × List Ri)) l).getD [], fun l => lk ([(9, 2), (11, 2), (13, 2), (15, 2)] : List (Nat × Nat)) l, fun l => lk ([(0, [0]), (1, [0, 3]), (2, [0, 3, 4]), (3, [0, 3, 4, 5]), (4, [0, 3, 4, 5, 6]), (5, [0, 3, 4, 5, 6, 32]), (6, [2]), (7, [0, 3, 4, 5, 6, 36]), (8, [0, 3, 4, 5, 6, 36, 37]), (9, [2]), (10, [0, 3, 4, 5, 6, 36, 53]), (11, [2]), (12, [0, 3, 4, 6, 36, 69]), (13, [2]), (14, [0, 3, 4, 89]), (15, [2]), (16, [2])] : List (Nat × List Nat)) l⟩
noncomputable def g_spec_l07Deal (x : ((Int × (Int × (Int × (Int × (Int × (Int × Unit)))))) × Unit)) : Option (Bool × Unit) :=
  rgd.cal (g_spec_l00In (x.1.2.2.1, ((0 : Int), ((39 : Int), ())))) fun d0 =>
  rgd.cal (g_spec_l00In (x.1.2.2.2.1, ((0 : Int), ((15 : Int), ())))) fun d1 =>
  rgd.cal (g_spec_l00In (x.1.2.2.2.2.1, ((0 : Int), ((15 : Int), ())))) fun d2 =>
  rgd.cal (g_spec_l00In (x.1.2.2.2.2.2.1, ((1 : Int), ((100000000 : Int), ())))) fun d3 =>
  rgd.cal (g_spec_l07Day (x.1.1, ())) fun d4 =>
  rgd.bnd (!d4.1) fun y5 =>
  rgd.br y5
    (some (false, ()))
    (rgd.bnd (decide (x.1.2.1 = (1 : Int))) fun y6 =>
    rgd.br y6
      (rgd.jn (
          rgd.bnd (decide (x.1.2.2.1 = (0 : Int))) fun y8 =>
          rgd.br y8
            (rgd.br d1.1
              (rgd.br d2.1
                (some d3.1)
                (some false))
              (some false))
            (some false)) fun b7 =>
      some (b7, ()))
      (rgd.bnd (decide (x.1.2.1 = (2 : Int))) fun y9 =>
      rgd.br y9
        (rgd.jn (
            rgd.br d0.1
              (rgd.br d1.1
                (rgd.br d2.1
                  (rgd.bnd (decide (x.1.2.2.2.2.2.1 = (0 : Int))) fun y11 =>
                  some y11)
                  (some false))
                (some false))
              (some false)) fun b10 =>
        some (b10, ()))
        (rgd.bnd (decide (x.1.2.1 = (3 : Int))) fun y12 =>
        rgd.br y12
          (rgd.jn (
              rgd.br d0.1
                (rgd.bnd (decide (x.1.2.2.2.1 = (0 : Int))) fun y14 =>
                rgd.br y14
                  (rgd.bnd (decide (x.1.2.2.2.2.1 = (0 : Int))) fun y15 =>
                  rgd.br y15
                    (some d3.1)
                    (some false))
                  (some false))
                (some false)) fun b13 =>
          some (b13, ()))
          (rgd.bnd (decide (x.1.2.1 = (4 : Int))) fun y16 =>
          rgd.br y16
            (rgd.jn (
                rgd.br d0.1
                  (rgd.br d1.1
                    (rgd.bnd (decide (x.1.2.2.2.2.1 = (0 : Int))) fun y18 =>
                    rgd.br y18
                      (rgd.bnd (decide (x.1.2.2.2.2.2.1 = (0 : Int))) fun y19 =>
                      some y19)
                      (some false))
                    (some false))
                  (some false)) fun b17 =>
            some (b17, ()))
            (some (false, ()))))))
noncomputable def ent_spec_l07Deal : Ent := ⟨pars_spec_l07Deal, rsh_spec_l07Deal, g_spec_l07Deal, none⟩
noncomputable def E_spec_l07Deal (f : Nat) : Option Ent := lk ([(81, ent_spec_l07Day), (113, ent_spec_l00In)] : List (Nat × Ent)) f
theorem q_spec_l07Deal : vfun rgd Tf E_spec_l07Deal an_spec_l07Deal 109 pars_spec_l07Deal [(.tmp 2)] rsh_spec_l07Deal (Try.f96.body.getD .skip) = g_spec_l07Deal := by kernel_rfl
theorem h_spec_l07Deal : Holds Try.prog 96 ent_spec_l07Deal ∧ Callable Try.prog 96 :=
  fn_ok tok mixed (E := E_spec_l07Deal) (EOk_add h_spec_l07Day (EOk_add h_spec_l00In EOk_nil)) Try.func96 (by kernel_rfl) (by kernel_rfl) (rs := [(.tmp 2)]) (by kernel_rfl) (by kernel_rfl) (by kernel_rfl) q_spec_l07Deal
/- loop.example/g01263/spec.l07Deals -/
def pars_spec_l07Deals : List (Nat × TSh) := [(0, (.sc true (.sl 71 (.pr (.int .i64) (.pr (.int .i8) (.pr (.int .i64) (.pr (.int .i64) (.pr (.int .i64) (.pr (.int .i64) .un)))))))))]
def rsh_spec_l07Deals : Sh := ⟨[(0, (.sc true .bool))], [], 0⟩
def an_spec_l07Deals : An := ⟨fun l => (lk ([(2, ⟨[(0, (.sc true (.sl 71 (.pr (.int .i64) (.pr (.int .i8) (.pr (.int .i64) (.pr (.int .i64) (.pr (.int .i64) (.pr (.int .i64) .un))))))))), (3, (.sc true (.int .i64)))], [], 0⟩)] : List (Nat × Sh)) l).getD noSh, fun l => (lk ([] : List (Nat × List Ri)) l).getD [], fun l => lk ([] : List (Nat × Nat)) l, fun l => lk ([(0, [0]), (1, [0, 3]), (2, [0, 3, 7]), (3, [0, 3]), (4, [0, 3, 14]), (5, [2]), (6, [2])] : List (Nat × List Nat)) l⟩
noncomputable def g_spec_l07Deals (x : ((List (Int × (Int × (Int × (Int × (Int × (Int × Unit))))))) × Unit)) : Option (Bool × Unit) :=
  rgd.lop (fun (s0 : ((List (Int × (Int × (Int × (Int × (Int × (Int × Unit))))))) × (Int × Unit))) =>
    rgd.bnd (s0.1.length : Int) fun y1 =>
    rgd.bnd (decide (s0.2.1 < y1)) fun y2 =>
    rgd.br y2
      (rgd.chk (decide ((0 : Int) ≤ s0.2.1 ∧ s0.2.1 < (s0.1.length : Int))) <|
      rgd.bnd (s0.1.getD s0.2.1.toNat (dz kd_impl_Deal)) fun y3 =>
      rgd.cal (g_spec_l07Deal (y3, ())) fun d4 =>
      rgd.bnd (!d4.1) fun y5 =>
      rgd.br y5
        (rgd.out (
          some (false, ())))
        (rgd.bnd (Go.IntKind.wrap .i64 (s0.2.1 + (1 : Int))) fun y6 =>
        some (.inl (s0.1, (y6, ())))))
      (rgd.out (
        some (true, ())))) (x.1, ((0 : Int), ()))
noncomputable def ent_spec_l07Deals : Ent := ⟨pars_spec_l07Deals, rsh_spec_l07Deals, g_spec_l07Deals, none⟩
noncomputable def E_spec_l07Deals (f : Nat) : Option Ent := lk ([(96, ent_spec_l07Deal)] : List (Nat × Ent)) f
theorem q_spec_l07Deals : vfun rgd Tf E_spec_l07Deals an_spec_l07Deals 15 pars_spec_l07Deals [(.tmp 2)] rsh_spec_l07Deals (Try.f109.body.getD .skip) = g_spec_l07Deals := by kernel_rfl
theorem h_spec_l07Deals : Holds Try.prog 109 ent_spec_l07Deals ∧ Callable Try.prog 109 :=
  fn_ok tok mixed (E := E_spec_l07Deals) (EOk_add h_spec_l07Deal EOk_nil) Try.func109 (by kernel_rfl) (by kernel_rfl) (rs := [(.tmp 2)]) (by kernel_rfl) (by kernel_rfl) (by kernel_rfl) q_spec_l07Deals
/- loop.example/g01263/spec.l07Asked -/
def pars_spec_l07Asked : List (Nat × TSh) := [(0, (.cp true 35 (.pr (.int .i64) (.pr (.sl 2 (.int .i64)) (.pr (.sl 83 (.pr (.int .i64) (.pr (.int .i64) (.pr (.int .i64) (.pr (.int .i64) (.pr (.int .i64) .un)))))) .un))))), (1, (.sc true (.sl 71 (.pr (.int .i64) (.pr (.int .i8) (.pr (.int .i64) (.pr (.int .i64) (.pr (.int .i64) (.pr (.int .i64) .un)))))))))]
def rsh_spec_l07Asked : Sh := ⟨[(0, (.sc true (.int .i64)))], [], 0⟩
def an_spec_l07Asked : An := ⟨fun l => (lk ([] : List (Nat × Sh)) l).getD noSh, fun l => (lk ([(1, [⟨0, false, []⟩, ⟨1, false, []⟩, ⟨3, false, []⟩, ⟨7, false, []⟩, ⟨15, false, []⟩, ⟨31, false, []⟩, ⟨63, false, []⟩, ⟨127, false, []⟩])] : List (Nat × List Ri)) l).getD [], fun l => lk ([(1, 12)] : List (Nat × Nat)) l, fun l => lk ([(0, [0, 1]), (1, [1, 12]), (2, [4]), (3, [15]), (4, [4]), (5, [4])] : List (Nat × List Nat)) l⟩
noncomputable def g_spec_l07Asked (x : ((Int × ((List Int) × ((List (Int × (Int × (Int × (Int × (Int × Unit)))))) × Unit))) × ((List (Int × (Int × (Int × (Int × (Int × (Int × Unit))))))) × Unit))) : Option (Int × Unit) :=
  rgd.jn (
      rgd.cal (g_spec_l07Ok (x.1, ())) fun d1 =>
      rgd.bnd (!d1.1) fun y2 =>
      rgd.br y2
        (some true)
        (rgd.cal (g_spec_l07Deals (x.2.1, ())) fun d3 =>
        rgd.bnd (!d3.1) fun y4 =>
        some y4)) fun b0 =>
  rgd.br b0
    (some ((1 : Int), ()))
    (rgd.bnd (x.2.1.length : Int) fun y5 =>
    rgd.bnd (decide (y5 > (80 : Int))) fun y6 =>
    rgd.br y6
      (some ((3 : Int), ()))
      (some ((0 : Int), ())))
noncomputable def ent_spec_l07Asked : Ent := ⟨pars_spec_l07Asked, rsh_spec_l07Asked, g_spec_l07Asked, none⟩
noncomputable def E_spec_l07Asked (f : Nat) : Option Ent := lk ([(95, ent_spec_l07Ok), (109, ent_spec_l07Deals)] : List (Nat × Ent)) f
theorem q_spec_l07Asked : vfun rgd Tf E_spec_l07Asked an_spec_l07Asked 16 pars_spec_l07Asked [(.tmp 4)] rsh_spec_l07Asked (Try.f63.body.getD .skip) = g_spec_l07Asked := by kernel_rfl
theorem h_spec_l07Asked : Holds Try.prog 63 ent_spec_l07Asked ∧ Callable Try.prog 63 :=
  fn_ok tok mixed (E := E_spec_l07Asked) (EOk_add h_spec_l07Ok (EOk_add h_spec_l07Deals EOk_nil)) Try.func63 (by kernel_rfl) (by kernel_rfl) (rs := [(.tmp 4)]) (by kernel_rfl) (by kernel_rfl) (by kernel_rfl) q_spec_l07Asked
/- loop.example/g01263/spec.l07Copy -/
def pars_spec_l07Copy : List (Nat × TSh) := [(0, (.cp true 35 (.pr (.int .i64) (.pr (.sl 2 (.int .i64)) (.pr (.sl 83 (.pr (.int .i64) (.pr (.int .i64) (.pr (.int .i64) (.pr (.int .i64) (.pr (.int .i64) .un)))))) .un)))))]
def rsh_spec_l07Copy : Sh := ⟨[(0, (.pr (.sc true (.int .i64)) (.pr (.al 0) (.pr (.al 1) .un))))], [(0, (.ls 2 (.int .i64) true)), (1, (.ls 83 (.pr (.int .i64) (.pr (.int .i64) (.pr (.int .i64) (.pr (.int .i64) (.pr (.int .i64) .un))))) true))], 2⟩
def an_spec_l07Copy : An := ⟨fun l => (lk ([] : List (Nat × Sh)) l).getD noSh, fun l => (lk ([(1, [⟨0, false, [7, 8, 9, 10, 11, 12, 13, 14, 15, 16, 17, 18]⟩, ⟨1, false, [7, 8, 9, 10, 11, 12, 13, 14, 15, 16, 17, 18]⟩, ⟨3, false, [7, 8, 9, 10, 11, 12, 13, 14, 15, 16, 17, 18]⟩, ⟨7, false, [7, 8, 9, 10, 11, 12, 13, 14, 15, 16, 17, 18]⟩, ⟨0, false, [3, 4, 5, 6, 8, 9, 10, 11, 13, 14, 15, 16, 17]⟩, ⟨0, false, [3, 4, 5, 6, 7, 13, 14, 15, 16, 17]⟩, ⟨32, false, [3, 4, 5, 6, 7, 13, 14, 15, 16, 17]⟩, ⟨96, false, [3, 4, 5, 6, 7, 13, 14, 15, 16, 17]⟩, ⟨224, false, [3, 4, 5, 6, 7, 13, 14, 15, 16, 17]⟩, ⟨496, false, [3, 4, 5, 6, 13, 14, 15, 16, 17]⟩, ⟨0, false, [3, 4, 5, 6, 7, 8, 9, 10, 11, 12, 14, 15, 16, 17]⟩, ⟨0, false, [3, 4, 5, 6, 7, 8, 9, 10, 11, 12, 13]⟩, ⟨2048, false, [3, 4, 5, 6, 7, 8, 9, 10, 11, 12, 13]⟩, ⟨6144, false, [3, 4, 5, 6, 7, 8, 9, 10, 11, 12, 13]⟩, ⟨14336, false, [3, 4, 5, 6, 7, 8, 9, 10, 11, 12, 13]⟩, ⟨32752, false, [3, 4, 5, 6]⟩, ⟨65535, true, []⟩, ⟨131071, true, []⟩])] : List (Nat × List Ri)) l).getD [], fun l => lk ([] : List (Nat × Nat)) l, fun l => lk ([(0, [0, 2]), (1, [2])] : List (Nat × List Nat)) l⟩
noncomputable def g_spec_l07Copy (x : ((Int × ((List Int) × ((List (Int × (Int × (Int × (Int × (Int × Unit)))))) × Unit))) × Unit)) : Option (Int × ((List Int) × ((List (Int × (Int × (Int × (Int × (Int × Unit)))))) × Unit))) :=
  rgd.chk (decide ((x.1.2.1.length : Int) ≤ (1073741824 : Int))) <|
  rgd.bnd x.1.2.1 fun y0 =>
  rgd.chk (decide ((x.1.2.2.1.length : Int) ≤ (1073741824 : Int))) <|
  rgd.bnd x.1.2.2.1 fun y1 =>
  some (x.1.1, (y0, (y1, ())))
noncomputable def ent_spec_l07Copy : Ent := ⟨pars_spec_l07Copy, rsh_spec_l07Copy, g_spec_l07Copy, none⟩
noncomputable def E_spec_l07Copy (f : Nat) : Option Ent := lk ([] : List (Nat × Ent)) f
theorem q_spec_l07Copy : vfun rgd Tf E_spec_l07Copy an_spec_l07Copy 20 pars_spec_l07Copy [(.cell 2 35)] rsh_spec_l07Copy (Try.f76.body.getD .skip) = g_spec_l07Copy := by kernel_rfl
theorem h_spec_l07Copy : Holds Try.prog 76 ent_spec_l07Copy ∧ Callable Try.prog 76 :=
  fn_ok tok mixed (E := E_spec_l07Copy) EOk_nil Try.func76 (by kernel_rfl) (by kernel_rfl) (rs := [(.cell 2 35)]) (by kernel_rfl) (by kernel_rfl) (by kernel_rfl) q_spec_l07Copy
/- loop.example/g01263/spec.l07Refused -/
def pars_spec_l07Refused : List (Nat × TSh) := [(0, (.cp true 35 (.pr (.int .i64) (.pr (.sl 2 (.int .i64)) (.pr (.sl 83 (.pr (.int .i64) (.pr (.int .i64) (.pr (.int .i64) (.pr (.int .i64) (.pr (.int .i64) .un)))))) .un))))), (1, (.cp true 71 (.pr (.int .i64) (.pr (.int .i8) (.pr (.int .i64) (.pr (.int .i64) (.pr (.int .i64) (.pr (.int .i64) .un))))))))]
def rsh_spec_l07Refused : Sh := ⟨[(0, (.sc true (.int .i64)))], [], 0⟩
def an_spec_l07Refused : An := ⟨fun l => (lk ([] : List (Nat × Sh)) l).getD noSh, fun l => (lk ([(2, [⟨0, false, [16, 17, 18, 19]⟩, ⟨1, false, [16, 17, 18, 19]⟩, ⟨3, false, [16, 17, 18, 19]⟩, ⟨7, false, [16, 17, 18, 19]⟩, ⟨0, false, [12, 13, 14, 15]⟩, ⟨16, false, [12, 13, 14, 15]⟩, ⟨48, false, [12, 13, 14, 15]⟩, ⟨112, false, [12, 13, 14, 15]⟩, ⟨255, true, []⟩]), (4, [⟨0, false, [22, 23, 24, 25]⟩, ⟨0, false, [21]⟩, ⟨2, false, [21]⟩, ⟨6, false, [21]⟩, ⟨14, false, [21]⟩, ⟨31, false, []⟩, ⟨63, false, []⟩, ⟨127, false, []⟩, ⟨255, false, [30, 31, 32, 33]⟩, ⟨255, false, [29]⟩, ⟨767, false, [29]⟩, ⟨1791, false, [29]⟩, ⟨3839, false, [29]⟩, ⟨8191, false, []⟩, ⟨16383, false, []⟩, ⟨32767, false, []⟩, ⟨65535, false, []⟩, ⟨131071, false, []⟩, ⟨262143, false, []⟩, ⟨524287, false, []⟩, ⟨1048575, false, []⟩, ⟨2097151, false, []⟩, ⟨4194303, false, []⟩, ⟨8388607, false, [48, 49, 50, 51, 52]⟩, ⟨16777215, false, [48, 49, 50, 51, 52]⟩, ⟨33554431, false, [48, 49, 50, 51, 52]⟩, ⟨67108863, false, [48, 49, 50, 51, 52]⟩, ⟨8388607, false, [44, 45, 46, 47]⟩, ⟨142606335, false, [44, 45, 46, 47]⟩, ⟨411041791, false, [44, 45, 46, 47]⟩, ⟨947912703, false, [44, 45, 46, 47]⟩, ⟨2021654527, false, [44, 45, 46, 47]⟩, ⟨4294967295, false, []⟩, ⟨8589934591, false, []⟩, ⟨17179869183, false, []⟩]), (7, [⟨0, false, [65, 66, 67, 68]⟩, ⟨1, false, [65, 66, 67, 68]⟩, ⟨3, false, [65, 66, 67, 68]⟩, ⟨7, false, [65, 66, 67, 68]⟩, ⟨0, false, [61, 62, 63, 64]⟩, ⟨16, false, [61, 62, 63, 64]⟩, ⟨48, false, [61, 62, 63, 64]⟩, ⟨112, false, [61, 62, 63, 64]⟩, ⟨255, true, []⟩]), (12, [⟨0, false, [80, 81, 82, 83]⟩, ⟨1, false, [80, 81, 82, 83]⟩, ⟨3, false, [80, 81, 82, 83]⟩, ⟨7, false, [80, 81, 82, 83]⟩, ⟨0, false, [76, 77, 78, 79]⟩, ⟨16, false, [76, 77, 78, 79]⟩, ⟨48, false, [76, 77, 78, 79]⟩, ⟨112, false, [76, 77, 78, 79]⟩, ⟨255, true, []⟩, ⟨511, true, []⟩]), (13, [⟨0, false, []⟩, ⟨1, false, []⟩, ⟨3, false, []⟩, ⟨7, false, []⟩, ⟨15, false, []⟩, ⟨31, false, []⟩, ⟨63, false, [95, 96, 97, 98]⟩, ⟨127, false, [95, 96, 97, 98]⟩, ⟨255, false, [95, 96, 97, 98]⟩, ⟨511, false, [95, 96, 97, 98]⟩, ⟨63, false, [91, 92, 93, 94]⟩, ⟨1087, false, [91, 92, 93, 94]⟩, ⟨3135, false, [91, 92, 93, 94]⟩, ⟨7231, false, [91, 92, 93, 94]⟩, ⟨16383, false, []⟩, ⟨32767, false, []⟩, ⟨65535, false, []⟩, ⟨131071, false, []⟩, ⟨262143, false, []⟩, ⟨524287, false, []⟩, ⟨1048575, false, []⟩, ⟨2097151, false, []⟩, ⟨4194303, false, []⟩, ⟨8388607, false, [112, 113, 114, 115]⟩, ⟨16777215, false, [112, 113, 114, 115]⟩, ⟨33554431, false, [112, 113, 114, 115]⟩, ⟨67108863, false, [112, 113, 114, 115]⟩, ⟨8388607, false, [108, 109, 110, 111]⟩, ⟨142606335, false, [108, 109, 110, 111]⟩, ⟨411041791, false, [108, 109, 110, 111]⟩, ⟨947912703, false, [108, 109, 110, 111]⟩, ⟨2147483647, false, []⟩, ⟨4294967295, false, []⟩, ⟨8589934591, false, []⟩, ⟨17179869183, false, []⟩, ⟨34359738367, false, []⟩, ⟨68719476735, false, []⟩, ⟨137438953471, false, []⟩, ⟨274877906943, false, []⟩, ⟨549755813887, false, []⟩, ⟨1099511627775, false, []⟩, ⟨2199023255551, false, []⟩, ⟨4398046511103, false, [131, 132, 133, 134]⟩, ⟨8796093022207, false, [131, 132, 133, 134]⟩, ⟨17592186044415, false, [131, 132, 133, 134]⟩, ⟨35184372088831, false, [131, 132, 133, 134]⟩, ⟨4398046511103, false, [127, 128, 129, 130]⟩, ⟨74766790688767, false, [127, 128, 129, 130]⟩, ⟨215504279044095, false, [127, 128, 129, 130]⟩, ⟨496979255754751, false, [127, 128, 129, 130]⟩, ⟨1125899906842623, false, []⟩, ⟨2251799813685247, false, []⟩]), (15, [⟨0, false, []⟩, ⟨1, false, []⟩, ⟨3, false, []⟩, ⟨7, false, []⟩, ⟨15, false, []⟩, ⟨31, false, []⟩, ⟨63, false, [147, 148, 149, 150, 153, 154, 155, 156]⟩, ⟨127, false, [147, 148, 149, 150, 153, 154, 155, 156]⟩, ⟨255, false, [147, 148, 149, 150, 153, 154, 155, 156]⟩, ⟨511, false, [147, 148, 149, 150, 153, 154, 155, 156]⟩, ⟨63, false, [143, 144, 145, 146, 153, 154, 155, 156]⟩, ⟨1087, false, [143, 144, 145, 146, 153, 154, 155, 156]⟩, ⟨3135, false, [143, 144, 145, 146, 153, 154, 155, 156]⟩, ⟨7231, false, [143, 144, 145, 146, 153, 154, 155, 156]⟩, ⟨16383, false, [153, 154, 155, 156]⟩, ⟨32767, false, [153, 154, 155, 156]⟩, ⟨63, false, [143, 144, 145, 146, 147, 148, 149, 150, 151, 152]⟩, ⟨65599, false, [143, 144, 145, 146, 147, 148, 149, 150, 151, 152]⟩, ⟨196671, false, [143, 144, 145, 146, 147, 148, 149, 150, 151, 152]⟩, ⟨458815, false, [143, 144, 145, 146, 147, 148, 149, 150, 151, 152]⟩, ⟨1048575, false, []⟩, ⟨2097151, false, []⟩]), (17, [⟨0, false, []⟩, ⟨1, false, []⟩, ⟨3, false, []⟩, ⟨7, false, []⟩, ⟨15, false, []⟩, ⟨31, false, []⟩, ⟨63, false, [169, 170, 171, 172, 175, 176, 177, 178]⟩, ⟨127, false, [169, 170, 171, 172, 175, 176, 177, 178]⟩, ⟨255, false, [169, 170, 171, 172, 175, 176, 177, 178]⟩, ⟨511, false, [169, 170, 171, 172, 175, 176, 177, 178]⟩, ⟨63, false, [165, 166, 167, 168, 175, 176, 177, 178]⟩, ⟨1087, false, [165, 166, 167, 168, 175, 176, 177, 178]⟩, ⟨3135, false, [165, 166, 167, 168, 175, 176, 177, 178]⟩, ⟨7231, false, [165, 166, 167, 168, 175, 176, 177, 178]⟩, ⟨16383, false, [175, 176, 177, 178]⟩, ⟨32767, false, [175, 176, 177, 178]⟩, ⟨63, false, [165, 166, 167, 168, 169, 170, 171, 172, 173, 174]⟩, ⟨65599, false, [165, 166, 167, 168, 169, 170, 171, 172, 173, 174]⟩, ⟨196671, false, [165, 166, 167, 168, 169, 170, 171, 172, 173, 174]⟩, ⟨458815, false, [165, 166, 167, 168, 169, 170, 171, 172, 173, 174]⟩, ⟨1048575, false, []⟩, ⟨2097151, false, []⟩, ⟨4194303, false, []⟩])] : List (Nat × List Ri)) l).getD [], fun l => lk ([(4, 55), (13, 136), (15, 158), (17, 181)] : List (Nat × Nat)) l, fun l => lk ([(0, [0, 1]), (1, [0, 1, 5]), (2, [0, 1, 5, 20]), (3, [4]), (4, [0, 1, 55]), (5, [4]), (6, [0, 1, 60]), (7, [0, 69]), (8, [4]), (9, [75]), (10, [4]), (11, [4]), (12, [0, 1, 6]), (13, [0, 1, 6, 136]), (14, [4]), (15, [0, 1, 6, 158]), (16, [4]), (17, [181]), (18, [4]), (19, [4])] : List (Nat × List Nat)) l⟩
noncomputable def g_spec_l07Refused (x : ((Int × ((List Int) × ((List (Int × (Int × (Int × (Int × (Int × Unit)))))) × Unit))) × ((Int × (Int × (Int × (Int × (Int × (Int × Unit)))))) × Unit))) : Option (Int × Unit) :=
  rgd.bnd (x.1.2.1.length : Int) fun y0 =>
  rgd.bnd (decide (x.2.1.1 < x.1.1)) fun y1 =>
  rgd.br y1
    (some ((4 : Int), ()))
    (rgd.jn (
        rgd.cal (g_spec_l02Person (y0, (x.2.1.2.2.2.1, ()))) fun d3 =>
        rgd.bnd (!d3.1) fun y4 =>
        rgd.br y4
          (some true)
          (rgd.cal (g_spec_l02Person (y0, (x.2.1.2.2.2.2.1, ()))) fun d5 =>
          rgd.bnd (!d5.1) fun y6 =>
          rgd.br y6
            (some true)
            (rgd.bnd (decide (x.2.1.2.1 ≠ (1 : Int))) fun y7 =>
            rgd.br y7
              (rgd.bnd (x.1.2.2.1.length : Int) fun y8 =>
              rgd.bnd (decide (x.2.1.2.2.1 ≥ y8)) fun y9 =>
              some y9)
              (some false)))) fun b2 =>
    rgd.br b2
      (some ((2 : Int), ()))
      (rgd.bnd (decide (x.2.1.2.1 = (1 : Int))) fun y10 =>
      rgd.br y10
        (rgd.bnd (decide (x.2.1.2.2.2.1 = x.2.1.2.2.2.2.1)) fun y11 =>
        rgd.br y11
          (some ((4 : Int), ()))
          (rgd.bnd (x.1.2.2.1.length : Int) fun y12 =>
          rgd.bnd (decide (y12 = (40 : Int))) fun y13 =>
          rgd.br y13
            (some ((3 : Int), ()))
            (some ((0 : Int), ()))))
        (rgd.chk (decide ((0 : Int) ≤ x.2.1.2.2.1 ∧ x.2.1.2.2.1 < (x.1.2.2.1.length : Int))) <|
        rgd.bnd (x.1.2.2.1.getD x.2.1.2.2.1.toNat (dz kd_impl_Tally)) fun y14 =>
        rgd.jn (
            rgd.bnd (decide (x.2.1.2.1 = (2 : Int))) fun y16 =>
            rgd.br y16
              (rgd.bnd (decide (x.2.1.2.2.2.1 = x.2.1.2.2.2.2.1)) fun y17 =>
              rgd.br y17
                (some true)
                (rgd.bnd (decide (x.2.1.2.1 ≠ (3 : Int))) fun y18 =>
                rgd.br y18
                  (rgd.bnd (decide (x.2.1.2.2.2.1 ≠ y14.2.1)) fun y19 =>
                  rgd.br y19
                    (some true)
                    (rgd.bnd (decide (y14.2.2.2.2.1 = (0 : Int))) fun y20 =>
                    rgd.br y20
                      (some true)
                      (rgd.bnd (decide (x.2.1.2.2.2.2.2.1 > y14.2.2.2.2.1)) fun y21 =>
                      some y21)))
                  (rgd.bnd (decide (y14.2.2.2.2.1 = (0 : Int))) fun y22 =>
                  rgd.br y22
                    (some true)
                    (rgd.bnd (decide (x.2.1.2.2.2.2.2.1 > y14.2.2.2.2.1)) fun y23 =>
                    some y23))))
              (rgd.bnd (decide (x.2.1.2.1 ≠ (3 : Int))) fun y24 =>
              rgd.br y24
                (rgd.bnd (decide (x.2.1.2.2.2.1 ≠ y14.2.1)) fun y25 =>
                rgd.br y25
                  (some true)
                  (rgd.bnd (decide (y14.2.2.2.2.1 = (0 : Int))) fun y26 =>
                  rgd.br y26
                    (some true)
                    (rgd.bnd (decide (x.2.1.2.2.2.2.2.1 > y14.2.2.2.2.1)) fun y27 =>
                    some y27)))
                (rgd.bnd (decide (y14.2.2.2.2.1 = (0 : Int))) fun y28 =>
                rgd.br y28
                  (some true)
                  (rgd.bnd (decide (x.2.1.2.2.2.2.2.1 > y14.2.2.2.2.1)) fun y29 =>
                  some y29)))) fun b15 =>
        rgd.br b15
          (some ((4 : Int), ()))
          (rgd.jn (
              rgd.bnd (decide (x.2.1.2.1 = (3 : Int))) fun y31 =>
              rgd.br y31
                (rgd.chk (decide ((0 : Int) ≤ y14.1 ∧ y14.1 < (x.1.2.1.length : Int))) <|
                rgd.bnd (x.1.2.1.getD y14.1.toNat (dz (.int .i64))) fun y32 =>
                rgd.bnd (decide (y32 < x.2.1.2.2.2.2.2.1)) fun y33 =>
                some y33)
                (some false)) fun b30 =>
          rgd.br b30
            (some ((8 : Int), ()))
            (rgd.jn (
                rgd.bnd (decide (x.2.1.2.1 = (3 : Int))) fun y35 =>
                rgd.br y35
                  (rgd.chk (decide ((0 : Int) ≤ y14.2.1 ∧ y14.2.1 < (x.1.2.1.length : Int))) <|
                  rgd.bnd (x.1.2.1.getD y14.2.1.toNat (dz (.int .i64))) fun y36 =>
                  rgd.bnd (Go.IntKind.wrap .i64 (y36 + x.2.1.2.2.2.2.2.1)) fun y37 =>
                  rgd.bnd (decide (y37 > (100000000 : Int))) fun y38 =>
                  some y38)
                  (some false)) fun b34 =>
            rgd.br b34
              (some ((3 : Int), ()))
              (some ((0 : Int), ())))))))
noncomputable def ent_spec_l07Refused : Ent := ⟨pars_spec_l07Refused, rsh_spec_l07Refused, g_spec_l07Refused, none⟩
noncomputable def E_spec_l07Refused (f : Nat) : Option Ent := lk ([(85, ent_spec_l02Person)] : List (Nat × Ent)) f
theorem q_spec_l07Refused : vfun rgd Tf E_spec_l07Refused an_spec_l07Refused 182 pars_spec_l07Refused [(.tmp 4)] rsh_spec_l07Refused (Try.f122.body.getD .skip) = g_spec_l07Refused := by kernel_rfl
theorem h_spec_l07Refused : Holds Try.prog 122 ent_spec_l07Refused ∧ Callable Try.prog 122 :=
  fn_ok tok mixed (E := E_spec_l07Refused) (EOk_add h_spec_l02Person EOk_nil) Try.func122 (by kernel_rfl) (by kernel_rfl) (rs := [(.tmp 4)]) (by kernel_rfl) (by kernel_rfl) (by kernel_rfl) q_spec_l07Refused
/- loop.example/g01263/spec.l07Do -/
def pars_spec_l07Do : List (Nat × TSh) := [(0, (.cp true 35 (.pr (.int .i64) (.pr (.sl 2 (.int .i64)) (.pr (.sl 83 (.pr (.int .i64) (.pr (.int .i64) (.pr (.int .i64) (.pr (.int .i64) (.pr (.int .i64) .un)))))) .un))))), (1, (.cp true 71 (.pr (.int .i64) (.pr (.int .i8) (.pr (.int .i64) (.pr (.int .i64) (.pr (.int .i64) (.pr (.int .i64) .un))))))))]
def rsh_spec_l07Do : Sh := ⟨[(0, (.pr (.sc true (.int .i64)) (.pr (.al 0) (.pr (.al 1) .un)))), (1, (.sc true (.int .i64)))], [(0, (.ls 2 (.int .i64) true)), (1, (.ls 83 (.pr (.int .i64) (.pr (.int .i64) (.pr (.int .i64) (.pr (.int .i64) (.pr (.int .i64) .un))))) true))], 2⟩
def an_spec_l07Do : An := ⟨fun l => (lk ([] : List (Nat × Sh)) l).getD noSh, fun l => (lk ([(7, [⟨0, false, [30, 31, 32, 33, 34, 35, 36, 37, 38, 39, 40, 41, 42, 43, 44, 45, 46, 47, 48, 49, 50, 51]⟩, ⟨1, false, [30, 31, 32, 33, 34, 35, 36, 37, 38, 39, 40, 41, 42, 43, 44, 45, 46, 47, 48, 49, 50, 51]⟩, ⟨0, false, [28, 29, 34, 35, 36, 37, 38, 39, 40, 41, 42, 43, 44, 45, 46, 47, 48, 49]⟩, ⟨4, false, [28, 29, 34, 35, 36, 37, 38, 39, 40, 41, 42, 43, 44, 45, 46, 47, 48, 49]⟩, ⟨12, false, [28, 29, 34, 35, 36, 37, 38, 39, 40, 41, 42, 43, 44, 45, 46, 47, 48, 49]⟩, ⟨28, false, [28, 29, 34, 35, 36, 37, 38, 39, 40, 41, 42, 43, 44, 45, 46, 47, 48, 49]⟩, ⟨0, false, [28, 29, 30, 31, 32, 33, 38, 39, 40, 41, 42, 43, 44, 45, 46, 47, 48, 49]⟩, ⟨64, false, [28, 29, 30, 31, 32, 33, 38, 39, 40, 41, 42, 43, 44, 45, 46, 47, 48, 49]⟩, ⟨192, false, [28, 29, 30, 31, 32, 33, 38, 39, 40, 41, 42, 43, 44, 45, 46, 47, 48, 49]⟩, ⟨448, false, [28, 29, 30, 31, 32, 33, 38, 39, 40, 41, 42, 43, 44, 45, 46, 47, 48, 49]⟩, ⟨0, false, [28, 29, 30, 31, 32, 33, 34, 35, 36, 37, 42, 43, 44, 45, 46, 47, 48, 49]⟩, ⟨1024, false, [28, 29, 30, 31, 32, 33, 34, 35, 36, 37, 42, 43, 44, 45, 46, 47, 48, 49]⟩, ⟨3072, false, [28, 29, 30, 31, 32, 33, 34, 35, 36, 37, 42, 43, 44, 45, 46, 47, 48, 49]⟩, ⟨7168, false, [28, 29, 30, 31, 32, 33, 34, 35, 36, 37, 42, 43, 44, 45, 46, 47, 48, 49]⟩, ⟨0, false, [28, 29, 30, 31, 32, 33, 34, 35, 36, 37, 38, 39, 40, 41, 46, 47, 48, 49]⟩, ⟨16384, false, [28, 29, 30, 31, 32, 33, 34, 35, 36, 37, 38, 39, 40, 41, 46, 47, 48, 49]⟩, ⟨49152, false, [28, 29, 30, 31, 32, 33, 34, 35, 36, 37, 38, 39, 40, 41, 46, 47, 48, 49]⟩, ⟨114688, false, [28, 29, 30, 31, 32, 33, 34, 35, 36, 37, 38, 39, 40, 41, 46, 47, 48, 49]⟩, ⟨0, false, [28, 29, 30, 31, 32, 33, 34, 35, 36, 37, 38, 39, 40, 41, 42, 43, 44, 45]⟩, ⟨262144, false, [28, 29, 30, 31, 32, 33, 34, 35, 36, 37, 38, 39, 40, 41, 42, 43, 44, 45]⟩, ⟨786432, false, [28, 29, 30, 31, 32, 33, 34, 35, 36, 37, 38, 39, 40, 41, 42, 43, 44, 45]⟩, ⟨1835008, false, [28, 29, 30, 31, 32, 33, 34, 35, 36, 37, 38, 39, 40, 41, 42, 43, 44, 45]⟩, ⟨4194300, false, [28, 29]⟩, ⟨8388604, false, [28, 29]⟩, ⟨16777215, true, []⟩, ⟨33554431, true, []⟩, ⟨67108863, true, []⟩]), (9, [⟨0, false, [57, 58, 59, 60]⟩, ⟨1, false, [57, 58, 59, 60]⟩, ⟨0, false, [55, 56]⟩, ⟨4, false, [55, 56]⟩, ⟨12, false, [55, 56]⟩, ⟨28, false, [55, 56]⟩, ⟨63, true, []⟩, ⟨127, true, []⟩]), (13, [⟨0, false, [79, 80, 81, 82]⟩, ⟨1, false, [79, 80, 81, 82]⟩, ⟨3, false, [79, 80, 81, 82]⟩, ⟨7, false, [79, 80, 81, 82]⟩, ⟨0, false, [75, 76, 77, 78]⟩, ⟨16, false, [75, 76, 77, 78]⟩, ⟨48, false, [75, 76, 77, 78]⟩, ⟨112, false, [75, 76, 77, 78]⟩, ⟨255, true, []⟩]), (16, [⟨0, false, [91, 92, 93, 94, 97, 98, 99, 100]⟩, ⟨1, false, [91, 92, 93, 94, 97, 98, 99, 100]⟩, ⟨0, false, [89, 90, 97, 98, 99, 100]⟩, ⟨4, false, [89, 90, 97, 98, 99, 100]⟩, ⟨12, false, [89, 90, 97, 98, 99, 100]⟩, ⟨28, false, [89, 90, 97, 98, 99, 100]⟩, ⟨63, false, [97, 98, 99, 100]⟩, ⟨127, false, [97, 98, 99, 100]⟩, ⟨0, false, [89, 90, 91, 92, 93, 94, 95, 96]⟩, ⟨256, false, [89, 90, 91, 92, 93, 94, 95, 96]⟩, ⟨768, false, [89, 90, 91, 92, 93, 94, 95, 96]⟩, ⟨1792, false, [89, 90, 91, 92, 93, 94, 95, 96]⟩, ⟨4095, true, []⟩, ⟨8191, true, []⟩, ⟨16383, true, []⟩]), (17, [⟨0, false, [105, 106, 107, 108, 111, 112, 113, 114]⟩, ⟨1, false, [105, 106, 107, 108, 111, 112, 113, 114]⟩, ⟨0, false, [103, 104, 111, 112, 113, 114]⟩, ⟨4, false, [103, 104, 111, 112, 113, 114]⟩, ⟨12, false, [103, 104, 111, 112, 113, 114]⟩, ⟨28, false, [103, 104, 111, 112, 113, 114]⟩, ⟨63, false, [111, 112, 113, 114]⟩, ⟨127, false, [111, 112, 113, 114]⟩, ⟨0, false, [103, 104, 105, 106, 107, 108, 109, 110]⟩, ⟨256, false, [103, 104, 105, 106, 107, 108, 109, 110]⟩, ⟨768, false, [103, 104, 105, 106, 107, 108, 109, 110]⟩, ⟨1792, false, [103, 104, 105, 106, 107, 108, 109, 110]⟩, ⟨4095, true, []⟩, ⟨8191, true, []⟩, ⟨16383, true, []⟩]), (18, [⟨0, false, [121, 122, 123, 124]⟩, ⟨1, false, [121, 122, 123, 124]⟩, ⟨3, false, [121, 122, 123, 124]⟩, ⟨7, false, [121, 122, 123, 124]⟩, ⟨0, false, [117, 118, 119, 120]⟩, ⟨16, false, [117, 118, 119, 120]⟩, ⟨48, false, [117, 118, 119, 120]⟩, ⟨112, false, [117, 118, 119, 120]⟩, ⟨255, true, []⟩, ⟨511, true, []⟩, ⟨1023, true, []⟩, ⟨2047, true, []⟩])] : List (Nat × List Ri)) l).getD [], fun l => lk ([] : List (Nat × Nat)) l, fun l => lk ([(0, [0, 1, 4]), (1, [0, 1, 4, 6]), (2, [0, 1, 4, 6, 13]), (3, [4, 5]), (4, [1, 4, 7]), (5, [1, 4, 7]), (6, [1, 4, 7, 27]), (7, [4, 7]), (8, [4, 5]), (9, [1, 4, 7, 8]), (10, [1, 4, 7, 8, 65]), (11, [1, 4, 7, 8, 65, 66]), (12, [4, 7, 8]), (13, [4, 7, 8, 83]), (14, [4, 7]), (15, [1, 4, 7, 8, 65, 87]), (16, [1, 4, 7, 8]), (17, [1, 4, 7, 8]), (18, [4, 7]), (19, [4, 7, 8, 128]), (20, [4, 7]), (21, [4, 5])] : List (Nat × List Nat)) l⟩
noncomputable def g_spec_l07Do (x : ((Int × ((List Int) × ((List (Int × (Int × (Int × (Int × (Int × Unit)))))) × Unit))) × ((Int × (Int × (Int × (Int × (Int × (Int × Unit)))))) × Unit))) : Option (Int × (Int × ((List Int) × ((List (Int × (Int × (Int × (Int × (Int × Unit)))))) × Unit)))) :=
  rgd.cal (g_spec_l07Refused (x.1, (x.2.1, ()))) fun d0 =>
  rgd.bnd (decide (d0.1 ≠ (0 : Int))) fun y1 =>
  rgd.br y1
    (some ((dz (.int .i64)), (d0.1, ([], ([], ())))))
    (rgd.cal (g_spec_l07Copy (x.1, ())) fun d2 =>
    rgd.bnd (decide (x.2.1.2.1 = (1 : Int))) fun y3 =>
    rgd.br y3
      (rgd.bnd ((x.2.1.2.2.2.1, (x.2.1.2.2.2.2.1, (x.2.1.1, (x.2.1.2.2.2.2.2.1, (x.2.1.2.2.2.2.2.1, ()))))) :: []) fun y4 =>
      rgd.chk (decide (((d2.2.2.1.length : Int) + (y4.length : Int)) ≤ (1073741824 : Int))) <|
      rgd.bnd (d2.2.2.1 ++ y4) fun y5 =>
      some (x.2.1.1, ((0 : Int), (d2.2.1, (y5, ())))))
      (rgd.chk (decide ((0 : Int) ≤ x.2.1.2.2.1 ∧ x.2.1.2.2.1 < (d2.2.2.1.length : Int))) <|
      rgd.bnd (decide (x.2.1.2.1 = (2 : Int))) fun y6 =>
      rgd.br y6
        (rgd.bnd (d2.2.2.1.set x.2.1.2.2.1.toNat ((d2.2.2.1.getD x.2.1.2.2.1.toNat (dz kd_impl_Tally)).1, (x.2.1.2.2.2.2.1, (d2.2.2.1.getD x.2.1.2.2.1.toNat (dz kd_impl_Tally)).2.2))) fun y7 =>
        rgd.bnd (decide ((y7.getD x.2.1.2.2.1.toNat (dz kd_impl_Tally)).2.1 = (y7.getD x.2.1.2.2.1.toNat (dz kd_impl_Tally)).1)) fun y8 =>
        rgd.br y8
          (rgd.bnd (y7.set x.2.1.2.2.1.toNat ((y7.getD x.2.1.2.2.1.toNat (dz kd_impl_Tally)).1, ((y7.getD x.2.1.2.2.1.toNat (dz kd_impl_Tally)).2.1, ((y7.getD x.2.1.2.2.1.toNat (dz kd_impl_Tally)).2.2.1, ((y7.getD x.2.1.2.2.1.toNat (dz kd_impl_Tally)).2.2.2.1, ((0 : Int), (y7.getD x.2.1.2.2.1.toNat (dz kd_impl_Tally)).2.2.2.2.2)))))) fun y9 =>
          some (x.2.1.1, ((0 : Int), (d2.2.1, (y9, ())))))
          (some (x.2.1.1, ((0 : Int), (d2.2.1, (y7, ()))))))
        (rgd.bnd (decide (x.2.1.2.1 = (3 : Int))) fun y10 =>
        rgd.br y10
          (rgd.chk (decide ((0 : Int) ≤ (d2.2.2.1.getD x.2.1.2.2.1.toNat (dz kd_impl_Tally)).1 ∧ (d2.2.2.1.getD x.2.1.2.2.1.toNat (dz kd_impl_Tally)).1 < (d2.2.1.length : Int))) <|
          rgd.bnd (Go.IntKind.wrap .i64 ((d2.2.1.getD (d2.2.2.1.getD x.2.1.2.2.1.toNat (dz kd_impl_Tally)).1.toNat (dz (.int .i64))) - x.2.1.2.2.2.2.2.1)) fun y11 =>
          rgd.chk (decide ((0 : Int) ≤ (d2.2.2.1.getD x.2.1.2.2.1.toNat (dz kd_impl_Tally)).1 ∧ (d2.2.2.1.getD x.2.1.2.2.1.toNat (dz kd_impl_Tally)).1 < (d2.2.1.length : Int))) <|
          rgd.bnd (d2.2.1.set (d2.2.2.1.getD x.2.1.2.2.1.toNat (dz kd_impl_Tally)).1.toNat y11) fun y12 =>
          rgd.chk (decide ((0 : Int) ≤ (d2.2.2.1.getD x.2.1.2.2.1.toNat (dz kd_impl_Tally)).2.1 ∧ (d2.2.2.1.getD x.2.1.2.2.1.toNat (dz kd_impl_Tally)).2.1 < (y12.length : Int))) <|
          rgd.bnd (Go.IntKind.wrap .i64 ((y12.getD (d2.2.2.1.getD x.2.1.2.2.1.toNat (dz kd_impl_Tally)).2.1.toNat (dz (.int .i64))) + x.2.1.2.2.2.2.2.1)) fun y13 =>
          rgd.chk (decide ((0 : Int) ≤ (d2.2.2.1.getD x.2.1.2.2.1.toNat (dz kd_impl_Tally)).2.1 ∧ (d2.2.2.1.getD x.2.1.2.2.1.toNat (dz kd_impl_Tally)).2.1 < (y12.length : Int))) <|
          rgd.bnd (y12.set (d2.2.2.1.getD x.2.1.2.2.1.toNat (dz kd_impl_Tally)).2.1.toNat y13) fun y14 =>
          rgd.bnd (Go.IntKind.wrap .i64 ((d2.2.2.1.getD x.2.1.2.2.1.toNat (dz kd_impl_Tally)).2.2.2.2.1 - x.2.1.2.2.2.2.2.1)) fun y15 =>
          rgd.bnd (d2.2.2.1.set x.2.1.2.2.1.toNat ((d2.2.2.1.getD x.2.1.2.2.1.toNat (dz kd_impl_Tally)).1, ((d2.2.2.1.getD x.2.1.2.2.1.toNat (dz kd_impl_Tally)).2.1, ((d2.2.2.1.getD x.2.1.2.2.1.toNat (dz kd_impl_Tally)).2.2.1, ((d2.2.2.1.getD x.2.1.2.2.1.toNat (dz kd_impl_Tally)).2.2.2.1, (y15, (d2.2.2.1.getD x.2.1.2.2.1.toNat (dz kd_impl_Tally)).2.2.2.2.2)))))) fun y16 =>
          some (x.2.1.1, ((0 : Int), (y14, (y16, ())))))
          (rgd.bnd (decide (x.2.1.2.1 = (4 : Int))) fun y17 =>
          rgd.br y17
            (rgd.bnd (d2.2.2.1.set x.2.1.2.2.1.toNat ((d2.2.2.1.getD x.2.1.2.2.1.toNat (dz kd_impl_Tally)).1, ((d2.2.2.1.getD x.2.1.2.2.1.toNat (dz kd_impl_Tally)).2.1, ((d2.2.2.1.getD x.2.1.2.2.1.toNat (dz kd_impl_Tally)).2.2.1, ((d2.2.2.1.getD x.2.1.2.2.1.toNat (dz kd_impl_Tally)).2.2.2.1, ((0 : Int), (d2.2.2.1.getD x.2.1.2.2.1.toNat (dz kd_impl_Tally)).2.2.2.2.2)))))) fun y18 =>
            some (x.2.1.1, ((0 : Int), (d2.2.1, (y18, ())))))
            (some (x.2.1.1, ((0 : Int), (d2.2.1, (d2.2.2.1, ())))))))))
noncomputable def ent_spec_l07Do : Ent := ⟨pars_spec_l07Do, rsh_spec_l07Do, g_spec_l07Do, none⟩
noncomputable def E_spec_l07Do (f : Nat) : Option Ent := lk ([(76, ent_spec_l07Copy), (122, ent_spec_l07Refused)] : List (Nat × Ent)) f
theorem q_spec_l07Do : vfun rgd Tf E_spec_l07Do an_spec_l07Do 134 pars_spec_l07Do [(.cell 4 35), (.tmp 5)] rsh_spec_l07Do (Try.f97.body.getD .skip) = g_spec_l07Do := by kernel_rfl
theorem h_spec_l07Do : Holds Try.prog 97 ent_spec_l07Do ∧ Callable Try.prog 97 :=
  fn_ok tok mixed (E := E_spec_l07Do) (EOk_add h_spec_l07Copy (EOk_add h_spec_l07Refused EOk_nil)) Try.func97 (by kernel_rfl) (by kernel_rfl) (rs := [(.cell 4 35), (.tmp 5)]) (by kernel_rfl) (by kernel_rfl) (by kernel_rfl) q_spec_l07Do
/- loop.example/g01263/spec.l07All -/
def pars_spec_l07All : List (Nat × TSh) := [(0, (.cp true 35 (.pr (.int .i64) (.pr (.sl 2 (.int .i64)) (.pr (.sl 83 (.pr (.int .i64) (.pr (.int .i64) (.pr (.int .i64) (.pr (.int .i64) (.pr (.int .i64) .un)))))) .un))))), (1, (.sc true (.sl 71 (.pr (.int .i64) (.pr (.int .i8) (.pr (.int .i64) (.pr (.int .i64) (.pr (.int .i64) (.pr (.int .i64) .un)))))))))]
def rsh_spec_l07All : Sh := ⟨[(0, (.al 0)), (1, (.sc true (.int .i64))), (2, (.sc true (.int .i64)))], [(0, (.ls 35 (.pr (.int .i64) (.pr (.sl 2 (.int .i64)) (.pr (.sl 83 (.pr (.int .i64) (.pr (.int .i64) (.pr (.int .i64) (.pr (.int .i64) (.pr (.int .i64) .un)))))) .un))) true))], 1⟩
def an_spec_l07All : An := ⟨fun l => (lk ([(4, ⟨[(1, (.sc true (.sl 71 (.pr (.int .i64) (.pr (.int .i8) (.pr (.int .i64) (.pr (.int .i64) (.pr (.int .i64) (.pr (.int .i64) .un))))))))), (7, (.al 0)), (8, (.bp 1)), (9, (.sc true (.int .i64)))], [(0, (.ls 35 (.pr (.int .i64) (.pr (.sl 2 (.int .i64)) (.pr (.sl 83 (.pr (.int .i64) (.pr (.int .i64) (.pr (.int .i64) (.pr (.int .i64) (.pr (.int .i64) .un)))))) .un))) true)), (1, (.bx (.pr (.sc true (.int .i64)) (.pr (.sc false (.sl 2 (.int .i64))) (.pr (.sc false (.sl 83 (.pr (.int .i64) (.pr (.int .i64) (.pr (.int .i64) (.pr (.int .i64) (.pr (.int .i64) .un))))))) .un)))))], 4⟩)] : List (Nat × Sh)) l).getD noSh, fun l => (lk ([] : List (Nat × List Ri)) l).getD [], fun l => lk ([] : List (Nat × Nat)) l, fun l => lk ([(0, [0, 1]), (1, [0, 1, 7]), (2, [1, 7, 8]), (3, [1, 7, 8, 9]), (4, [1, 7, 8, 9, 18]), (5, [1, 7, 8, 9]), (6, [1, 7, 8, 9, 10, 11]), (7, [1, 7, 8, 9, 10, 11, 29]), (8, [4, 5, 6]), (9, [1, 7, 8, 9]), (10, [1, 7, 8, 9]), (11, [4, 5, 6])] : List (Nat × List Nat)) l⟩
noncomputable def g_spec_l07All (x : ((Int × ((List Int) × ((List (Int × (Int × (Int × (Int × (Int × Unit)))))) × Unit))) × ((List (Int × (Int × (Int × (Int × (Int × (Int × Unit))))))) × Unit))) : Option (Int × (Int × ((List (Int × ((List Int) × ((List (Int × (Int × (Int × (Int × (Int × Unit)))))) × Unit)))) × Unit))) :=
  rgd.cal (g_spec_l07Copy (x.1, ())) fun d0 =>
  rgd.lop (fun (s1 : ((List (Int × (Int × (Int × (Int × (Int × (Int × Unit))))))) × (Int × ((List (Int × ((List Int) × ((List (Int × (Int × (Int × (Int × (Int × Unit)))))) × Unit)))) × (Int × ((List Int) × ((List (Int × (Int × (Int × (Int × (Int × Unit)))))) × Unit))))))) =>
    rgd.bnd (s1.1.length : Int) fun y2 =>
    rgd.bnd (decide (s1.2.1 < y2)) fun y3 =>
    rgd.br y3
      (rgd.chk (decide ((0 : Int) ≤ s1.2.1 ∧ s1.2.1 < (s1.1.length : Int))) <|
      rgd.bnd (s1.1.getD s1.2.1.toNat (dz kd_impl_Deal)) fun y4 =>
      rgd.cal (g_spec_l07Do ((s1.2.2.2.1, (s1.2.2.2.2.1, (s1.2.2.2.2.2.1, ()))), (y4, ()))) fun d5 =>
      rgd.bnd (decide (d5.2.1 ≠ (0 : Int))) fun y6 =>
      rgd.br y6
        (rgd.out (
          some (d5.2.1, (s1.2.1, ([], ())))))
        (rgd.bnd ((d5.1, (d5.2.2.1, (d5.2.2.2.1, ()))) :: []) fun y7 =>
        rgd.chk (decide (((s1.2.2.1.length : Int) + (y7.length : Int)) ≤ (1073741824 : Int))) <|
        rgd.bnd (s1.2.2.1 ++ y7) fun y8 =>
        rgd.bnd (Go.IntKind.wrap .i64 (s1.2.1 + (1 : Int))) fun y9 =>
        some (.inl (s1.1, (y9, (y8, (d5.1, (d5.2.2.1, (d5.2.2.2.1, ())))))))))
      (rgd.out (
        some ((0 : Int), ((0 : Int), (s1.2.2.1, ())))))) (x.2.1, ((0 : Int), ([], (d0.1, (d0.2.1, (d0.2.2.1, ()))))))
noncomputable def ent_spec_l07All : Ent := ⟨pars_spec_l07All, rsh_spec_l07All, g_spec_l07All, none⟩
noncomputable def E_spec_l07All (f : Nat) : Option Ent := lk ([(76, ent_spec_l07Copy), (97, ent_spec_l07Do)] : List (Nat × Ent)) f
theorem q_spec_l07All : vfun rgd Tf E_spec_l07All an_spec_l07All 39 pars_spec_l07All [(.tmp 4), (.tmp 5), (.tmp 6)] rsh_spec_l07All (Try.f64.body.getD .skip) = g_spec_l07All := by kernel_rfl
theorem h_spec_l07All : Holds Try.prog 64 ent_spec_l07All ∧ Callable Try.prog 64 :=
  fn_ok tok mixed (E := E_spec_l07All) (EOk_add h_spec_l07Copy (EOk_add h_spec_l07Do EOk_nil)) Try.func64 (by kernel_rfl) (by kernel_rfl) (rs := [(.tmp 4), (.tmp 5), (.tmp 6)]) (by kernel_rfl) (by kernel_rfl) (by kernel_rfl) q_spec_l07All
/- loop.example/g01263/spec.l00Same -/
def pars_spec_l00Same : List (Nat × TSh) := [(0, (.sc true (.sl 2 (.int .i64)))), (1, (.sc true (.sl 2 (.int .i64))))]
def rsh_spec_l00Same : Sh := ⟨[(0, (.sc true .bool))], [], 0⟩
def an_spec_l00Same : An := ⟨fun l => (lk ([(4, ⟨[(0, (.sc true (.sl 2 (.int .i64)))), (1, (.sc true (.sl 2 (.int .i64)))), (5, (.sc true (.int .i64)))], [], 0⟩)] : List (Nat × Sh)) l).getD noSh, fun l => (lk ([(6, [⟨0, false, [18, 21, 22, 23, 24]⟩, ⟨0, false, [17, 21, 22, 23, 24]⟩, ⟨3, false, [21, 22, 23, 24]⟩, ⟨7, false, [21, 22, 23, 24]⟩, ⟨0, false, [17, 18, 19, 20, 22]⟩, ⟨0, false, [17, 18, 19, 20, 21]⟩, ⟨48, false, [17, 18, 19, 20]⟩, ⟨112, false, [17, 18, 19, 20]⟩, ⟨255, true, []⟩])] : List (Nat × List Ri)) l).getD [], fun l => lk ([] : List (Nat × Nat)) l, fun l => lk ([(0, [0, 1]), (1, [0, 1, 10]), (2, [4]), (3, [0, 1, 5]), (4, [0, 1, 5, 14]), (5, [0, 1, 5]), (6, [0, 1, 5, 25]), (7, [4]), (8, [4])] : List (Nat × List Nat)) l⟩
noncomputable def g_spec_l00Same (x : ((List Int) × ((List Int) × Unit))) : Option (Bool × Unit) :=
  rgd.bnd (x.1.length : Int) fun y0 =>
  rgd.bnd (x.2.1.length : Int) fun y1 =>
  rgd.bnd (decide (y0 ≠ y1)) fun y2 =>
  rgd.br y2
    (some (false, ()))
    (rgd.lop (fun (s3 : ((List Int) × ((List Int) × (Int × Unit)))) =>
      rgd.bnd (s3.1.length : Int) fun y4 =>
      rgd.bnd (decide (s3.2.2.1 < y4)) fun y5 =>
      rgd.br y5
        (rgd.chk (decide ((0 : Int) ≤ s3.2.2.1 ∧ s3.2.2.1 < (s3.1.length : Int))) <|
        rgd.bnd (s3.1.getD s3.2.2.1.toNat (dz (.int .i64))) fun y6 =>
        rgd.chk (decide ((0 : Int) ≤ s3.2.2.1 ∧ s3.2.2.1 < (s3.2.1.length : Int))) <|
        rgd.bnd (s3.2.1.getD s3.2.2.1.toNat (dz (.int .i64))) fun y7 =>
        rgd.bnd (decide (y6 ≠ y7)) fun y8 =>
        rgd.br y8
          (rgd.out (
            some (false, ())))
          (rgd.bnd (Go.IntKind.wrap .i64 (s3.2.2.1 + (1 : Int))) fun y9 =>
          some (.inl (s3.1, (s3.2.1, (y9, ()))))))
        (rgd.out (
          some (true, ())))) (x.1, (x.2.1, ((0 : Int), ()))))
noncomputable def ent_spec_l00Same : Ent := ⟨pars_spec_l00Same, rsh_spec_l00Same, g_spec_l00Same, none⟩
noncomputable def E_spec_l00Same (f : Nat) : Option Ent := lk ([] : List (Nat × Ent)) f
theorem q_spec_l00Same : vfun rgd Tf E_spec_l00Same an_spec_l00Same 26 pars_spec_l00Same [(.tmp 4)] rsh_spec_l00Same (Try.f108.body.getD .skip) = g_spec_l00Same := by kernel_rfl
theorem h_spec_l00Same : Holds Try.prog 108 ent_spec_l00Same ∧ Callable Try.prog 108 :=
  fn_ok tok mixed (E := E_spec_l00Same) EOk_nil Try.func108 (by kernel_rfl) (by kernel_rfl) (rs := [(.tmp 4)]) (by kernel_rfl) (by kernel_rfl) (by kernel_rfl) q_spec_l00Same
/- loop.example/g01263/spec.l07Same -/
def pars_spec_l07Same : List (Nat × TSh) := [(0, (.cp true 35 (.pr (.int .i64) (.pr (.sl 2 (.int .i64)) (.pr (.sl 83 (.pr (.int .i64) (.pr (.int .i64) (.pr (.int .i64) (.pr (.int .i64) (.pr (.int .i64) .un)))))) .un))))), (1, (.cp true 35 (.pr (.int .i64) (.pr (.sl 2 (.int .i64)) (.pr (.sl 83 (.pr (.int .i64) (.pr (.int .i64) (.pr (.int .i64) (.pr (.int .i64) (.pr (.int .i64) .un)))))) .un)))))]
def rsh_spec_l07Same : Sh := ⟨[(0, (.sc true .bool))], [], 0⟩
def an_spec_l07Same : An := ⟨fun l => (lk ([(4, ⟨[(0, (.cp true 35 (.pr (.int .i64) (.pr (.sl 2 (.int .i64)) (.pr (.sl 83 (.pr (.int .i64) (.pr (.int .i64) (.pr (.int .i64) (.pr (.int .i64) (.pr (.int .i64) .un)))))) .un))))), (1, (.cp true 35 (.pr (.int .i64) (.pr (.sl 2 (.int .i64)) (.pr (.sl 83 (.pr (.int .i64) (.pr (.int .i64) (.pr (.int .i64) (.pr (.int .i64) (.pr (.int .i64) .un)))))) .un))))), (5, (.sc true (.int .i64)))], [], 0⟩)] : List (Nat × Sh)) l).getD noSh, fun l => (lk ([(1, [⟨0, false, [10, 11, 12, 13]⟩, ⟨1, false, [10, 11, 12, 13]⟩, ⟨3, false, [10, 11, 12, 13]⟩, ⟨7, false, [10, 11, 12, 13]⟩, ⟨0, false, [6, 7, 8, 9]⟩, ⟨16, false, [6, 7, 8, 9]⟩, ⟨48, false, [6, 7, 8, 9]⟩, ⟨112, false, [6, 7, 8, 9]⟩, ⟨255, false, []⟩, ⟨511, false, []⟩, ⟨1023, false, [20, 21, 22, 23]⟩, ⟨2047, false, [20, 21, 22, 23]⟩, ⟨4095, false, [20, 21, 22, 23]⟩, ⟨8191, false, [20, 21, 22, 23]⟩, ⟨1023, false, [16, 17, 18, 19]⟩, ⟨17407, false, [16, 17, 18, 19]⟩, ⟨50175, false, [16, 17, 18, 19]⟩, ⟨115711, false, [16, 17, 18, 19]⟩, ⟨262143, false, []⟩, ⟨524287, false, []⟩, ⟨1048575, false, []⟩, ⟨2097151, false, []⟩, ⟨4194303, false, [33, 34, 35, 36, 37]⟩, ⟨8388607, false, [33, 34, 35, 36, 37]⟩, ⟨16777215, false, [33, 34, 35, 36, 37]⟩, ⟨33554431, false, [33, 34, 35, 36, 37]⟩, ⟨67108863, false, [33, 34, 35, 36, 37]⟩, ⟨4194303, false, [28, 29, 30, 31, 32]⟩, ⟨138412031, false, [28, 29, 30, 31, 32]⟩, ⟨406847487, false, [28, 29, 30, 31, 32]⟩, ⟨943718399, false, [28, 29, 30, 31, 32]⟩, ⟨2017460223, false, [28, 29, 30, 31, 32]⟩, ⟨4294967295, false, []⟩, ⟨8589934591, false, []⟩]), (6, [⟨0, false, [53, 56, 57, 58, 59, 60, 61, 62]⟩, ⟨1, false, [53, 56, 57, 58, 59, 60, 61, 62]⟩, ⟨3, false, [53, 56, 57, 58, 59, 60, 61, 62]⟩, ⟨7, false, [53, 56, 57, 58, 59, 60, 61, 62]⟩, ⟨0, false, [49, 50, 51, 52, 56, 57, 58, 59, 60, 61, 62]⟩, ⟨31, false, [56, 57, 58, 59, 60, 61, 62]⟩, ⟨63, false, [56, 57, 58, 59, 60, 61, 62]⟩, ⟨0, false, [49, 50, 51, 52, 53, 54, 55, 60]⟩, ⟨128, false, [49, 50, 51, 52, 53, 54, 55, 60]⟩, ⟨384, false, [49, 50, 51, 52, 53, 54, 55, 60]⟩, ⟨896, false, [49, 50, 51, 52, 53, 54, 55, 60]⟩, ⟨0, false, [49, 50, 51, 52, 53, 54, 55, 56, 57, 58, 59]⟩, ⟨3968, false, [49, 50, 51, 52, 53, 54, 55]⟩, ⟨8064, false, [49, 50, 51, 52, 53, 54, 55]⟩, ⟨16383, true, []⟩])] : List (Nat × List Ri)) l).getD [], fun l => lk ([(1, 39)] : List (Nat × Nat)) l, fun l => lk ([(0, [0, 1]), (1, [0, 1, 39]), (2, [4]), (3, [0, 1, 5]), (4, [0, 1, 5, 46]), (5, [0, 1, 5]), (6, [0, 1, 5, 63]), (7, [4]), (8, [4])] : List (Nat × List Nat)) l⟩
noncomputable def g_spec_l07Same (x : ((Int × ((List Int) × ((List (Int × (Int × (Int × (Int × (Int × Unit)))))) × Unit))) × ((Int × ((List Int) × ((List (Int × (Int × (Int × (Int × (Int × Unit)))))) × Unit))) × Unit))) : Option (Bool × Unit) :=
  rgd.jn (
      rgd.bnd (decide (x.1.1 ≠ x.2.1.1)) fun y1 =>
      rgd.br y1
        (some true)
        (rgd.cal (g_spec_l00Same (x.1.2.1, (x.2.1.2.1, ()))) fun d2 =>
        rgd.bnd (!d2.1) fun y3 =>
        rgd.br y3
          (some true)
          (rgd.bnd (x.1.2.2.1.length : Int) fun y4 =>
          rgd.bnd (x.2.1.2.2.1.length : Int) fun y5 =>
          rgd.bnd (decide (y4 ≠ y5)) fun y6 =>
          some y6))) fun b0 =>
  rgd.br b0
    (some (false, ()))
    (rgd.lop (fun (s7 : ((Int × ((List Int) × ((List (Int × (Int × (Int × (Int × (Int × Unit)))))) × Unit))) × ((Int × ((List Int) × ((List (Int × (Int × (Int × (Int × (Int × Unit)))))) × Unit))) × (Int × Unit)))) =>
      rgd.bnd (s7.1.2.2.1.length : Int) fun y8 =>
      rgd.bnd (decide (s7.2.2.1 < y8)) fun y9 =>
      rgd.br y9
        (rgd.chk (decide ((0 : Int) ≤ s7.2.2.1 ∧ s7.2.2.1 < (s7.1.2.2.1.length : Int))) <|
        rgd.bnd (s7.1.2.2.1.getD s7.2.2.1.toNat (dz kd_impl_Tally)) fun y10 =>
        rgd.chk (decide ((0 : Int) ≤ s7.2.2.1 ∧ s7.2.2.1 < (s7.2.1.2.2.1.length : Int))) <|
        rgd.bnd (s7.2.1.2.2.1.getD s7.2.2.1.toNat (dz kd_impl_Tally)) fun y11 =>
        rgd.bnd (!(eqD kd_impl_Tally y10 y11)) fun y12 =>
        rgd.br y12
          (rgd.out (
            some (false, ())))
          (rgd.bnd (Go.IntKind.wrap .i64 (s7.2.2.1 + (1 : Int))) fun y13 =>
          some (.inl (s7.1, (s7.2.1, (y13, ()))))))
        (rgd.out (
          some (true, ())))) (x.1, (x.2.1, ((0 : Int), ()))))
noncomputable def ent_spec_l07Same : Ent := ⟨pars_spec_l07Same, rsh_spec_l07Same, g_spec_l07Same, none⟩
noncomputable def E_spec_l07Same (f : Nat) : Option Ent := lk ([(108, ent_spec_l00Same)] : List (Nat × Ent)) f
theorem q_spec_l07Same : vfun rgd Tf E_spec_l07Same an_spec_l07Same 64 pars_spec_l07Same [(.tmp 4)] rsh_spec_l07Same (Try.f65.body.getD .skip) = g_spec_l07Same := by kernel_rfl
theorem h_spec_l07Same : Holds Try.prog 65 ent_spec_l07Same ∧ Callable Try.prog 65 :=
  fn_ok tok mixed (E := E_spec_l07Same) (EOk_add h_spec_l00Same EOk_nil) Try.func65 (by kernel_rfl) (by kernel_rfl) (rs := [(.tmp 4)]) (by kernel_rfl) (by kernel_rfl) (by kernel_rfl) q_spec_l07Same
/- loop.example/g01263/spec.FirstWrong -/
def pars_spec_FirstWrong : List (Nat × TSh) := [(0, (.sc true (.pr (.int .i64) (.pr (.sl 2 (.int .i64)) (.pr (.sl 83 (.pr (.int .i64) (.pr (.int .i64) (.pr (.int .i64) (.pr (.int .i64) (.pr (.int .i64) .un)))))) .un))))), (1, (.sc true (.sl 71 (.pr (.int .i64) (.pr (.int .i8) (.pr (.int .i64) (.pr (.int .i64) (.pr (.int .i64) (.pr (.int .i64) .un))))))))), (2, (.sc true (.sl 35 (.pr (.int .i64) (.pr (.sl 2 (.int .i64)) (.pr (.sl 83 (.pr (.int .i64) (.pr (.int .i64) (.pr (.int .i64) (.pr (.int .i64) (.pr (.int .i64) .un)))))) .un))))))]
def rsh_spec_FirstWrong : Sh := ⟨[(0, (.sc true (.int .i64))), (1, (.sc true (.int .i64)))], [], 0⟩
def an_spec_FirstWrong : An := ⟨fun l => (lk ([(8, ⟨[(2, (.sc true (.sl 35 (.pr (.int .i64) (.pr (.sl 2 (.int .i64)) (.pr (.sl 83 (.pr (.int .i64) (.pr (.int .i64) (.pr (.int .i64) (.pr (.int .i64) (.pr (.int .i64) .un)))))) .un)))))), (9, (.al 0)), (12, (.sc true (.int .i64)))], [(0, (.ls 35 (.pr (.int .i64) (.pr (.sl 2 (.int .i64)) (.pr (.sl 83 (.pr (.int .i64) (.pr (.int .i64) (.pr (.int .i64) (.pr (.int .i64) (.pr (.int .i64) .un)))))) .un))) true))], 1⟩)] : List (Nat × Sh)) l).getD noSh, fun l => (lk ([(10, [⟨0, false, [34, 35]⟩, ⟨0, false, [33]⟩, ⟨2, false, [33]⟩, ⟨7, false, []⟩, ⟨15, false, []⟩, ⟨31, false, [39, 41, 42, 43]⟩, ⟨31, false, [38, 41, 42, 43]⟩, ⟨127, false, [41, 42, 43]⟩, ⟨31, false, [38, 39, 40, 42]⟩, ⟨31, false, [38, 39, 40, 41]⟩, ⟨799, false, [38, 39, 40]⟩, ⟨2047, false, []⟩, ⟨4095, false, []⟩, ⟨8191, false, []⟩])] : List (Nat × List Ri)) l).getD [], fun l => lk ([(10, 46)] : List (Nat × Nat)) l, fun l => lk ([(0, [1, 2, 3]), (1, [1, 2, 3, 8]), (2, [1, 2, 3, 8, 16]), (3, [6, 7]), (4, [2, 9, 10]), (5, [2, 9, 10, 25]), (6, [6, 7]), (7, [2, 9, 12]), (8, [2, 9, 12, 30]), (9, [2, 9, 12]), (10, [2, 9, 12, 46]), (11, [6, 7]), (12, [6, 7])] : List (Nat × List Nat)) l⟩
noncomputable def g_spec_FirstWrong (x : ((Int × ((List Int) × ((List (Int × (Int × (Int × (Int × (Int × Unit)))))) × Unit))) × ((List (Int × (Int × (Int × (Int × (Int × (Int × Unit))))))) × ((List (Int × ((List Int) × ((List (Int × (Int × (Int × (Int × (Int × Unit)))))) × Unit)))) × Unit)))) : Option (Int × (Int × Unit)) :=
  rgd.cal (g_spec_l07Asked (x.1, (x.2.1, ()))) fun d0 =>
  rgd.bnd (decide (d0.1 ≠ (0 : Int))) fun y1 =>
  rgd.br y1
    (some ((0 : Int), (d0.1, ())))
    (rgd.cal (g_spec_l07All (x.1, (x.2.1, ()))) fun d2 =>
    rgd.bnd (decide (d2.1 ≠ (0 : Int))) fun y3 =>
    rgd.br y3
      (some ((0 : Int), (d2.1, ())))
      (rgd.lop (fun (s4 : ((List (Int × ((List Int) × ((List (Int × (Int × (Int × (Int × (Int × Unit)))))) × Unit)))) × (Int × ((List (Int × ((List Int) × ((List (Int × (Int × (Int × (Int × (Int × Unit)))))) × Unit)))) × Unit)))) =>
        rgd.bnd (s4.1.length : Int) fun y5 =>
        rgd.bnd (decide (s4.2.1 < y5)) fun y6 =>
        rgd.br y6
          (rgd.jn (
              rgd.bnd (s4.2.2.1.length : Int) fun y8 =>
              rgd.bnd (decide (s4.2.1 ≥ y8)) fun y9 =>
              rgd.br y9
                (some true)
                (rgd.chk (decide ((0 : Int) ≤ s4.2.1 ∧ s4.2.1 < (s4.2.2.1.length : Int))) <|
                rgd.chk (decide ((0 : Int) ≤ s4.2.1 ∧ s4.2.1 < (s4.1.length : Int))) <|
                rgd.bnd (s4.1.getD s4.2.1.toNat (dz kd_impl_Book)) fun y10 =>
                rgd.cal (g_spec_l07Same ((s4.2.2.1.getD s4.2.1.toNat (dz kd_impl_Book)), (y10, ()))) fun d11 =>
                rgd.bnd (!d11.1) fun y12 =>
                some y12)) fun b7 =>
          rgd.br b7
            (rgd.out (
              some (s4.2.1, ((0 : Int), ()))))
            (rgd.bnd (Go.IntKind.wrap .i64 (s4.2.1 + (1 : Int))) fun y13 =>
            some (.inl (s4.1, (y13, (s4.2.2.1, ()))))))
          (rgd.out (
            some ((0 : Int), ((6 : Int), ()))))) (x.2.2.1, ((0 : Int), (d2.2.2.1, ())))))
noncomputable def ent_spec_FirstWrong : Ent := ⟨pars_spec_FirstWrong, rsh_spec_FirstWrong, g_spec_FirstWrong, none⟩
noncomputable def E_spec_FirstWrong (f : Nat) : Option Ent := lk ([(63, ent_spec_l07Asked), (64, ent_spec_l07All), (65, ent_spec_l07Same)] : List (Nat × Ent)) f
theorem q_spec_FirstWrong : vfun rgd Tf E_spec_FirstWrong an_spec_FirstWrong 48 pars_spec_FirstWrong [(.tmp 6), (.tmp 7)] rsh_spec_FirstWrong (Try.f14.body.getD .skip) = g_spec_FirstWrong := by kernel_rfl
theorem h_spec_FirstWrong : Holds Try.prog 14 ent_spec_FirstWrong ∧ Callable Try.prog 14 :=
  fn_ok tok mixed (E := E_spec_FirstWrong) (EOk_add h_spec_l07Asked (EOk_add h_spec_l07All (EOk_add h_spec_l07Same EOk_nil))) Try.func14 (by kernel_rfl) (by kernel_rfl) (rs := [(.tmp 6), (.tmp 7)]) (by kernel_rfl) (by kernel_rfl) (by kernel_rfl) q_spec_FirstWrong
/- loop.example/g01263/laws.toInt64S -/
def pars_laws_toInt64S : List (Nat × TSh) := [(0, (.sc true (.sl 2 (.int .i64))))]
def rsh_laws_toInt64S : Sh := ⟨[(0, (.al 0))], [(0, (.ls 2 (.int .i64) true))], 1⟩
def an_laws_toInt64S : An := ⟨fun l => (lk ([(3, ⟨[(0, (.sc true (.sl 2 (.int .i64)))), (3, (.al 0)), (4, (.sc true (.int .i64)))], [(0, (.ls 2 (.int .i64) true))], 1⟩)] : List (Nat × Sh)) l).getD noSh, fun l => (lk ([] : List (Nat × List Ri)) l).getD [], fun l => lk ([] : List (Nat × Nat)) l, fun l => lk ([(0, [0]), (1, [0, 3]), (2, [0, 3, 4]), (3, [0, 3, 4, 11]), (4, [0, 3, 4]), (5, [0, 3, 4]), (6, [2])] : List (Nat × List Nat)) l⟩
noncomputable def g_laws_toInt64S (x : ((List Int) × Unit)) : Option ((List Int) × Unit) :=
  rgd.bnd (x.1.length : Int) fun y0 =>
  rgd.chk (decide ((0 : Int) ≤ y0 ∧ y0 ≤ (1073741824 : Int))) <|
  rgd.bnd (List.replicate y0.toNat (dz (.int .i64))) fun y1 =>
  rgd.lop (fun (s2 : ((List Int) × (Int × ((List Int) × Unit)))) =>
    rgd.bnd (s2.1.length : Int) fun y3 =>
    rgd.bnd (decide (s2.2.1 < y3)) fun y4 =>
    rgd.br y4
      (rgd.chk (decide ((0 : Int) ≤ s2.2.1 ∧ s2.2.1 < (s2.1.length : Int))) <|
      rgd.bnd (s2.1.getD s2.2.1.toNat (dz (.int .i64))) fun y5 =>
      rgd.chk (decide ((0 : Int) ≤ s2.2.1 ∧ s2.2.1 < (s2.2.2.1.length : Int))) <|
      rgd.bnd (s2.2.2.1.set s2.2.1.toNat y5) fun y6 =>
      rgd.bnd (Go.IntKind.wrap .i64 (s2.2.1 + (1 : Int))) fun y7 =>
      some (.inl (s2.1, (y7, (y6, ())))))
      (rgd.out (
        some (s2.2.2.1, ())))) (x.1, ((0 : Int), (y1, ())))
noncomputable def ent_laws_toInt64S : Ent := ⟨pars_laws_toInt64S, rsh_laws_toInt64S, g_laws_toInt64S, none⟩
noncomputable def E_laws_toInt64S (f : Nat) : Option Ent := lk ([] : List (Nat × Ent)) f
theorem q_laws_toInt64S : vfun rgd Tf E_laws_toInt64S an_laws_toInt64S 22 pars_laws_toInt64S [(.tmp 2)] rsh_laws_toInt64S (Try.f37.body.getD .skip) = g_laws_toInt64S := by kernel_rfl
theorem h_laws_toInt64S : Holds Try.prog 37 ent_laws_toInt64S ∧ Callable Try.prog 37 :=
  fn_ok tok mixed (E := E_laws_toInt64S) EOk_nil Try.func37 (by kernel_rfl) (by kernel_rfl) (rs := [(.tmp 2)]) (by kernel_rfl) (by kernel_rfl) (by kernel_rfl) q_laws_toInt64S
/- loop.example/g01263/laws.toTally -/
def pars_laws_toTally : List (Nat × TSh) := [(0, (.sc true (.pr (.int .i64) (.pr (.int .i64) (.pr (.int .i64) (.pr (.int .i64) (.pr (.int .i64) .un)))))))]
def rsh_laws_toTally : Sh := ⟨[(0, (.sc true (.pr (.int .i64) (.pr (.int .i64) (.pr (.int .i64) (.pr (.int .i64) (.pr (.int .i64) .un)))))))], [], 0⟩
def an_laws_toTally : An := ⟨fun l => (lk ([] : List (Nat × Sh)) l).getD noSh, fun l => (lk ([] : List (Nat × List Ri)) l).getD [], fun l => lk ([] : List (Nat × Nat)) l, fun l => lk ([(0, [1, 2]), (1, [1, 2, 3]), (2, [1, 2, 3]), (3, [1, 2, 3]), (4, [1, 2, 3]), (5, [1, 2, 3]), (6, [2, 3]), (7, [2])] : List (Nat × List Nat)) l⟩
noncomputable def g_laws_toTally (x : ((Int × (Int × (Int × (Int × (Int × Unit))))) × Unit)) : Option ((Int × (Int × (Int × (Int × (Int × Unit))))) × Unit) :=
  some ((x.1.1, (x.1.2.1, (x.1.2.2.1, (x.1.2.2.2.1, (x.1.2.2.2.2.1, ()))))), ())
noncomputable def ent_laws_toTally : Ent := ⟨pars_laws_toTally, rsh_laws_toTally, g_laws_toTally, none⟩
noncomputable def E_laws_toTally (f : Nat) : Option Ent := lk ([] : List (Nat × Ent)) f
theorem q_laws_toTally : vfun rgd Tf E_laws_toTally an_laws_toTally 20 pars_laws_toTally [(.cell 2 83)] rsh_laws_toTally (Try.f110.body.getD .skip) = g_laws_toTally := by kernel_rfl
theorem h_laws_toTally : Holds Try.prog 110 ent_laws_toTally ∧ Callable Try.prog 110 :=
  fn_ok tok mixed (E := E_laws_toTally) EOk_nil Try.func110 (by kernel_rfl) (by kernel_rfl) (rs := [(.cell 2 83)]) (by kernel_rfl) (by kernel_rfl) (by kernel_rfl) q_laws_toTally
/- loop.example/g01263/laws.toTallyS -/
def pars_laws_toTallyS : List (Nat × TSh) := [(0, (.sc true (.sl 134 (.pr (.int .i64) (.pr (.int .i64) (.pr (.int .i64) (.pr (.int .i64) (.pr (.int .i64) .un))))))))]
def rsh_laws_toTallyS : Sh := ⟨[(0, (.al 0))], [(0, (.ls 83 (.pr (.int .i64) (.pr (.int .i64) (.pr (.int .i64) (.pr (.int .i64) (.pr (.int .i64) .un))))) true))], 1⟩
def an_laws_toTallyS : An := ⟨fun l => (lk ([(3, ⟨[(0, (.sc true (.sl 134 (.pr (.int .i64) (.pr (.int .i64) (.pr (.int .i64) (.pr (.int .i64) (.pr (.int .i64) .un)))))))), (3, (.al 0)), (4, (.sc true (.int .i64)))], [(0, (.ls 83 (.pr (.int .i64) (.pr (.int .i64) (.pr (.int .i64) (.pr (.int .i64) (.pr (.int .i64) .un))))) true))], 1⟩)] : List (Nat × Sh)) l).getD noSh, fun l => (lk ([] : List (Nat × List Ri)) l).getD [], fun l => lk ([] : List (Nat × Nat)) l, fun l => lk ([(0, [0]), (1, [0, 3]), (2, [0, 3, 4]), (3, [0, 3, 4, 11]), (4, [0, 3, 4]), (5, [0, 3, 4]), (6, [2])] : List (Nat × List Nat)) l⟩
noncomputable def g_laws_toTallyS (x : ((List (Int × (Int × (Int × (Int × (Int × Unit)))))) × Unit)) : Option ((List (Int × (Int × (Int × (Int × (Int × Unit)))))) × Unit) :=
  rgd.bnd (x.1.length : Int) fun y0 =>
  rgd.chk (decide ((0 : Int) ≤ y0 ∧ y0 ≤ (1073741824 : Int))) <|
  rgd.bnd (List.replicate y0.toNat (dz kd_impl_Tally)) fun y1 =>
  rgd.lop (fun (s2 : ((List (Int × (Int × (Int × (Int × (Int × Unit)))))) × (Int × ((List (Int × (Int × (Int × (Int × (Int × Unit)))))) × Unit)))) =>
    rgd.bnd (s2.1.length : Int) fun y3 =>
    rgd.bnd (decide (s2.2.1 < y3)) fun y4 =>
    rgd.br y4
      (rgd.chk (decide ((0 : Int) ≤ s2.2.1 ∧ s2.2.1 < (s2.1.length : Int))) <|
      rgd.bnd (s2.1.getD s2.2.1.toNat (dz kd_impl_Tally)) fun y5 =>
      rgd.cal (g_laws_toTally (y5, ())) fun d6 =>
      rgd.chk (decide ((0 : Int) ≤ s2.2.1 ∧ s2.2.1 < (s2.2.2.1.length : Int))) <|
      rgd.bnd (s2.2.2.1.set s2.2.1.toNat d6.1) fun y7 =>
      rgd.bnd (Go.IntKind.wrap .i64 (s2.2.1 + (1 : Int))) fun y8 =>
      some (.inl (s2.1, (y8, (y7, ())))))
      (rgd.out (
        some (s2.2.2.1, ())))) (x.1, ((0 : Int), (y1, ())))
noncomputable def ent_laws_toTallyS : Ent := ⟨pars_laws_toTallyS, rsh_laws_toTallyS, g_laws_toTallyS, none⟩
noncomputable def E_laws_toTallyS (f : Nat) : Option Ent := lk ([(110, ent_laws_toTally)] : List (Nat × Ent)) f
theorem q_laws_toTallyS : vfun rgd Tf E_laws_toTallyS an_laws_toTallyS 23 pars_laws_toTallyS [(.tmp 2)] rsh_laws_toTallyS (Try.f66.body.getD .skip) = g_laws_toTallyS := by kernel_rfl
theorem h_laws_toTallyS : Holds Try.prog 66 ent_laws_toTallyS ∧ Callable Try.prog 66 :=
  fn_ok tok mixed (E := E_laws_toTallyS) (EOk_add h_laws_toTally EOk_nil) Try.func66 (by kernel_rfl) (by kernel_rfl) (rs := [(.tmp 2)]) (by kernel_rfl) (by kernel_rfl) (by kernel_rfl) q_laws_toTallyS
/- loop.example/g01263/laws.toBook -/
def pars_laws_toBook : List (Nat × TSh) := [(0, (.sc true (.pr (.int .i64) (.pr (.sl 2 (.int .i64)) (.pr (.sl 134 (.pr (.int .i64) (.pr (.int .i64) (.pr (.int .i64) (.pr (.int .i64) (.pr (.int .i64) .un)))))) .un)))))]
def rsh_laws_toBook : Sh := ⟨[(0, (.pr (.sc true (.int .i64)) (.pr (.al 0) (.pr (.al 1) .un))))], [(0, (.ls 2 (.int .i64) true)), (1, (.ls 83 (.pr (.int .i64) (.pr (.int .i64) (.pr (.int .i64) (.pr (.int .i64) (.pr (.int .i64) .un))))) true))], 2⟩
def an_laws_toBook : An := ⟨fun l => (lk ([] : List (Nat × Sh)) l).getD noSh, fun l => (lk ([] : List (Nat × List Ri)) l).getD [], fun l => lk ([] : List (Nat × Nat)) l, fun l => lk ([(0, [1, 2]), (1, [1, 2, 3]), (2, [1, 2, 3]), (3, [1, 2, 3]), (4, [2, 3]), (5, [2])] : List (Nat × List Nat)) l⟩
noncomputable def g_laws_toBook (x : ((Int × ((List Int) × ((List (Int × (Int × (Int × (Int × (Int × Unit)))))) × Unit))) × Unit)) : Option (Int × ((List Int) × ((List (Int × (Int × (Int × (Int × (Int × Unit)))))) × Unit))) :=
  rgd.cal (g_laws_toInt64S (x.1.2.1, ())) fun d0 =>
  rgd.cal (g_laws_toTallyS (x.1.2.2.1, ())) fun d1 =>
  some (x.1.1, (d0.1, (d1.1, ())))
noncomputable def ent_laws_toBook : Ent := ⟨pars_laws_toBook, rsh_laws_toBook, g_laws_toBook, none⟩
noncomputable def E_laws_toBook (f : Nat) : Option Ent := lk ([(37, ent_laws_toInt64S), (66, ent_laws_toTallyS)] : List (Nat × Ent)) f
theorem q_laws_toBook : vfun rgd Tf E_laws_toBook an_laws_toBook 16 pars_laws_toBook [(.cell 2 35)] rsh_laws_toBook (Try.f15.body.getD .skip) = g_laws_toBook := by kernel_rfl
theorem h_laws_toBook : Holds Try.prog 15 ent_laws_toBook ∧ Callable Try.prog 15 :=
  fn_ok tok mixed (E := E_laws_toBook) (EOk_add h_laws_toInt64S (EOk_add h_laws_toTallyS EOk_nil)) Try.func15 (by kernel_rfl) (by kernel_rfl) (rs := [(.cell 2 35)]) (by kernel_rfl) (by kernel_rfl) (by kernel_rfl) q_laws_toBook
/- loop.example/g01263/laws.toDeal -/
def pars_laws_toDeal : List (Nat × TSh) := [(0, (.sc true (.pr (.int .i64) (.pr (.int .i8) (.pr (.int .i64) (.pr (.int .i64) (.pr (.int .i64) (.pr (.int .i64) .un))))))))]
def rsh_laws_toDeal : Sh := ⟨[(0, (.sc true (.pr (.int .i64) (.pr (.int .i8) (.pr (.int .i64) (.pr (.int .i64) (.pr (.int .i64) (.pr (.int .i64) .un))))))))], [], 0⟩
def an_laws_toDeal : An := ⟨fun l => (lk ([] : List (Nat × Sh)) l).getD noSh, fun l => (lk ([] : List (Nat × List Ri)) l).getD [], fun l => lk ([] : List (Nat × Nat)) l, fun l => lk ([(0, [1, 2]), (1, [1, 2, 3]), (2, [1, 2, 3]), (3, [1, 2, 3]), (4, [1, 2, 3]), (5, [1, 2, 3]), (6, [1, 2, 3]), (7, [2, 3]), (8, [2])] : List (Nat × List Nat)) l⟩
noncomputable def g_laws_toDeal (x : ((Int × (Int × (Int × (Int × (Int × (Int × Unit)))))) × Unit)) : Option ((Int × (Int × (Int × (Int × (Int × (Int × Unit)))))) × Unit) :=
  some ((x.1.1, (x.1.2.1, (x.1.2.2.1, (x.1.2.2.2.1, (x.1.2.2.2.2.1, (x.1.2.2.2.2.2.1, ())))))), ())
noncomputable def ent_laws_toDeal : Ent := ⟨pars_laws_toDeal, rsh_laws_toDeal, g_laws_toDeal, none⟩
noncomputable def E_laws_toDeal (f : Nat) : Option Ent := lk ([] : List (Nat × Ent)) f
theorem q_laws_toDeal : vfun rgd Tf E_laws_toDeal an_laws_toDeal 23 pars_laws_toDeal [(.cell 2 71)] rsh_laws_toDeal (Try.f67.body.getD .skip) = g_laws_toDeal := by kernel_rfl
theorem h_laws_toDeal : Holds Try.prog 67 ent_laws_toDeal ∧ Callable Try.prog 67 :=
  fn_ok tok mixed (E := E_laws_toDeal) EOk_nil Try.func67 (by kernel_rfl) (by kernel_rfl) (rs := [(.cell 2 71)]) (by kernel_rfl) (by kernel_rfl) (by kernel_rfl) q_laws_toDeal
/- loop.example/g01263/laws.toDealS -/
def pars_laws_toDealS : List (Nat × TSh) := [(0, (.sc true (.sl 94 (.pr (.int .i64) (.pr (.int .i8) (.pr (.int .i64) (.pr (.int .i64) (.pr (.int .i64) (.pr (.int .i64) .un)))))))))]
def rsh_laws_toDealS : Sh := ⟨[(0, (.al 0))], [(0, (.ls 71 (.pr (.int .i64) (.pr (.int .i8) (.pr (.int .i64) (.pr (.int .i64) (.pr (.int .i64) (.pr (.int .i64) .un)))))) true))], 1⟩
def an_laws_toDealS : An := ⟨fun l => (lk ([(3, ⟨[(0, (.sc true (.sl 94 (.pr (.int .i64) (.pr (.int .i8) (.pr (.int .i64) (.pr (.int .i64) (.pr (.int .i64) (.pr (.int .i64) .un))))))))), (3, (.al 0)), (4, (.sc true (.int .i64)))], [(0, (.ls 71 (.pr (.int .i64) (.pr (.int .i8) (.pr (.int .i64) (.pr (.int .i64) (.pr (.int .i64) (.pr (.int .i64) .un)))))) true))], 1⟩)] : List (Nat × Sh)) l).getD noSh, fun l => (lk ([] : List (Nat × List Ri)) l).getD [], fun l => lk ([] : List (Nat × Nat)) l, fun l => lk ([(0, [0]), (1, [0, 3]), (2, [0, 3, 4]), (3, [0, 3, 4, 11]), (4, [0, 3, 4]), (5, [0, 3, 4]), (6, [2])] : List (Nat × List Nat)) l⟩
noncomputable def g_laws_toDealS (x : ((List (Int × (Int × (Int × (Int × (Int × (Int × Unit))))))) × Unit)) : Option ((List (Int × (Int × (Int × (Int × (Int × (Int × Unit))))))) × Unit) :=
  rgd.bnd (x.1.length : Int) fun y0 =>
  rgd.chk (decide ((0 : Int) ≤ y0 ∧ y0 ≤ (1073741824 : Int))) <|
  rgd.bnd (List.replicate y0.toNat (dz kd_impl_Deal)) fun y1 =>
  rgd.lop (fun (s2 : ((List (Int × (Int × (Int × (Int × (Int × (Int × Unit))))))) × (Int × ((List (Int × (Int × (Int × (Int × (Int × (Int × Unit))))))) × Unit)))) =>
    rgd.bnd (s2.1.length : Int) fun y3 =>
    rgd.bnd (decide (s2.2.1 < y3)) fun y4 =>
    rgd.br y4
      (rgd.chk (decide ((0 : Int) ≤ s2.2.1 ∧ s2.2.1 < (s2.1.length : Int))) <|
      rgd.bnd (s2.1.getD s2.2.1.toNat (dz kd_impl_Deal)) fun y5 =>
      rgd.cal (g_laws_toDeal (y5, ())) fun d6 =>
      rgd.chk (decide ((0 : Int) ≤ s2.2.1 ∧ s2.2.1 < (s2.2.2.1.length : Int))) <|
      rgd.bnd (s2.2.2.1.set s2.2.1.toNat d6.1) fun y7 =>
      rgd.bnd (Go.IntKind.wrap .i64 (s2.2.1 + (1 : Int))) fun y8 =>
      some (.inl (s2.1, (y8, (y7, ())))))
      (rgd.out (
        some (s2.2.2.1, ())))) (x.1, ((0 : Int), (y1, ())))
noncomputable def ent_laws_toDealS : Ent := ⟨pars_laws_toDealS, rsh_laws_toDealS, g_laws_toDealS, none⟩
noncomputable def E_laws_toDealS (f : Nat) : Option Ent := lk ([(67, ent_laws_toDeal)] : List (Nat × Ent)) f
theorem q_laws_toDealS : vfun rgd Tf E_laws_toDealS an_laws_toDealS 23 pars_laws_toDealS [(.tmp 2)] rsh_laws_toDealS (Try.f16.body.getD .skip) = g_laws_toDealS := by kernel_rfl
theorem h_laws_toDealS : Holds Try.prog 16 ent_laws_toDealS ∧ Callable Try.prog 16 :=
  fn_ok tok mixed (E := E_laws_toDealS) (EOk_add h_laws_toDeal EOk_nil) Try.func16 (by kernel_rfl) (by kernel_rfl) (rs := [(.tmp 2)]) (by kernel_rfl) (by kernel_rfl) (by kernel_rfl) q_laws_toDealS
/- loop.example/g01263/laws.toBookS -/
def pars_laws_toBookS : List (Nat × TSh) := [(0, (.sc true (.sl 25 (.pr (.int .i64) (.pr (.sl 2 (.int .i64)) (.pr (.sl 134 (.pr (.int .i64) (.pr (.int .i64) (.pr (.int .i64) (.pr (.int .i64) (.pr (.int .i64) .un)))))) .un))))))]
def rsh_laws_toBookS : Sh := ⟨[(0, (.al 0))], [(0, (.ls 35 (.pr (.int .i64) (.pr (.sl 2 (.int .i64)) (.pr (.sl 83 (.pr (.int .i64) (.pr (.int .i64) (.pr (.int .i64) (.pr (.int .i64) (.pr (.int .i64) .un)))))) .un))) true))], 1⟩
def an_laws_toBookS : An := ⟨fun l => (lk ([(3, ⟨[(0, (.sc true (.sl 25 (.pr (.int .i64) (.pr (.sl 2 (.int .i64)) (.pr (.sl 134 (.pr (.int .i64) (.pr (.int .i64) (.pr (.int .i64) (.pr (.int .i64) (.pr (.int .i64) .un)))))) .un)))))), (3, (.al 0)), (4, (.sc true (.int .i64)))], [(0, (.ls 35 (.pr (.int .i64) (.pr (.sl 2 (.int .i64)) (.pr (.sl 83 (.pr (.int .i64) (.pr (.int .i64) (.pr (.int .i64) (.pr (.int .i64) (.pr (.int .i64) .un)))))) .un))) true))], 1⟩)] : List (Nat × Sh)) l).getD noSh, fun l => (lk ([] : List (Nat × List Ri)) l).getD [], fun l => lk ([] : List (Nat × Nat)) l, fun l => lk ([(0, [0]), (1, [0, 3]), (2, [0, 3, 4]), (3, [0, 3, 4, 11]), (4, [0, 3, 4]), (5, [0, 3, 4]), (6, [2])] : List (Nat × List Nat)) l⟩
noncomputable def g_laws_toBookS (x : ((List (Int × ((List Int) × ((List (Int × (Int × (Int × (Int × (Int × Unit)))))) × Unit)))) × Unit)) : Option ((List (Int × ((List Int) × ((List (Int × (Int × (Int × (Int × (Int × Unit)))))) × Unit)))) × Unit) :=
  rgd.bnd (x.1.length : Int) fun y0 =>
  rgd.chk (decide ((0 : Int) ≤ y0 ∧ y0 ≤ (1073741824 : Int))) <|
  rgd.bnd (List.replicate y0.toNat (dz kd_impl_Book)) fun y1 =>
  rgd.lop (fun (s2 : ((List (Int × ((List Int) × ((List (Int × (Int × (Int × (Int × (Int × Unit)))))) × Unit)))) × (Int × ((List (Int × ((List Int) × ((List (Int × (Int × (Int × (Int × (Int × Unit)))))) × Unit)))) × Unit)))) =>
    rgd.bnd (s2.1.length : Int) fun y3 =>
    rgd.bnd (decide (s2.2.1 < y3)) fun y4 =>
    rgd.br y4
      (rgd.chk (decide ((0 : Int) ≤ s2.2.1 ∧ s2.2.1 < (s2.1.length : Int))) <|
      rgd.bnd (s2.1.getD s2.2.1.toNat (dz kd_laws_Book)) fun y5 =>
      rgd.cal (g_laws_toBook (y5, ())) fun d6 =>
      rgd.chk (decide ((0 : Int) ≤ s2.2.1 ∧ s2.2.1 < (s2.2.2.1.length : Int))) <|
      rgd.bnd (s2.2.2.1.set s2.2.1.toNat (d6.1, (d6.2.1, (d6.2.2.1, ())))) fun y7 =>
      rgd.bnd (Go.IntKind.wrap .i64 (s2.2.1 + (1 : Int))) fun y8 =>
      some (.inl (s2.1, (y8, (y7, ())))))
      (rgd.out (
        some (s2.2.2.1, ())))) (x.1, ((0 : Int), (y1, ())))
noncomputable def ent_laws_toBookS : Ent := ⟨pars_laws_toBookS, rsh_laws_toBookS, g_laws_toBookS, none⟩
noncomputable def E_laws_toBookS (f : Nat) : Option Ent := lk ([(15, ent_laws_toBook)] : List (Nat × Ent)) f
theorem q_laws_toBookS : vfun rgd Tf E_laws_toBookS an_laws_toBookS 23 pars_laws_toBookS [(.tmp 2)] rsh_laws_toBookS (Try.f17.body.getD .skip) = g_laws_toBookS := by kernel_rfl
theorem h_laws_toBookS : Holds Try.prog 17 ent_laws_toBookS ∧ Callable Try.prog 17 :=
  fn_ok tok mixed (E := E_laws_toBookS) (EOk_add h_laws_toBook EOk_nil) Try.func17 (by kernel_rfl) (by kernel_rfl) (rs := [(.tmp 2)]) (by kernel_rfl) (by kernel_rfl) (by kernel_rfl) q_laws_toBookS
/- slices.Equal[[]int64,int64] -/
def pars_slices_Equal_int64 : List (Nat × TSh) := [(0, (.sc true (.sl 2 (.int .i64)))), (1, (.sc true (.sl 2 (.int .i64))))]
def rsh_slices_Equal_int64 : Sh := ⟨[(0, (.sc true .bool))], [], 0⟩
def an_slices_Equal_int64 : An := ⟨fun l => (lk ([(4, ⟨[(0, (.sc true (.sl 2 (.int .i64)))), (1, (.sc true (.sl 2 (.int .i64)))), (12, (.sc true (.int .i64))), (13, (.sc true (.int .i64)))], [], 0⟩)] : List (Nat × Sh)) l).getD noSh, fun l => (lk ([(6, [⟨0, false, [17, 20, 21, 22, 23]⟩, ⟨0, false, [16, 20, 21, 22, 23]⟩, ⟨3, false, [20, 21, 22, 23]⟩, ⟨7, false, [20, 21, 22, 23]⟩, ⟨0, false, [16, 17, 18, 19, 21]⟩, ⟨0, false, [16, 17, 18, 19, 20]⟩, ⟨48, false, [16, 17, 18, 19]⟩, ⟨112, false, [16, 17, 18, 19]⟩, ⟨255, true, []⟩])] : List (Nat × List Ri)) l).getD [], fun l => lk ([] : List (Nat × Nat)) l, fun l => lk ([(0, [0, 1]), (1, [0, 1, 10]), (2, [4]), (3, [0, 1, 12, 13]), (4, [0, 1, 12, 13, 14]), (5, [0, 1, 5, 12, 13]), (6, [0, 1, 12, 13, 24]), (7, [4]), (8, [0, 1, 12, 13]), (9, [4])] : List (Nat × List Nat)) l⟩
noncomputable def g_slices_Equal_int64 (x : ((List Int) × ((List Int) × Unit))) : Option (Bool × Unit) :=
  rgd.bnd (x.1.length : Int) fun y0 =>
  rgd.bnd (x.2.1.length : Int) fun y1 =>
  rgd.bnd (decide (y0 ≠ y1)) fun y2 =>
  rgd.br y2
    (some (false, ()))
    (rgd.bnd (x.1.length : Int) fun y3 =>
    rgd.lop (fun (s4 : ((List Int) × ((List Int) × (Int × (Int × Unit))))) =>
      rgd.bnd (decide (s4.2.2.2.1 < s4.2.2.1)) fun y5 =>
      rgd.br y5
        (rgd.chk (decide ((0 : Int) ≤ s4.2.2.2.1 ∧ s4.2.2.2.1 < (s4.1.length : Int))) <|
        rgd.bnd (s4.1.getD s4.2.2.2.1.toNat (dz (.int .i64))) fun y6 =>
        rgd.chk (decide ((0 : Int) ≤ s4.2.2.2.1 ∧ s4.2.2.2.1 < (s4.2.1.length : Int))) <|
        rgd.bnd (s4.2.1.getD s4.2.2.2.1.toNat (dz (.int .i64))) fun y7 =>
        rgd.bnd (decide (y6 ≠ y7)) fun y8 =>
        rgd.br y8
          (rgd.out (
            some (false, ())))
          (rgd.bnd (Go.IntKind.wrap .i64 (s4.2.2.2.1 + (1 : Int))) fun y9 =>
          some (.inl (s4.1, (s4.2.1, (s4.2.2.1, (y9, ())))))))
        (rgd.out (
          some (true, ())))) (x.1, (x.2.1, (y3, ((0 : Int), ())))))
noncomputable def ent_slices_Equal_int64 : Ent := ⟨pars_slices_Equal_int64, rsh_slices_Equal_int64, g_slices_Equal_int64, none⟩
noncomputable def E_slices_Equal_int64 (f : Nat) : Option Ent := lk ([] : List (Nat × Ent)) f
theorem q_slices_Equal_int64 : vfun rgd Tf E_slices_Equal_int64 an_slices_Equal_int64 26 pars_slices_Equal_int64 [(.tmp 4)] rsh_slices_Equal_int64 (Try.f91.body.getD .skip) = g_slices_Equal_int64 := by kernel_rfl
theorem h_slices_Equal_int64 : Holds Try.prog 91 ent_slices_Equal_int64 ∧ Callable Try.prog 91 :=
  fn_ok tok mixed (E := E_slices_Equal_int64) EOk_nil Try.func91 (by kernel_rfl) (by kernel_rfl) (rs := [(.tmp 4)]) (by kernel_rfl) (by kernel_rfl) (by kernel_rfl) q_slices_Equal_int64
/- slices.Equal[[]loop.example/g01263/impl.Tally,loop.example/g01263/impl.Tally] -/
def pars_slices_Equal_impl_Tally : List (Nat × TSh) := [(0, (.sc true (.sl 83 (.pr (.int .i64) (.pr (.int .i64) (.pr (.int .i64) (.pr (.int .i64) (.pr (.int .i64) .un)))))))), (1, (.sc true (.sl 83 (.pr (.int .i64) (.pr (.int .i64) (.pr (.int .i64) (.pr (.int .i64) (.pr (.int .i64) .un))))))))]
def rsh_slices_Equal_impl_Tally : Sh := ⟨[(0, (.sc true .bool))], [], 0⟩
def an_slices_Equal_impl_Tally : An := ⟨fun l => (lk ([(4, ⟨[(0, (.sc true (.sl 83 (.pr (.int .i64) (.pr (.int .i64) (.pr (.int .i64) (.pr (.int .i64) (.pr (.int .i64) .un)))))))), (1, (.sc true (.sl 83 (.pr (.int .i64) (.pr (.int .i64) (.pr (.int .i64) (.pr (.int .i64) (.pr (.int .i64) .un)))))))), (12, (.sc true (.int .i64))), (13, (.sc true (.int .i64)))], [], 0⟩)] : List (Nat × Sh)) l).getD noSh, fun l => (lk ([(6, [⟨0, false, [17, 20, 21, 22, 23]⟩, ⟨0, false, [16, 20, 21, 22, 23]⟩, ⟨3, false, [20, 21, 22, 23]⟩, ⟨7, false, [20, 21, 22, 23]⟩, ⟨0, false, [16, 17, 18, 19, 21]⟩, ⟨0, false, [16, 17, 18, 19, 20]⟩, ⟨48, false, [16, 17, 18, 19]⟩, ⟨112, false, [16, 17, 18, 19]⟩, ⟨255, true, []⟩])] : List (Nat × List Ri)) l).getD [], fun l => lk ([] : List (Nat × Nat)) l, fun l => lk ([(0, [0, 1]), (1, [0, 1, 10]), (2, [4]), (3, [0, 1, 12, 13]), (4, [0, 1, 12, 13, 14]), (5, [0, 1, 5, 12, 13]), (6, [0, 1, 12, 13, 24]), (7, [4]), (8, [0, 1, 12, 13]), (9, [4])] : List (Nat × List Nat)) l⟩
noncomputable def g_slices_Equal_impl_Tally (x : ((List (Int × (Int × (Int × (Int × (Int × Unit)))))) × ((List (Int × (Int × (Int × (Int × (Int × Unit)))))) × Unit))) : Option (Bool × Unit) :=
  rgd.bnd (x.1.length : Int) fun y0 =>
  rgd.bnd (x.2.1.length : Int) fun y1 =>
  rgd.bnd (decide (y0 ≠ y1)) fun y2 =>
  rgd.br y2
    (some (false, ()))
    (rgd.bnd (x.1.length : Int) fun y3 =>
    rgd.lop (fun (s4 : ((List (Int × (Int × (Int × (Int × (Int × Unit)))))) × ((List (Int × (Int × (Int × (Int × (Int × Unit)))))) × (Int × (Int × Unit))))) =>
      rgd.bnd (decide (s4.2.2.2.1 < s4.2.2.1)) fun y5 =>
      rgd.br y5
        (rgd.chk (decide ((0 : Int) ≤ s4.2.2.2.1 ∧ s4.2.2.2.1 < (s4.1.length : Int))) <|
        rgd.bnd (s4.1.getD s4.2.2.2.1.toNat (dz kd_impl_Tally)) fun y6 =>
        rgd.chk (decide ((0 : Int) ≤ s4.2.2.2.1 ∧ s4.2.2.2.1 < (s4.2.1.length : Int))) <|
        rgd.bnd (s4.2.1.getD s4.2.2.2.1.toNat (dz kd_impl_Tally)) fun y7 =>
        rgd.bnd (!(eqD kd_impl_Tally y6 y7)) fun y8 =>
        rgd.br y8
          (rgd.out (
            some (false, ())))
          (rgd.bnd (Go.IntKind.wrap .i64 (s4.2.2.2.1 + (1 : Int))) fun y9 =>
          some (.inl (s4.1, (s4.2.1, (s4.2.2.1, (y9, ())))))))
        (rgd.out (
          some (true, ())))) (x.1, (x.2.1, (y3, ((0 : Int), ())))))
noncomputable def ent_slices_Equal_impl_Tally : Ent := ⟨pars_slices_Equal_impl_Tally, rsh_slices_Equal_impl_Tally, g_slices_Equal_impl_Tally, none⟩
noncomputable def E_slices_Equal_impl_Tally (f : Nat) : Option Ent := lk ([] : List (Nat × Ent)) f
theorem q_slices_Equal_impl_Tally : vfun rgd Tf E_slices_Equal_impl_Tally an_slices_Equal_impl_Tally 26 pars_slices_Equal_impl_Tally [(.tmp 4)] rsh_slices_Equal_impl_Tally (Try.f92.body.getD .skip) = g_slices_Equal_impl_Tally := by kernel_rfl
theorem h_slices_Equal_impl_Tally : Holds Try.prog 92 ent_slices_Equal_impl_Tally ∧ Callable Try.prog 92 :=
  fn_ok tok mixed (E := E_slices_Equal_impl_Tally) EOk_nil Try.func92 (by kernel_rfl) (by kernel_rfl) (rs := [(.tmp 4)]) (by kernel_rfl) (by kernel_rfl) (by kernel_rfl) q_slices_Equal_impl_Tally
/- loop.example/g01263/impl.SameBook -/
def pars_impl_SameBook : List (Nat × TSh) := [(0, (.sc true (.pr (.int .i64) (.pr (.sl 2 (.int .i64)) (.pr (.sl 83 (.pr (.int .i64) (.pr (.int .i64) (.pr (.int .i64) (.pr (.int .i64) (.pr (.int .i64) .un)))))) .un))))), (1, (.sc true (.pr (.int .i64) (.pr (.sl 2 (.int .i64)) (.pr (.sl 83 (.pr (.int .i64) (.pr (.int .i64) (.pr (.int .i64) (.pr (.int .i64) (.pr (.int .i64) .un)))))) .un)))))]
def rsh_impl_SameBook : Sh := ⟨[(0, (.sc true .bool))], [], 0⟩
def an_impl_SameBook : An := ⟨fun l => (lk ([] : List (Nat × Sh)) l).getD noSh, fun l => (lk ([(1, [⟨0, false, []⟩, ⟨1, false, []⟩, ⟨3, false, []⟩, ⟨7, false, []⟩, ⟨15, false, []⟩, ⟨31, false, []⟩, ⟨63, false, []⟩, ⟨127, false, []⟩, ⟨255, false, []⟩, ⟨511, false, []⟩, ⟨1023, false, []⟩, ⟨2047, false, []⟩, ⟨4095, false, []⟩, ⟨8191, false, []⟩, ⟨16383, false, []⟩, ⟨32767, false, []⟩, ⟨65535, false, []⟩, ⟨131071, false, []⟩, ⟨262143, false, []⟩, ⟨524287, false, []⟩])] : List (Nat × List Ri)) l).getD [], fun l => lk ([(1, 4)] : List (Nat × Nat)) l, fun l => lk ([(0, [2, 3]), (1, [4])] : List (Nat × List Nat)) l⟩
noncomputable def g_impl_SameBook (x : ((Int × ((List Int) × ((List (Int × (Int × (Int × (Int × (Int × Unit)))))) × Unit))) × ((Int × ((List Int) × ((List (Int × (Int × (Int × (Int × (Int × Unit)))))) × Unit))) × Unit))) : Option (Bool × Unit) :=
  rgd.jn (
      rgd.bnd (decide (x.1.1 = x.2.1.1)) fun y1 =>
      rgd.br y1
        (rgd.cal (g_slices_Equal_int64 (x.1.2.1, (x.2.1.2.1, ()))) fun d2 =>
        rgd.br d2.1
          (rgd.cal (g_slices_Equal_impl_Tally (x.1.2.2.1, (x.2.1.2.2.1, ()))) fun d3 =>
          some d3.1)
          (some false))
        (some false)) fun b0 =>
  some (b0, ())
noncomputable def ent_impl_SameBook : Ent := ⟨pars_impl_SameBook, rsh_impl_SameBook, g_impl_SameBook, none⟩
noncomputable def E_impl_SameBook (f : Nat) : Option Ent := lk ([(91, ent_slices_Equal_int64), (92, ent_slices_Equal_impl_Tally)] : List (Nat × Ent)) f
theorem q_impl_SameBook : vfun rgd Tf E_impl_SameBook an_impl_SameBook 24 pars_impl_SameBook [(.tmp 4)] rsh_impl_SameBook (Try.f43.body.getD .skip) = g_impl_SameBook := by kernel_rfl
theorem h_impl_SameBook : Holds Try.prog 43 ent_impl_SameBook ∧ Callable Try.prog 43 :=
  fn_ok tok mixed (E := E_impl_SameBook) (EOk_add h_slices_Equal_int64 (EOk_add h_slices_Equal_impl_Tally EOk_nil)) Try.func43 (by kernel_rfl) (by kernel_rfl) (rs := [(.tmp 4)]) (by kernel_rfl) (by kernel_rfl) (by kernel_rfl) q_impl_SameBook
/- loop.example/g01263/impl.isBookDay -/
def pars_impl_isBookDay : List (Nat × TSh) := [(0, (.sc true (.int .i64)))]
def rsh_impl_isBookDay : Sh := ⟨[(0, (.sc true .bool))], [], 0⟩
def an_impl_isBookDay : An := ⟨fun l => (lk ([] : List (Nat × Sh)) l).getD noSh, fun l => (lk ([(1, [⟨0, false, []⟩, ⟨1, false, []⟩, ⟨3, false, []⟩, ⟨7, false, []⟩, ⟨15, false, []⟩, ⟨31, false, []⟩, ⟨63, false, []⟩])] : List (Nat × List Ri)) l).getD [], fun l => lk ([(1, 2)] : List (Nat × Nat)) l, fun l => lk ([(0, [0]), (1, [2])] : List (Nat × List Nat)) l⟩
noncomputable def g_impl_isBookDay (x : (Int × Unit)) : Option (Bool × Unit) :=
  rgd.jn (
      rgd.bnd (decide (x.1 ≥ (0 : Int))) fun y1 =>
      rgd.br y1
        (rgd.bnd (decide (x.1 ≤ (100000 : Int))) fun y2 =>
        some y2)
        (some false)) fun b0 =>
  some (b0, ())
noncomputable def ent_impl_isBookDay : Ent := ⟨pars_impl_isBookDay, rsh_impl_isBookDay, g_impl_isBookDay, none⟩
noncomputable def E_impl_isBookDay (f : Nat) : Option Ent := lk ([] : List (Nat × Ent)) f
theorem q_impl_isBookDay : vfun rgd Tf E_impl_isBookDay an_impl_isBookDay 9 pars_impl_isBookDay [(.tmp 2)] rsh_impl_isBookDay (Try.f83.body.getD .skip) = g_impl_isBookDay := by kernel_rfl
theorem h_impl_isBookDay : Holds Try.prog 83 ent_impl_isBookDay ∧ Callable Try.prog 83 :=
  fn_ok tok mixed (E := E_impl_isBookDay) EOk_nil Try.func83 (by kernel_rfl) (by kernel_rfl) (rs := [(.tmp 2)]) (by kernel_rfl) (by kernel_rfl) (by kernel_rfl) q_impl_isBookDay
/- loop.example/g01263/impl.arePeople -/
def pars_impl_arePeople : List (Nat × TSh) := [(0, (.sc true (.int .i64))), (1, (.sc true (.sl 2 (.int .i64))))]
def rsh_impl_arePeople : Sh := ⟨[(0, (.sc true .bool))], [], 0⟩
def an_impl_arePeople : An := ⟨fun l => (lk ([(2, ⟨[(0, (.sc true (.int .i64))), (7, (.sc true (.sl 2 (.int .i64)))), (8, (.sc true (.int .i64))), (9, (.sc true (.int .i64)))], [], 0⟩)] : List (Nat × Sh)) l).getD noSh, fun l => (lk ([(4, [⟨0, false, []⟩, ⟨1, false, []⟩, ⟨3, false, []⟩, ⟨7, false, []⟩, ⟨15, false, []⟩, ⟨31, false, []⟩, ⟨63, false, []⟩])] : List (Nat × List Ri)) l).getD [], fun l => lk ([(4, 19)] : List (Nat × Nat)) l, fun l => lk ([(0, [0, 1]), (1, [0, 7, 8, 9]), (2, [0, 7, 8, 9, 10]), (3, [0, 6, 7, 8, 9]), (4, [0, 7, 8, 9, 19]), (5, [4]), (6, [0, 7, 8, 9]), (7, [4])] : List (Nat × List Nat)) l⟩
noncomputable def g_impl_arePeople (x : (Int × ((List Int) × Unit))) : Option (Bool × Unit) :=
  rgd.bnd (x.2.1.length : Int) fun y0 =>
  rgd.lop (fun (s1 : (Int × ((List Int) × (Int × (Int × Unit))))) =>
    rgd.bnd (decide (s1.2.2.2.1 < s1.2.2.1)) fun y2 =>
    rgd.br y2
      (rgd.chk (decide ((0 : Int) ≤ s1.2.2.2.1 ∧ s1.2.2.2.1 < (s1.2.1.length : Int))) <|
      rgd.bnd (s1.2.1.getD s1.2.2.2.1.toNat (dz (.int .i64))) fun y3 =>
      rgd.jn (
          rgd.bnd (decide (y3 < (0 : Int))) fun y5 =>
          rgd.br y5
            (some true)
            (rgd.bnd (decide (y3 ≥ s1.1)) fun y6 =>
            some y6)) fun b4 =>
      rgd.br b4
        (rgd.out (
          some (false, ())))
        (rgd.bnd (Go.IntKind.wrap .i64 (s1.2.2.2.1 + (1 : Int))) fun y7 =>
        some (.inl (s1.1, (s1.2.1, (s1.2.2.1, (y7, ())))))))
      (rgd.out (
        some (true, ())))) (x.1, (x.2.1, (y0, ((0 : Int), ()))))
noncomputable def ent_impl_arePeople : Ent := ⟨pars_impl_arePeople, rsh_impl_arePeople, g_impl_arePeople, none⟩
noncomputable def E_impl_arePeople (f : Nat) : Option Ent := lk ([] : List (Nat × Ent)) f
theorem q_impl_arePeople : vfun rgd Tf E_impl_arePeople an_impl_arePeople 21 pars_impl_arePeople [(.tmp 4)] rsh_impl_arePeople (Try.f87.body.getD .skip) = g_impl_arePeople := by kernel_rfl
theorem h_impl_arePeople : Holds Try.prog 87 ent_impl_arePeople ∧ Callable Try.prog 87 :=
  fn_ok tok mixed (E := E_impl_arePeople) EOk_nil Try.func87 (by kernel_rfl) (by kernel_rfl) (rs := [(.tmp 4)]) (by kernel_rfl) (by kernel_rfl) (by kernel_rfl) q_impl_arePeople
/- loop.example/g01263/impl.isAmount -/
def pars_impl_isAmount : List (Nat × TSh) := [(0, (.sc true (.int .i64)))]
def rsh_impl_isAmount : Sh := ⟨[(0, (.sc true .bool))], [], 0⟩
def an_impl_isAmount : An := ⟨fun l => (lk ([] : List (Nat × Sh)) l).getD noSh, fun l => (lk ([(1, [⟨0, false, []⟩, ⟨1, false, []⟩, ⟨3, false, []⟩, ⟨7, false, []⟩, ⟨15, false, []⟩, ⟨31, false, []⟩, ⟨63, false, []⟩])] : List (Nat × List Ri)) l).getD [], fun l => lk ([(1, 2)] : List (Nat × Nat)) l, fun l => lk ([(0, [0]), (1, [2])] : List (Nat × List Nat)) l⟩
noncomputable def g_impl_isAmount (x : (Int × Unit)) : Option (Bool × Unit) :=
  rgd.jn (
      rgd.bnd (decide (x.1 ≥ (0 : Int))) fun y1 =>
      rgd.br y1
        (rgd.bnd (decide (x.1 ≤ (100000000 : Int))) fun y2 =>
        some y2)
        (some false)) fun b0 =>
  some (b0, ())
noncomputable def ent_impl_isAmount : Ent := ⟨pars_impl_isAmount, rsh_impl_isAmount, g_impl_isAmount, none⟩
noncomputable def E_impl_isAmount (f : Nat) : Option Ent := lk ([] : List (Nat × Ent)) f
theorem q_impl_isAmount : vfun rgd Tf E_impl_isAmount an_impl_isAmount 9 pars_impl_isAmount [(.tmp 2)] rsh_impl_isAmount (Try.f93.body.getD .skip) = g_impl_isAmount := by kernel_rfl
theorem h_impl_isAmount : Holds Try.prog 93 ent_impl_isAmount ∧ Callable Try.prog 93 :=
  fn_ok tok mixed (E := E_impl_isAmount) EOk_nil Try.func93 (by kernel_rfl) (by kernel_rfl) (rs := [(.tmp 2)]) (by kernel_rfl) (by kernel_rfl) (by kernel_rfl) q_impl_isAmount
end Go.Proofs.Ytjnfbibaldbjhaa
