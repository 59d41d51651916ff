/- Proved here: the contract of token.single: a map literal of nine kinds and one look into it. -/
import Derived.Test.YtpefkehcibdjgaaDoorH0
import Derived.KernelRfl
import Derived.RowKit3
import Derived.Deep.QuietTactic
import Derived.BigQuiet
import Derived.Lib.Walk
import Derived.Lib.Strings
import Derived.Lib.Hide
import Derived.Maps.Own
import Derived.Maps.OwnOps
import Derived.Maps.OwnSet
import Derived.Maps.Keyed
import Derived.Maps.Views
namespace Go.Proofs.YtpefkehcibdjgaaDoor.H
open Go.RowKit Go.Maps Go.Proofs.YtpefkehcibdjgaaDoorW.PrintWords Go.Proofs.YtpefkehcibdjgaaDoorW.PrintLast Go.Proofs.YtpefkehcibdjgaaDoorW.PrintMore
set_option maxRecDepth 100000
theorem has_step (D : DataW Unit) (hD : Maps.IsMap D) (k c : Int) (d : DataW Unit) : Maps.has (D.put (.int .u8 k) d) (.int .u8 c) = if c = k then true else Maps.has D (.int .u8 c) := by
  by_cases h : c = k
  · subst h; rw [if_pos rfl]; exact Maps.has_put_same hD (by simp [WideAt.IsKeyLit]) d
  · rw [if_neg h]; exact Maps.has_put_other (by simp; exact h) d
theorem at_step (D : DataW Unit) (hD : Maps.IsMap D) (k c : Int) (d z : DataW Unit) : (D.put (.int .u8 k) d).atKey (.int .u8 c) z = if c = k then d else D.atKey (.int .u8 c) z := by
  by_cases h : c = k
  · subst h; rw [if_pos rfl]; exact Maps.atKey_put_same hD (by simp [WideAt.IsKeyLit]) d z
  · rw [if_neg h]; exact Maps.atKey_put_other (by simp; exact h) d z
def dOf : List (Int × Int) → DataW Unit
  | [] => .map []
  | p :: l => (dOf l).put (.int .u8 p.1) (.lit (.int .i64 p.2))
theorem dOf_isMap : ∀ l, Maps.IsMap (dOf l)
  | [] => Maps.isMap_empty
  | p :: l => (dOf_isMap l).put _ _
theorem has_cons (k v c : Int) (l : List (Int × Int)) : Maps.has (dOf ((k, v) :: l)) (.int .u8 c) = if c = k then true else Maps.has (dOf l) (.int .u8 c) := has_step _ (dOf_isMap l) k c _
theorem at_cons (k v c : Int) (l : List (Int × Int)) (z : DataW Unit) : (dOf ((k, v) :: l)).atKey (.int .u8 c) z = if c = k then .lit (.int .i64 v) else (dOf l).atKey (.int .u8 c) z := at_step _ (dOf_isMap l) k c _ z
def kindsL : List (Int × Int) := [(64, 12), (59, 11), (47, 10), (37, 9), (44, 8), (46, 7), (63, 6), (35, 6), (48, 6)]
theorem kinds_has (c : Int) : Maps.has (dOf kindsL) (.int .u8 c) = (singleP c).2 := by
  unfold kindsL
  simp only [has_cons]
  have e : Maps.has (dOf []) (.int .u8 c) = false := rfl
  rw [e]
  unfold singleP
  repeat' split
  all_goals (first | rfl | (exfalso; omega))
theorem kinds_at (c : Int) : (dOf kindsL).atKey (.int .u8 c) (.lit (.int .i64 0)) = .lit (.int .i64 (singleP c).1) := by
  unfold kindsL
  simp only [at_cons]
  have e : (dOf []).atKey (.int .u8 c) (.lit (.int .i64 0)) = .lit (.int .i64 0) := rfl
  rw [e]
  unfold singleP
  repeat' split
  all_goals (first | rfl | (exfalso; omega))
theorem zero29 (w : World) : (zeroValue 29).run Tryd.prog w = .ok (.int .i64 0) w := by kernel_rfl
theorem keyed5 : Keyed Tryd.prog 5 := int_keyed Tryd.underlying5
/-- one store of the literal -/
theorem put_one (W : World) (b n : Nat) (l : List (Int × Int)) (k v : Int) (hk : (Lit.int .u8 k).wf = true) (hv : (Lit.int .i64 v).wf = true) (hn : n < 100) (h : W.ownsMap Tryd.prog 5 (plainElem Tryd.prog 29) b n (dOf l)) :
    ∃ W', (Instr.mapUpdate 111 (.map (some b)) (.int .u8 k) (.int .i64 v)).run Tryd.prog W = .ok () W' ∧ W'.ownsMap Tryd.prog 5 (plainElem Tryd.prog 29) b (n + 1) (dOf ((k, v) :: l)) ∧ W.grownBy W' (some b) :=
  h.update keyed5 Tryd.underlying111 (by unfold maxLen; omega) (keyOf_int_mk Tryd.underlying5 hk) (plainElem_int Tryd.underlying29 hv)
theorem single_walk (a0 : Int) (w : World) (ha : 0 ≤ a0 ∧ a0 ≤ 255) (r1 : Int) (r2 : Bool) (h1 : (singleP a0).1 = r1) (h2 : (singleP a0).2 = r2) :
    Calls Tryd.prog 45 #[.int .u8 a0] w fun e w' => e = .returned (.tuple #[.int .i64 r1, .bool r2]) ∧ Below w.heap.size w w' := by
  have hmm := @run_makeMap Tryd.prog
  have O0 : (w.alloc (.map #[] 0)).ownsMap Tryd.prog 5 (plainElem Tryd.prog 29) w.heap.size 0 (dOf []) := World.ownsMap_made _ _ _ _
  have B0 : Below w.heap.size w (w.alloc (.map #[] 0)) := (Below.refl _ _).alloc (Nat.le_refl _) _
  obtain ⟨W1, U1, O1, G1⟩ := put_one _ w.heap.size 0 _ 48 6 (by decide) (by decide) (by omega) O0
  have B1 := B0.grown G1 B0.size (fun j hj => by cases hj; exact Nat.le_refl _)
  obtain ⟨W2, U2, O2, G2⟩ := put_one _ w.heap.size 1 _ 35 6 (by decide) (by decide) (by omega) O1
  have B2 := B1.grown G2 B1.size (fun j hj => by cases hj; exact Nat.le_refl _)
  obtain ⟨W3, U3, O3, G3⟩ := put_one _ w.heap.size 2 _ 63 6 (by decide) (by decide) (by omega) O2
  have B3 := B2.grown G3 B2.size (fun j hj => by cases hj; exact Nat.le_refl _)
  obtain ⟨W4, U4, O4, G4⟩ := put_one _ w.heap.size 3 _ 46 7 (by decide) (by decide) (by omega) O3
  have B4 := B3.grown G4 B3.size (fun j hj => by cases hj; exact Nat.le_refl _)
  obtain ⟨W5, U5, O5, G5⟩ := put_one _ w.heap.size 4 _ 44 8 (by decide) (by decide) (by omega) O4
  have B5 := B4.grown G5 B4.size (fun j hj => by cases hj; exact Nat.le_refl _)
  obtain ⟨W6, U6, O6, G6⟩ := put_one _ w.heap.size 5 _ 37 9 (by decide) (by decide) (by omega) O5
  have B6 := B5.grown G6 B5.size (fun j hj => by cases hj; exact Nat.le_refl _)
  obtain ⟨W7, U7, O7, G7⟩ := put_one _ w.heap.size 6 _ 47 10 (by decide) (by decide) (by omega) O6
  have B7 := B6.grown G7 B6.size (fun j hj => by cases hj; exact Nat.le_refl _)
  obtain ⟨W8, U8, O8, G8⟩ := put_one _ w.heap.size 7 _ 59 11 (by decide) (by decide) (by omega) O7
  have B8 := B7.grown G8 B7.size (fun j hj => by cases hj; exact Nat.le_refl _)
  obtain ⟨W9, U9, O9, G9⟩ := put_one _ w.heap.size 8 _ 64 12 (by decide) (by decide) (by omega) O8
  have B9 := B8.grown G9 B8.size (fun j hj => by cases hj; exact Nat.le_refl _)
  have hkey : keyOf Tryd.prog 5 (.int .u8 a0) = some (.int .u8 a0) := keyOf_int_mk Tryd.underlying5 (by simp [Lit.wf, IntKind.min, IntKind.max, IntKind.signed, IntKind.bits]; omega)
  obtain ⟨v, ps, hrun, hv⟩ := O9.look_ok keyed5 Tryd.underlying111 (zero29 W9) (plainElem_int Tryd.underlying29 (by decide)) hkey
  have hD : dOf [(64, 12), (59, 11), (47, 10), (37, 9), (44, 8), (46, 7), (63, 6), (35, 6), (48, 6)] = dOf kindsL := rfl
  rw [hD, kinds_at, h1] at hv
  rw [hD, kinds_has, h2] at hrun
  obtain ⟨c, rfl, hc, -⟩ := plainElem_int_inv Tryd.underlying29 hv
  have hc1 : c = r1 := by simp only [DataW.lit.injEq, Prod.mk.injEq, Lit.int.injEq] at hc; exact hc.1.2.symm
  subst hc1
  have HB := Lib.hid B9
  clear B0 B1 B2 B3 B4 B5 B6 B7 B8 B9 O0 O1 O2 O3 O4 O5 O6 O7 O8 O9 G1 G2 G3 G4 G5 G6 G7 G8 G9 hv hc hkey hD h1 h2
  go_enter Tryd.func45, Tryd.ntmps45
  go_wp2_with fail
  go_ret2
  exact ⟨rfl, HB.out⟩
theorem token_single.calls (a0 : Int) (r1 : Int) (r2 : Bool) (w : World) (h : token_single.f a0 = some (r1, r2)) :
    Calls Tryd.prog 45 #[.int .u8 a0] w fun e w' => e = .returned (.tuple #[.int .i64 r1, .bool r2]) ∧ Below w.heap.size w w' := by
  unfold token_single.f at h
  split at h
  · rename_i ha
    have h0 : singleP a0 = (r1, r2) := Option.some.inj h
    exact single_walk a0 w ha r1 r2 (by rw [h0]) (by rw [h0])
  · cases h
end Go.Proofs.YtpefkehcibdjgaaDoor.H
