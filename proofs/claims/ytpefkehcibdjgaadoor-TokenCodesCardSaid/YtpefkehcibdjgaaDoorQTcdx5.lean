-- Written by a program of this session (wip/tools/print2.py) for one law: Lean checks it.
import Derived.Test.YtpefkehcibdjgaaDoorQTcdx0
import Derived.Test.YtpefkehcibdjgaaDoorQTcdx1
import Derived.Test.YtpefkehcibdjgaaDoorQTcdx4
namespace Go.Proofs.YtpefkehcibdjgaaDoor.QTcd
open Go.RowKit Go.Proofs.YtpefkehcibdjgaaDoor.H Go.Proofs.YtpefkehcibdjgaaDoorW.PrintWords Go.Proofs.YtpefkehcibdjgaaDoorW.PrintLast Go.Proofs.YtpefkehcibdjgaaDoorW.PrintMore
attribute [local go_sem] max2_int min2_int max_two min_two max_three min_three max_four min_four   -- for this text's walks alone
set_option linter.unusedVariables false
set_option linter.unusedSimpArgs false

attribute [local go_sem high] eqA31
/-! ### token_All: function 13 -/
def token_All.l0 : Nat → ByteArray → List (S31) → Int → Option ((List (S31)) × Int × Int)
  | 0, _, _, _ => none
  | k + 1, x0, x5, x6 => if x6 < (x0.size : Int) then (if 0 ≤ x6 then (if x6 ≤ (x0.size : Int) then ((token_first.f k (x0.extract (x6 : Int).toNat x0.size)).bind fun bt184 => (if bt184.2.2.2.2.2.2 = 0 then (if x5.length < 3518437208883 then (token_All.l0 k x0 (x5 ++ [(⟨bt184.1, bt184.2.1, bt184.2.2.1, x6⟩ : S31)]) (wrap64 (x6 + bt184.2.2.2.2.1))) else (none)) else (some (([] : List (S31)), wrap64 (x6 + bt184.2.2.2.2.2.1), bt184.2.2.2.2.2.2)))) else (none)) else (none)) else (some (x5, (x0.size : Int), 0))
def token_All.f (k : Nat) (a0 : ByteArray) : Option ((List (S31)) × Int × Int) := if (a0.size : Int) > 4096 then (some (([] : List (S31)), 0, 14)) else (token_All.l0 k a0 ([] : List (S31)) 0)
theorem token_All.mono_l : ∀ k, (∀ y0 y1 y2, LeO (token_All.l0 k y0 y1 y2) (token_All.l0 (k + 1) y0 y1 y2))
  | 0 => fun _ _ _ r h => by simp [token_All.l0] at h
  | k + 1 => by
    have ih0 := token_All.mono_l k
    · intro y0 y1 y2
      unfold token_All.l0
      repeat' first
      | (with_reducible exact ih0 _ _ _)
      | (with_reducible exact token_first.mono _ _)
      | (with_reducible exact LeO.refl _)
      | (with_reducible exact LeO.none _)
      | (with_reducible refine LeO.ite ?_ ?_)
      | (with_reducible refine LeO.bind ?_ (fun _ => ?_))
      | exact ih0 _ _ _
      | exact token_first.mono _ _
      | exact LeO.none _
      | refine LeO.ite ?_ ?_
      | refine LeO.bind ?_ (fun _ => ?_)
theorem token_All.mono : ∀ a0 k, LeO (token_All.f k a0) (token_All.f (k + 1) a0) := by
  intro a0 k
  have ih0 := token_All.mono_l k
  unfold token_All.f
  repeat' first
      | (with_reducible exact ih0 _ _ _)
      | (with_reducible exact token_first.mono _ _)
      | (with_reducible exact LeO.refl _)
      | (with_reducible exact LeO.none _)
      | (with_reducible refine LeO.ite ?_ ?_)
      | (with_reducible refine LeO.bind ?_ (fun _ => ?_))
      | exact ih0 _ _ _
      | exact token_first.mono _ _
      | exact LeO.none _
      | refine LeO.ite ?_ ?_
      | refine LeO.bind ?_ (fun _ => ?_)
set_option maxHeartbeats 8000000 in
set_option maxRecDepth 100000 in
theorem token_All.calls (k : Nat) (a0 : ByteArray) (r1 : List (S31)) (r2 : Int) (r3 : Int) (w : World) (h : token_All.f k a0 = some (r1, r2, r3)) (hLd : Laid w) :
    Calls Tryd.prog 13 #[.string a0] w fun e w' => ∃ v0_ : Value, e = .returned (.tuple #[v0_, .int .i64 r2, .int .i64 r3]) ∧ Kd.R k31 31 w' w.heap.size (fun _ => True) v0_ r1 ∧ Below w.heap.size w w' := by
  have hu31 := Tryd.underlying31
  have HB := Aside0.mk (Below.refl w.heap.size w)
  have HLd := Aside0.mk hLd
  clear hLd
  have H : (if (a0.size : Int) > 4096 then (some (([] : List (S31)), 0, 14)) else (token_All.l0 k a0 ([] : List (S31)) 0)) = some (r1, r2, r3) := h
  clear h
  by_cases c2 : (a0.size : Int) > 4096
  · rw [if_pos c2] at H
    have c2b0 : decide (4096 < (a0.size : Int)) = true := decide_eq_true c2
    have c2b1 : decide (4096 < a0.size) = true := decide_eq_true (by omega)
    clear c2
    simp only [Option.some.injEq, Prod.mk.injEq] at H
    obtain ⟨rfl, rfl, rfl⟩ := H
    go_enter Tryd.func13, Tryd.ntmps13
    go_wp2
    go_ret3
    exact ⟨_, by first | rfl | (simp [errW_none, errW_some] <;> rfl) | (simp [*, errW_none, errW_some] <;> rfl), by first | exact Kd.R_nil _ _ _ _ _ | exact Kd.N_nil _ _ _ _ _ | exact Kd.V_nil _ _ _ _ _ | exact Kd.Q_nil _ _ _ _ _ | exact Kd.S_nil _ _ _ _ _, bw⟩
  · rw [if_neg c2] at H
    have c2b0 : decide (4096 < (a0.size : Int)) = false := decide_eq_false c2
    have c2b1 : decide (4096 < a0.size) = false := decide_eq_false (by omega)
    clear c2
    have H' := Aside0.mk H
    clear H
    go_enter Tryd.func13, Tryd.ntmps13
    go_wp2
    go_loopg [5, 6] k (fun kq v5 v6 w' => ∃ (x5_1 : List (S31)) (x6_1 : Int), v6 = .int .i64 x6_1 ∧ Aside0 (token_All.l0 kq a0 x5_1 x6_1 = some (r1, r2, r3)) ∧ Aside0 (kq ≤ k) ∧ Aside0 (Kd.R k31 31 w' w.heap.size (fun _ => True) v5 x5_1) ∧ Aside0 (Below w.heap.size w w'))
    case atStart => exact ⟨(([] : List (S31))), (0), (by first | rfl | (simp; done) | (simp [*]; done)), H', ⟨Nat.le_refl _⟩, ⟨by first | exact Kd.R_nil _ _ _ _ _ | exact Kd.N_nil _ _ _ _ _ | exact Kd.V_nil _ _ _ _ _ | exact Kd.Q_nil _ _ _ _ _ | exact Kd.S_nil _ _ _ _ _⟩, ⟨bw⟩⟩
    case round =>
      clear H'
      try clear c1
      try clear c2
      try clear c2b0
      try clear c2b1
      try clear p2
      obtain ⟨x5_1, x6_1, rfl, HA, HK1, HO_5, HB⟩ := hrel
      cases gk with
      | zero => exact absurd HA.out (by simp [token_All.l0])
      | succ k1 =>
        have H := HA.out
        clear HA
        simp only [token_All.l0] at H
        by_cases c3 : x6_1 < (a0.size : Int)
        · rw [if_pos c3] at H
          have c3b0 : decide (x6_1 < (a0.size : Int)) = true := decide_eq_true c3
          clear c3
          by_cases c4 : 0 ≤ x6_1
          · rw [if_pos c4] at H
            have c4b0 := eq_true c4
            have c4b1 : decide (0 ≤ x6_1) = true := decide_eq_true c4
            clear c4
            by_cases c5 : x6_1 ≤ (a0.size : Int)
            · rw [if_pos c5] at H
              have c5b0 := eq_true c5
              have c5b1 : decide (x6_1 ≤ (a0.size : Int)) = true := decide_eq_true c5
              clear c5
              replace H := Option.bind_eq_some_iff.mp H
              obtain ⟨⟨t184, t185, t186, t187, t188, t189, t190⟩, A60, H⟩ := H
              replace H : (if t190 = 0 then (if x5_1.length < 3518437208883 then (token_All.l0 k1 a0 (x5_1 ++ [(⟨t184, t185, t186, x6_1⟩ : S31)]) (wrap64 (x6_1 + t188))) else (none)) else (some (([] : List (S31)), wrap64 (x6_1 + t189), t190))) = some (r1, r2, r3) := H
              have A6 := Aside0.mk A60
              clear A60
              by_cases c7 : t190 = 0
              · rw [if_pos c7] at H
                have c7b0 : (t190 == 0) = true := beq_iff_eq.mpr c7
                have c7b1 : (t190 != 0) = false := bne_eq_false_iff_eq.mpr c7
                clear c7
                by_cases c8 : x5_1.length < 3518437208883
                · rw [if_pos c8] at H
                  have LMc8 := Aside0.mk c8
                  clear c8
                  obtain ⟨y192, hy192⟩ : ∃ y_ : List (S31), y_ = (x5_1 ++ [(⟨t184, t185, t186, x6_1⟩ : S31)]) := ⟨_, rfl⟩
                  replace H : (token_All.l0 k1 a0 y192 (wrap64 (x6_1 + t188))) = some (r1, r2, r3) := by first | (rw [hy192]; with_reducible exact H) | (have H2_ := (Option.bind_some _ _).symm.trans H; rw [hy192]; with_reducible exact H2_) | (have H2_ := (Option.bind_some _ _).symm.trans H; with_reducible exact H2_) | with_reducible exact H | (rw [hy192]; exact H) | exact H
                  have Ny192 := Aside0.mk hy192
                  clear hy192
                  have H' := Aside0.mk H
                  clear H
                  go_wp2_with (first | ((with_reducible refine gate_callee (f := 29) rfl ?_); refine goesL_ (some 22) rfl rfl Tryd.func29 (by kernel_rfl) rfl #[.string (a0.extract (x6_1 : Int).toNat a0.size)] rfl (by (try simp only [List.map_toArray, List.map_cons, List.map_nil]); first | done | rfl | (simp only [List.length_drop, List.length_take]; rfl)) ?_; (with_reducible refine (token_first.calls k1 (a0.extract (x6_1 : Int).toNat a0.size) t184 t185 t186 t187 t188 t189 t190 _ A6.out ?side1).mono ?_); (case side1 => exact Laid.below HLd.out bw); rintro e w9 ⟨rfl, hb⟩; refine ⟨_, rfl, ?_⟩; have n0_ := Aside0.mk (Kd.R_below (kr HO_5) hb); have n1_ := Aside0.mk (below_step bw hb); clear HO_5; clear HB; have HO_5 := n0_; have HB := n1_; clear n0_ n1_; (try clear hb); (try clear hb2); (try clear hk); (try clear hi)) | ((with_reducible refine gate_dst (N := 7) rfl ?_); refine box_event ?hg (N := 7) ?hd (cs := #[.int .i64 0, .string (⟨#[]⟩ : ByteArray), .int .i64 0, .int .i64 0]) (t := 31) ?hr ?_; (case hd => rfl); (case hg => rfl); (case hr => first | (go_simp; done) | (go_simp; rfl)); intro gb191 hg w10 hbox hb; have n0_ := Aside0.mk (Kd.R_below (Kd.R_elderB (kr HO_5) gb191 (Nat.le_of_eq hg.symm)) hb); have n1_ := Aside0.mk (below_step bw hb); have n2_ := Aside0.mk (hbox); have n3_ := Aside0.mk ((by rw [hg]; exact (below_size bw) : w.heap.size ≤ gb191)); have n4_ := Aside0.mk ((by rw [hg]; exact (below_size bw) : w.heap.size ≤ gb191)); clear HO_5; clear HB; have HO_5 := n0_; have HB := n1_; have BK191 := n2_; have GW191 := n3_; have GE191 := n4_; clear n0_ n1_ n2_ n3_ n4_; clear hb hbox hg; obtain ⟨hcz11_0, hcz11_1, hcz11_2, hcz11_3, hfz11_0, hfz11_1, hfz11_2, hfz11_3⟩ := cells4 BK191) | ((with_reducible refine gate_builtin (b := .append) (xs := #[.tmp 35, .tmp 37]) rfl ?_); at_builtin; refine Kd.R_append k31 (w0 := w) w.heap.size rfl (.tmp 35) (.tmp 37) 22 31 (.agg #[(.int .i64 0), (.string ⟨#[]⟩), (.int .i64 0), (.int .i64 0)]) 40 rfl Tryd.underlying22 info31 rfl (by decide) (by omega) u5 x5_1 (⟨t184, t185, t186, x6_1⟩ : S31) [.int .i64 t184, .string t185, .int .i64 t186, .int .i64 x6_1] (fun k_ => k_ ≠ gb191) (fun _ => False) rfl (by first | (go_simp; done) | (go_simp; rfl)) ?aP (fun _ hk => hk.elim) ?aF ?aO ?aB ?aS ?aL ?_; (case aP => exact k31_mkM _ _ _ (⟨t184, t185, t186, x6_1⟩ : S31)); (case aB => exact bw); (case aF => exact (fun k_ hk => Kd.freshB (g := gb191) (o := .cells #[.int .i64 t184, .string t185, .int .i64 t186, .int .i64 x6_1] 31 (0, 0)) (by (with_reducible repeat (first | refine blk_drewN ?_ _ | refine blk_drew ?_ | refine blk_alloc ?_ _)); refine blk_put (cs := #[.int .i64 t184, .string t185, .int .i64 t186, .int .i64 t187]) ?_ 3 _ rfl; (with_reducible repeat (first | refine blk_drewN ?_ _ | refine blk_drew ?_ | refine blk_alloc ?_ _)); refine blk_put (cs := #[.int .i64 t184, .string t185, .int .i64 t186, .int .i64 0]) ?_ 3 _ rfl; (with_reducible repeat (first | refine blk_drewN ?_ _ | refine blk_drew ?_ | refine blk_alloc ?_ _)); refine blk_put (cs := #[.int .i64 t184, .string t185, .int .i64 0, .int .i64 0]) ?_ 2 _ rfl; (with_reducible repeat (first | refine blk_drewN ?_ _ | refine blk_drew ?_ | refine blk_alloc ?_ _)); refine blk_put (cs := #[.int .i64 t184, .string (⟨#[]⟩ : ByteArray), .int .i64 0, .int .i64 0]) ?_ 1 _ rfl; (with_reducible repeat (first | refine blk_drewN ?_ _ | refine blk_drew ?_ | refine blk_alloc ?_ _)); refine blk_put (cs := #[.int .i64 0, .string (⟨#[]⟩ : ByteArray), .int .i64 0, .int .i64 0]) ?_ 0 _ rfl; (with_reducible repeat (first | refine blk_drewN ?_ _ | refine blk_drew ?_ | refine blk_alloc ?_ _)); exact BK191.out) k_ hk)); (case aO => exact (by (with_reducible repeat (first | apply Kd.R_alloc | apply Kd.R_drewN | apply Kd.R_drew)); exact Kd.R_mono (Kd.R_far (p := ⟨gb191, 3, none⟩) (Kd.R_far (p := ⟨gb191, 3, none⟩) (Kd.R_far (p := ⟨gb191, 2, none⟩) (Kd.R_far (p := ⟨gb191, 1, none⟩) (Kd.R_far (p := ⟨gb191, 0, none⟩) (Kd.R_mono HO_5.out (fun k_ hk => (⟨hk, hk.2⟩ : _ ∧ k_ ≠ gb191))) (fun _ hk => hk.2) (.int .i64 t184)) (fun _ hk => hk.2) (.string t185)) (fun _ hk => hk.2) (.int .i64 t186)) (fun _ hk => hk.2) (.int .i64 t187)) (fun _ hk => hk.2) (.int .i64 x6_1)) (fun _ hk => hk.1.2))); (case aS => exact (below_size bw)); (case aL => have := LMc8.out; omega); intro v193 w12 ho hb hg hat; rw [← Ny192.out] at ho; have n0_ := Aside0.mk (blk_grown (g := gb191) (o := .cells #[.int .i64 t184, .string t185, .int .i64 t186, .int .i64 x6_1] 31 (0, 0)) (by (with_reducible repeat (first | refine blk_drewN ?_ _ | refine blk_drew ?_ | refine blk_alloc ?_ _)); refine blk_put (cs := #[.int .i64 t184, .string t185, .int .i64 t186, .int .i64 t187]) ?_ 3 _ rfl; (with_reducible repeat (first | refine blk_drewN ?_ _ | refine blk_drew ?_ | refine blk_alloc ?_ _)); refine blk_put (cs := #[.int .i64 t184, .string t185, .int .i64 t186, .int .i64 0]) ?_ 3 _ rfl; (with_reducible repeat (first | refine blk_drewN ?_ _ | refine blk_drew ?_ | refine blk_alloc ?_ _)); refine blk_put (cs := #[.int .i64 t184, .string t185, .int .i64 0, .int .i64 0]) ?_ 2 _ rfl; (with_reducible repeat (first | refine blk_drewN ?_ _ | refine blk_drew ?_ | refine blk_alloc ?_ _)); refine blk_put (cs := #[.int .i64 t184, .string (⟨#[]⟩ : ByteArray), .int .i64 0, .int .i64 0]) ?_ 1 _ rfl; (with_reducible repeat (first | refine blk_drewN ?_ _ | refine blk_drew ?_ | refine blk_alloc ?_ _)); refine blk_put (cs := #[.int .i64 0, .string (⟨#[]⟩ : ByteArray), .int .i64 0, .int .i64 0]) ?_ 0 _ rfl; (with_reducible repeat (first | refine blk_drewN ?_ _ | refine blk_drew ?_ | refine blk_alloc ?_ _)); exact BK191.out) hg (Kd.R_away HO_5.out (fun _ hk => hk.2))); have n1_ := Aside0.mk (hb); have n2_ := Aside0.mk (ho); clear BK191; clear HB; clear HO_5; have BK191 := n0_; have HB := n1_; have HO194 := n2_; clear n0_ n1_ n2_; clear ho hb hg hat))
                  go_roundg k1
                  case measure => have := HK1.out; omega
                  case rel => exact ⟨(y192), (wrap64 (x6_1 + t188)), (by first | rfl | (simp; done) | (simp [*]; done)), H', ⟨by have := HK1.out; omega⟩, ⟨by (with_reducible repeat (first | apply Kd.R_alloc | apply Kd.R_drewN | apply Kd.R_drew)); exact Kd.R_mono HO194.out (fun _ hk => trivial)⟩, ⟨bw⟩⟩
                · rw [if_neg c8] at H
                  exact absurd H (by simp)
              · rw [if_neg c7] at H
                have c7b0 : (t190 == 0) = false := beq_eq_false_iff_ne.mpr c7
                have c7b1 : (t190 != 0) = true := bne_iff_ne.mpr c7
                simp only [Option.some.injEq, Prod.mk.injEq] at H
                obtain ⟨rfl, rfl, rfl⟩ := H
                go_wp2_with (first | ((with_reducible refine gate_callee (f := 29) rfl ?_); refine goesL_ (some 22) rfl rfl Tryd.func29 (by kernel_rfl) rfl #[.string (a0.extract (x6_1 : Int).toNat a0.size)] rfl (by (try simp only [List.map_toArray, List.map_cons, List.map_nil]); first | done | rfl | (simp only [List.length_drop, List.length_take]; rfl)) ?_; (with_reducible refine (token_first.calls k1 (a0.extract (x6_1 : Int).toNat a0.size) t184 t185 t186 t187 t188 t189 t190 _ A6.out ?side1).mono ?_); (case side1 => exact Laid.below HLd.out bw); rintro e w13 ⟨rfl, hb⟩; refine ⟨_, rfl, ?_⟩; have n0_ := Aside0.mk (Kd.R_below (kr HO_5) hb); have n1_ := Aside0.mk (below_step bw hb); clear HO_5; clear HB; have HO_5 := n0_; have HB := n1_; clear n0_ n1_; (try clear hb); (try clear hb2); (try clear hk); (try clear hi)) | ((with_reducible refine gate_dst (N := 7) rfl ?_); refine box_event ?hg (N := 7) ?hd (cs := #[.int .i64 0, .string (⟨#[]⟩ : ByteArray), .int .i64 0, .int .i64 0]) (t := 31) ?hr ?_; (case hd => rfl); (case hg => rfl); (case hr => first | (go_simp; done) | (go_simp; rfl)); intro gb191 hg w14 hbox hb; have n0_ := Aside0.mk (Kd.R_below (Kd.R_elderB (kr HO_5) gb191 (Nat.le_of_eq hg.symm)) hb); have n1_ := Aside0.mk (below_step bw hb); have n2_ := Aside0.mk (hbox); have n3_ := Aside0.mk ((by rw [hg]; exact (below_size bw) : w.heap.size ≤ gb191)); have n4_ := Aside0.mk ((by rw [hg]; exact (below_size bw) : w.heap.size ≤ gb191)); clear HO_5; clear HB; have HO_5 := n0_; have HB := n1_; have BK191 := n2_; have GW191 := n3_; have GE191 := n4_; clear n0_ n1_ n2_ n3_ n4_; clear hb hbox hg; obtain ⟨hcz15_0, hcz15_1, hcz15_2, hcz15_3, hfz15_0, hfz15_1, hfz15_2, hfz15_3⟩ := cells4 BK191))
                go_ret3
                exact ⟨_, by first | rfl | (simp [errW_none, errW_some] <;> rfl) | (simp [*, errW_none, errW_some] <;> rfl), by first | exact Kd.R_nil _ _ _ _ _ | exact Kd.N_nil _ _ _ _ _ | exact Kd.V_nil _ _ _ _ _ | exact Kd.Q_nil _ _ _ _ _ | exact Kd.S_nil _ _ _ _ _, bw⟩
            · rw [if_neg c5] at H
              exact absurd H (by simp)
          · rw [if_neg c4] at H
            exact absurd H (by simp)
        · rw [if_neg c3] at H
          have c3b0 : decide (x6_1 < (a0.size : Int)) = false := decide_eq_false c3
          clear c3
          simp only [Option.some.injEq, Prod.mk.injEq] at H
          obtain ⟨rfl, rfl, rfl⟩ := H
          go_wp2
          go_ret3
          exact ⟨_, by first | rfl | (simp [errW_none, errW_some] <;> rfl) | (simp [*, errW_none, errW_some] <;> rfl), by (with_reducible repeat (first | apply Kd.R_alloc | apply Kd.R_drewN | apply Kd.R_drew)); exact HO_5.out, bw⟩

-- by hand: strings_Repeat

/-! ### token_Token_Code: function 27 -/
def token_Token_Code.j0 : Nat → ByteArray → Int → ByteArray → Int → Int → Option (ByteArray)
  | 0, _, _, _, _, _ => none
  | k + 1, x3, x196000, x196001, x196002, x196003 => (token_All.f k x3).bind fun bt197 => (if bt197.2.2 = 0 then (if (bt197.1.length : Int) = 1 then (if 0 < (bt197.1.length : Int) then (if (!(((rd_T31 bt197.1 0).f0) == x196000) || (!((((rd_T31 bt197.1 0).f1).toList) == x196001.toList) || (!(((rd_T31 bt197.1 0).f2) == x196002) || (!(((rd_T31 bt197.1 0).f3) == 0))))) = true then (some (⟨#[]⟩ : ByteArray)) else (some x3)) else (none)) else (some (⟨#[]⟩ : ByteArray))) else (some (⟨#[]⟩ : ByteArray)))
def token_Token_Code.f (k : Nat) (a0_0 : Int) (a0_1 : ByteArray) (a0_2 : Int) (a0_3 : Int) : Option (ByteArray) := if a0_0 = 1 then (if 1 + a0_1.size ≤ 9223372036854775807 then (if 1 + a0_1.size + 1 ≤ 9223372036854775807 then (token_Token_Code.j0 k (((⟨#[34]⟩ : ByteArray) ++ a0_1) ++ (⟨#[34]⟩ : ByteArray)) a0_0 a0_1 a0_2 a0_3) else (none)) else (none)) else (if a0_0 = 2 then (if 1 + a0_1.size ≤ 9223372036854775807 then (token_Token_Code.j0 k ((⟨#[92]⟩ : ByteArray) ++ a0_1) a0_0 a0_1 a0_2 a0_3) else (none)) else (if a0_0 = 3 then (if 1 + a0_1.size ≤ 9223372036854775807 then (token_Token_Code.j0 k ((⟨#[95]⟩ : ByteArray) ++ a0_1) a0_0 a0_1 a0_2 a0_3) else (none)) else (if a0_0 = 4 then (if 1 + a0_1.size ≤ 9223372036854775807 then (token_Token_Code.j0 k ((⟨#[42]⟩ : ByteArray) ++ a0_1) a0_0 a0_1 a0_2 a0_3) else (none)) else (if a0_0 = 5 then (if 1 + a0_1.size ≤ 9223372036854775807 then (if 1 + a0_1.size + 1 ≤ 9223372036854775807 then (token_Token_Code.j0 k (((⟨#[91]⟩ : ByteArray) ++ a0_1) ++ (⟨#[93]⟩ : ByteArray)) a0_0 a0_1 a0_2 a0_3) else (none)) else (none)) else (if a0_0 = 13 then (if 1 + a0_1.size ≤ 9223372036854775807 then (token_Token_Code.j0 k ((⟨#[69]⟩ : ByteArray) ++ a0_1) a0_0 a0_1 a0_2 a0_3) else (none)) else (if a0_0 = 14 then ((strings_Repeat.f a0_1 (mx 0 (mn a0_2 4096))).bind fun t196 => (token_Token_Code.j0 k t196 a0_0 a0_1 a0_2 a0_3)) else (token_Token_Code.j0 k a0_1 a0_0 a0_1 a0_2 a0_3)))))))
theorem token_Token_Code.mono_l : ∀ k, (∀ y0 y1 y2 y3 y4, LeO (token_Token_Code.j0 k y0 y1 y2 y3 y4) (token_Token_Code.j0 (k + 1) y0 y1 y2 y3 y4))
  | 0 => fun _ _ _ _ _ r h => by simp [token_Token_Code.j0] at h
  | k + 1 => by
    have ih0 := token_Token_Code.mono_l k
    · intro y0 y1 y2 y3 y4
      unfold token_Token_Code.j0
      repeat' first
      | (with_reducible exact ih0 _ _ _ _ _)
      | (with_reducible exact token_All.mono _ _)
      | (with_reducible exact LeO.refl _)
      | (with_reducible exact LeO.none _)
      | (with_reducible refine LeO.ite ?_ ?_)
      | (with_reducible refine LeO.bind ?_ (fun _ => ?_))
      | exact ih0 _ _ _ _ _
      | exact token_All.mono _ _
      | exact LeO.none _
      | refine LeO.ite ?_ ?_
      | refine LeO.bind ?_ (fun _ => ?_)
theorem token_Token_Code.mono : ∀ a0 a1 a2 a3 k, LeO (token_Token_Code.f k a0 a1 a2 a3) (token_Token_Code.f (k + 1) a0 a1 a2 a3) := by
  intro a0 a1 a2 a3 k
  have ih0 := token_Token_Code.mono_l k
  unfold token_Token_Code.f
  repeat' first
      | (with_reducible exact ih0 _ _ _ _ _)
      | (with_reducible exact token_All.mono _ _)
      | (with_reducible exact LeO.refl _)
      | (with_reducible exact LeO.none _)
      | (with_reducible refine LeO.ite ?_ ?_)
      | (with_reducible refine LeO.bind ?_ (fun _ => ?_))
      | exact ih0 _ _ _ _ _
      | exact token_All.mono _ _
      | exact LeO.none _
      | refine LeO.ite ?_ ?_
      | refine LeO.bind ?_ (fun _ => ?_)
set_option maxHeartbeats 8000000 in
set_option maxRecDepth 100000 in
theorem token_Token_Code.calls (k : Nat) (a0_0 : Int) (a0_1 : ByteArray) (a0_2 : Int) (a0_3 : Int) (r : ByteArray) (w : World) (h : token_Token_Code.f k a0_0 a0_1 a0_2 a0_3 = some r) (hLd : Laid w) :
    Calls Tryd.prog 27 #[.agg #[.int .i64 a0_0, .string a0_1, .int .i64 a0_2, .int .i64 a0_3]] w fun e w' => e = .returned (.string r) ∧ Below w.heap.size w w' := by
  have hu31 := Tryd.underlying31
  have HB := Aside0.mk (Below.refl w.heap.size w)
  have HLd := Aside0.mk hLd
  clear hLd
  have H : (if a0_0 = 1 then (if 1 + a0_1.size ≤ 9223372036854775807 then (if 1 + a0_1.size + 1 ≤ 9223372036854775807 then (token_Token_Code.j0 k (((⟨#[34]⟩ : ByteArray) ++ a0_1) ++ (⟨#[34]⟩ : ByteArray)) a0_0 a0_1 a0_2 a0_3) else (none)) else (none)) else (if a0_0 = 2 then (if 1 + a0_1.size ≤ 9223372036854775807 then (token_Token_Code.j0 k ((⟨#[92]⟩ : ByteArray) ++ a0_1) a0_0 a0_1 a0_2 a0_3) else (none)) else (if a0_0 = 3 then (if 1 + a0_1.size ≤ 9223372036854775807 then (token_Token_Code.j0 k ((⟨#[95]⟩ : ByteArray) ++ a0_1) a0_0 a0_1 a0_2 a0_3) else (none)) else (if a0_0 = 4 then (if 1 + a0_1.size ≤ 9223372036854775807 then (token_Token_Code.j0 k ((⟨#[42]⟩ : ByteArray) ++ a0_1) a0_0 a0_1 a0_2 a0_3) else (none)) else (if a0_0 = 5 then (if 1 + a0_1.size ≤ 9223372036854775807 then (if 1 + a0_1.size + 1 ≤ 9223372036854775807 then (token_Token_Code.j0 k (((⟨#[91]⟩ : ByteArray) ++ a0_1) ++ (⟨#[93]⟩ : ByteArray)) a0_0 a0_1 a0_2 a0_3) else (none)) else (none)) else (if a0_0 = 13 then (if 1 + a0_1.size ≤ 9223372036854775807 then (token_Token_Code.j0 k ((⟨#[69]⟩ : ByteArray) ++ a0_1) a0_0 a0_1 a0_2 a0_3) else (none)) else (if a0_0 = 14 then ((strings_Repeat.f a0_1 (mx 0 (mn a0_2 4096))).bind fun t196 => (token_Token_Code.j0 k t196 a0_0 a0_1 a0_2 a0_3)) else (token_Token_Code.j0 k a0_1 a0_0 a0_1 a0_2 a0_3)))))))) = some r := h
  clear h
  have HC2 := Aside0.mk H
  clear H
  go_enter Tryd.func27, Tryd.ntmps27
  go_upto_block 0 with (first | ((with_reducible refine gate_dst (N := 1) rfl ?_); (try (refine gate_guard (by rfl) ?_; dsimp only)); refine box_event ?hg (N := 1) ?hd (cs := #[.int .i64 a0_0, .string a0_1, .int .i64 a0_2, .int .i64 a0_3]) (t := 31) ?hr ?_; (case hd => rfl); (case hg => rfl); (case hr => first | (go_simp; done) | (go_simp; rfl)); intro gb195 hg w3 hbox hb; have n0_ := Aside0.mk (below_step bw hb); have n1_ := Aside0.mk (hbox); have n2_ := Aside0.mk ((by rw [hg]; exact (below_size bw) : w.heap.size ≤ gb195)); have n3_ := Aside0.mk ((by rw [hg]; exact (below_size bw) : w.heap.size ≤ gb195)); clear HB; have HB := n0_; have BK195 := n1_; have GW195 := n2_; have GE195 := n3_; clear n0_ n1_ n2_ n3_; clear hb hbox hg; obtain ⟨hcz4_0, hcz4_1, hcz4_2, hcz4_3, hfz4_0, hfz4_1, hfz4_2, hfz4_3⟩ := cells4 BK195))
  repeat (go_quiet (first | ((with_reducible refine gate_dst (N := 1) rfl ?_); (try (refine gate_guard (by rfl) ?_; dsimp only)); refine box_event ?hg (N := 1) ?hd (cs := #[.int .i64 a0_0, .string a0_1, .int .i64 a0_2, .int .i64 a0_3]) (t := 31) ?hr ?_; (case hd => rfl); (case hg => rfl); (case hr => first | (go_simp; done) | (go_simp; rfl)); intro gb195 hg w3 hbox hb; have n0_ := Aside0.mk (below_step bw hb); have n1_ := Aside0.mk (hbox); have n2_ := Aside0.mk ((by rw [hg]; exact (below_size bw) : w.heap.size ≤ gb195)); have n3_ := Aside0.mk ((by rw [hg]; exact (below_size bw) : w.heap.size ≤ gb195)); clear HB; have HB := n0_; have BK195 := n1_; have GW195 := n2_; have GE195 := n3_; clear n0_ n1_ n2_ n3_; clear hb hbox hg; obtain ⟨hcz4_0, hcz4_1, hcz4_2, hcz4_3, hfz4_0, hfz4_1, hfz4_2, hfz4_3⟩ := cells4 BK195)); go_upto_block 0 with (first | ((with_reducible refine gate_dst (N := 1) rfl ?_); (try (refine gate_guard (by rfl) ?_; dsimp only)); refine box_event ?hg (N := 1) ?hd (cs := #[.int .i64 a0_0, .string a0_1, .int .i64 a0_2, .int .i64 a0_3]) (t := 31) ?hr ?_; (case hd => rfl); (case hg => rfl); (case hr => first | (go_simp; done) | (go_simp; rfl)); intro gb195 hg w3 hbox hb; have n0_ := Aside0.mk (below_step bw hb); have n1_ := Aside0.mk (hbox); have n2_ := Aside0.mk ((by rw [hg]; exact (below_size bw) : w.heap.size ≤ gb195)); have n3_ := Aside0.mk ((by rw [hg]; exact (below_size bw) : w.heap.size ≤ gb195)); clear HB; have HB := n0_; have BK195 := n1_; have GW195 := n2_; have GE195 := n3_; clear n0_ n1_ n2_ n3_; clear hb hbox hg; obtain ⟨hcz4_0, hcz4_1, hcz4_2, hcz4_3, hfz4_0, hfz4_1, hfz4_2, hfz4_3⟩ := cells4 BK195)))
  (try simp only [Act.put, List.setIfInBounds_toArray, List.set_cons_zero, List.set_cons_succ])
  go_cut [3] (fun v3 wc => ∃ (kq : Nat) (x3_1 : ByteArray), v3 = .string x3_1 ∧ Aside0 (token_Token_Code.j0 kq x3_1 a0_0 a0_1 a0_2 a0_3 = some r) ∧ Aside0 (kq ≤ k) ∧ Aside0 (wc.heap[gb195]? = some (.cells #[.int .i64 a0_0, .string a0_1, .int .i64 a0_2, .int .i64 a0_3] 31 (0, 0))) ∧ Aside0 (Below w.heap.size w wc))
  case first =>
    have H := HC2.out
    clear HC2
    by_cases c5 : a0_0 = 1
    · rw [if_pos c5] at H
      have c5b0 : (a0_0 == 1) = true := beq_iff_eq.mpr c5
      have c5b1 : (a0_0 != 1) = false := bne_eq_false_iff_eq.mpr c5
      clear c5
      (first | rw [c5b0] | (simp only [i64_w, i32_w]; rw [c5b0]) | skip)
      by_cases c6 : 1 + a0_1.size ≤ 9223372036854775807
      · rw [if_pos c6] at H
        have c6b0 := eq_true c6
        have c6b1 : decide (1 + a0_1.size ≤ 9223372036854775807) = true := decide_eq_true c6
        try have c6b2 : (9223372036854775807 < 1 + a0_1.size) = False := eq_false (Nat.not_lt.2 c6)
        by_cases c7 : 1 + a0_1.size + 1 ≤ 9223372036854775807
        · rw [if_pos c7] at H
          have c7b0 := eq_true c7
          have c7b1 : decide (1 + a0_1.size + 1 ≤ 9223372036854775807) = true := decide_eq_true c7
          try have c7b2 : (9223372036854775807 < 1 + a0_1.size + 1) = False := eq_false (Nat.not_lt.2 c7)
          have H' := Aside0.mk H
          clear H
          have hcz8_0 : w3.cell? ⟨gb195, 0, none⟩ = some (.int .i64 a0_0) := (blk_cell BK195.out 0).trans rfl
          have hcz8_1 : w3.cell? ⟨gb195, 1, none⟩ = some (.string a0_1) := (blk_cell BK195.out 1).trans rfl
          have hcz8_2 : w3.cell? ⟨gb195, 2, none⟩ = some (.int .i64 a0_2) := (blk_cell BK195.out 2).trans rfl
          have hcz8_3 : w3.cell? ⟨gb195, 3, none⟩ = some (.int .i64 a0_3) := (blk_cell BK195.out 3).trans rfl
          have hfz8_0 := blk_frozen BK195.out 0
          have hfz8_1 := blk_frozen BK195.out 1
          have hfz8_2 := blk_frozen BK195.out 2
          have hfz8_3 := blk_frozen BK195.out 3
          go_wp2
          repeat (go_quiet (fail); try go_wp2)
          go_meet
          case rel => exact ⟨_, (((⟨#[34]⟩ : ByteArray) ++ a0_1) ++ (⟨#[34]⟩ : ByteArray)), (by first | rfl | (simp; done) | (simp [*]; done)), H', ⟨by first | omega | exact Nat.le_refl _⟩, ⟨by (with_reducible repeat (first | refine blk_drewN ?_ _ | refine blk_drew ?_ | refine blk_alloc ?_ _)); exact BK195.out⟩, ⟨bw⟩⟩
        · rw [if_neg c7] at H
          exact absurd H (by simp)
      · rw [if_neg c6] at H
        exact absurd H (by simp)
    · rw [if_neg c5] at H
      have c5b0 : (a0_0 == 1) = false := beq_eq_false_iff_ne.mpr c5
      have c5b1 : (a0_0 != 1) = true := bne_iff_ne.mpr c5
      (first | rw [c5b0] | (simp only [i64_w, i32_w]; rw [c5b0]) | skip)
      by_cases c9 : a0_0 = 2
      · rw [if_pos c9] at H
        have c9b0 : (a0_0 == 2) = true := beq_iff_eq.mpr c9
        have c9b1 : (a0_0 != 2) = false := bne_eq_false_iff_eq.mpr c9
        clear c9
        by_cases c10 : 1 + a0_1.size ≤ 9223372036854775807
        · rw [if_pos c10] at H
          have c10b0 := eq_true c10
          have c10b1 : decide (1 + a0_1.size ≤ 9223372036854775807) = true := decide_eq_true c10
          try have c10b2 : (9223372036854775807 < 1 + a0_1.size) = False := eq_false (Nat.not_lt.2 c10)
          have H' := Aside0.mk H
          clear H
          have hcz11_0 : w3.cell? ⟨gb195, 0, none⟩ = some (.int .i64 a0_0) := (blk_cell BK195.out 0).trans rfl
          have hcz11_1 : w3.cell? ⟨gb195, 1, none⟩ = some (.string a0_1) := (blk_cell BK195.out 1).trans rfl
          have hcz11_2 : w3.cell? ⟨gb195, 2, none⟩ = some (.int .i64 a0_2) := (blk_cell BK195.out 2).trans rfl
          have hcz11_3 : w3.cell? ⟨gb195, 3, none⟩ = some (.int .i64 a0_3) := (blk_cell BK195.out 3).trans rfl
          have hfz11_0 := blk_frozen BK195.out 0
          have hfz11_1 := blk_frozen BK195.out 1
          have hfz11_2 := blk_frozen BK195.out 2
          have hfz11_3 := blk_frozen BK195.out 3
          go_wp2
          repeat (go_quiet (fail); try go_wp2)
          go_meet
          case rel => exact ⟨_, ((⟨#[92]⟩ : ByteArray) ++ a0_1), (by first | rfl | (simp; done) | (simp [*]; done)), H', ⟨by first | omega | exact Nat.le_refl _⟩, ⟨by (with_reducible repeat (first | refine blk_drewN ?_ _ | refine blk_drew ?_ | refine blk_alloc ?_ _)); exact BK195.out⟩, ⟨bw⟩⟩
        · rw [if_neg c10] at H
          exact absurd H (by simp)
      · rw [if_neg c9] at H
        have c9b0 : (a0_0 == 2) = false := beq_eq_false_iff_ne.mpr c9
        have c9b1 : (a0_0 != 2) = true := bne_iff_ne.mpr c9
        by_cases c12 : a0_0 = 3
        · rw [if_pos c12] at H
          have c12b0 : (a0_0 == 3) = true := beq_iff_eq.mpr c12
          have c12b1 : (a0_0 != 3) = false := bne_eq_false_iff_eq.mpr c12
          clear c12
          by_cases c13 : 1 + a0_1.size ≤ 9223372036854775807
          · rw [if_pos c13] at H
            have c13b0 := eq_true c13
            have c13b1 : decide (1 + a0_1.size ≤ 9223372036854775807) = true := decide_eq_true c13
            try have c13b2 : (9223372036854775807 < 1 + a0_1.size) = False := eq_false (Nat.not_lt.2 c13)
            have H' := Aside0.mk H
            clear H
            have hcz14_0 : w3.cell? ⟨gb195, 0, none⟩ = some (.int .i64 a0_0) := (blk_cell BK195.out 0).trans rfl
            have hcz14_1 : w3.cell? ⟨gb195, 1, none⟩ = some (.string a0_1) := (blk_cell BK195.out 1).trans rfl
            have hcz14_2 : w3.cell? ⟨gb195, 2, none⟩ = some (.int .i64 a0_2) := (blk_cell BK195.out 2).trans rfl
            have hcz14_3 : w3.cell? ⟨gb195, 3, none⟩ = some (.int .i64 a0_3) := (blk_cell BK195.out 3).trans rfl
            have hfz14_0 := blk_frozen BK195.out 0
            have hfz14_1 := blk_frozen BK195.out 1
            have hfz14_2 := blk_frozen BK195.out 2
            have hfz14_3 := blk_frozen BK195.out 3
            go_wp2
            repeat (go_quiet (fail); try go_wp2)
            go_meet
            case rel => exact ⟨_, ((⟨#[95]⟩ : ByteArray) ++ a0_1), (by first | rfl | (simp; done) | (simp [*]; done)), H', ⟨by first | omega | exact Nat.le_refl _⟩, ⟨by (with_reducible repeat (first | refine blk_drewN ?_ _ | refine blk_drew ?_ | refine blk_alloc ?_ _)); exact BK195.out⟩, ⟨bw⟩⟩
          · rw [if_neg c13] at H
            exact absurd H (by simp)
        · rw [if_neg c12] at H
          have c12b0 : (a0_0 == 3) = false := beq_eq_false_iff_ne.mpr c12
          have c12b1 : (a0_0 != 3) = true := bne_iff_ne.mpr c12
          by_cases c15 : a0_0 = 4
          · rw [if_pos c15] at H
            have c15b0 : (a0_0 == 4) = true := beq_iff_eq.mpr c15
            have c15b1 : (a0_0 != 4) = false := bne_eq_false_iff_eq.mpr c15
            clear c15
            by_cases c16 : 1 + a0_1.size ≤ 9223372036854775807
            · rw [if_pos c16] at H
              have c16b0 := eq_true c16
              have c16b1 : decide (1 + a0_1.size ≤ 9223372036854775807) = true := decide_eq_true c16
              try have c16b2 : (9223372036854775807 < 1 + a0_1.size) = False := eq_false (Nat.not_lt.2 c16)
              have H' := Aside0.mk H
              clear H
              have hcz17_0 : w3.cell? ⟨gb195, 0, none⟩ = some (.int .i64 a0_0) := (blk_cell BK195.out 0).trans rfl
              have hcz17_1 : w3.cell? ⟨gb195, 1, none⟩ = some (.string a0_1) := (blk_cell BK195.out 1).trans rfl
              have hcz17_2 : w3.cell? ⟨gb195, 2, none⟩ = some (.int .i64 a0_2) := (blk_cell BK195.out 2).trans rfl
              have hcz17_3 : w3.cell? ⟨gb195, 3, none⟩ = some (.int .i64 a0_3) := (blk_cell BK195.out 3).trans rfl
              have hfz17_0 := blk_frozen BK195.out 0
              have hfz17_1 := blk_frozen BK195.out 1
              have hfz17_2 := blk_frozen BK195.out 2
              have hfz17_3 := blk_frozen BK195.out 3
              go_wp2
              repeat (go_quiet (fail); try go_wp2)
              go_meet
              case rel => exact ⟨_, ((⟨#[42]⟩ : ByteArray) ++ a0_1), (by first | rfl | (simp; done) | (simp [*]; done)), H', ⟨by first | omega | exact Nat.le_refl _⟩, ⟨by (with_reducible repeat (first | refine blk_drewN ?_ _ | refine blk_drew ?_ | refine blk_alloc ?_ _)); exact BK195.out⟩, ⟨bw⟩⟩
            · rw [if_neg c16] at H
              exact absurd H (by simp)
          · rw [if_neg c15] at H
            have c15b0 : (a0_0 == 4) = false := beq_eq_false_iff_ne.mpr c15
            have c15b1 : (a0_0 != 4) = true := bne_iff_ne.mpr c15
            by_cases c18 : a0_0 = 5
            · rw [if_pos c18] at H
              have c18b0 : (a0_0 == 5) = true := beq_iff_eq.mpr c18
              have c18b1 : (a0_0 != 5) = false := bne_eq_false_iff_eq.mpr c18
              clear c18
              by_cases c19 : 1 + a0_1.size ≤ 9223372036854775807
              · rw [if_pos c19] at H
                have c19b0 := eq_true c19
                have c19b1 : decide (1 + a0_1.size ≤ 9223372036854775807) = true := decide_eq_true c19
                try have c19b2 : (9223372036854775807 < 1 + a0_1.size) = False := eq_false (Nat.not_lt.2 c19)
                by_cases c20 : 1 + a0_1.size + 1 ≤ 9223372036854775807
                · rw [if_pos c20] at H
                  have c20b0 := eq_true c20
                  have c20b1 : decide (1 + a0_1.size + 1 ≤ 9223372036854775807) = true := decide_eq_true c20
                  try have c20b2 : (9223372036854775807 < 1 + a0_1.size + 1) = False := eq_false (Nat.not_lt.2 c20)
                  have H' := Aside0.mk H
                  clear H
                  have hcz21_0 : w3.cell? ⟨gb195, 0, none⟩ = some (.int .i64 a0_0) := (blk_cell BK195.out 0).trans rfl
                  have hcz21_1 : w3.cell? ⟨gb195, 1, none⟩ = some (.string a0_1) := (blk_cell BK195.out 1).trans rfl
                  have hcz21_2 : w3.cell? ⟨gb195, 2, none⟩ = some (.int .i64 a0_2) := (blk_cell BK195.out 2).trans rfl
                  have hcz21_3 : w3.cell? ⟨gb195, 3, none⟩ = some (.int .i64 a0_3) := (blk_cell BK195.out 3).trans rfl
                  have hfz21_0 := blk_frozen BK195.out 0
                  have hfz21_1 := blk_frozen BK195.out 1
                  have hfz21_2 := blk_frozen BK195.out 2
                  have hfz21_3 := blk_frozen BK195.out 3
                  go_wp2
                  repeat (go_quiet (fail); try go_wp2)
                  go_meet
                  case rel => exact ⟨_, (((⟨#[91]⟩ : ByteArray) ++ a0_1) ++ (⟨#[93]⟩ : ByteArray)), (by first | rfl | (simp; done) | (simp [*]; done)), H', ⟨by first | omega | exact Nat.le_refl _⟩, ⟨by (with_reducible repeat (first | refine blk_drewN ?_ _ | refine blk_drew ?_ | refine blk_alloc ?_ _)); exact BK195.out⟩, ⟨bw⟩⟩
                · rw [if_neg c20] at H
                  exact absurd H (by simp)
              · rw [if_neg c19] at H
                exact absurd H (by simp)
            · rw [if_neg c18] at H
              have c18b0 : (a0_0 == 5) = false := beq_eq_false_iff_ne.mpr c18
              have c18b1 : (a0_0 != 5) = true := bne_iff_ne.mpr c18
              by_cases c22 : a0_0 = 13
              · rw [if_pos c22] at H
                have c22b0 : (a0_0 == 13) = true := beq_iff_eq.mpr c22
                have c22b1 : (a0_0 != 13) = false := bne_eq_false_iff_eq.mpr c22
                clear c22
                by_cases c23 : 1 + a0_1.size ≤ 9223372036854775807
                · rw [if_pos c23] at H
                  have c23b0 := eq_true c23
                  have c23b1 : decide (1 + a0_1.size ≤ 9223372036854775807) = true := decide_eq_true c23
                  try have c23b2 : (9223372036854775807 < 1 + a0_1.size) = False := eq_false (Nat.not_lt.2 c23)
                  have H' := Aside0.mk H
                  clear H
                  have hcz24_0 : w3.cell? ⟨gb195, 0, none⟩ = some (.int .i64 a0_0) := (blk_cell BK195.out 0).trans rfl
                  have hcz24_1 : w3.cell? ⟨gb195, 1, none⟩ = some (.string a0_1) := (blk_cell BK195.out 1).trans rfl
                  have hcz24_2 : w3.cell? ⟨gb195, 2, none⟩ = some (.int .i64 a0_2) := (blk_cell BK195.out 2).trans rfl
                  have hcz24_3 : w3.cell? ⟨gb195, 3, none⟩ = some (.int .i64 a0_3) := (blk_cell BK195.out 3).trans rfl
                  have hfz24_0 := blk_frozen BK195.out 0
                  have hfz24_1 := blk_frozen BK195.out 1
                  have hfz24_2 := blk_frozen BK195.out 2
                  have hfz24_3 := blk_frozen BK195.out 3
                  go_wp2
                  repeat (go_quiet (fail); try go_wp2)
                  go_meet
                  case rel => exact ⟨_, ((⟨#[69]⟩ : ByteArray) ++ a0_1), (by first | rfl | (simp; done) | (simp [*]; done)), H', ⟨by first | omega | exact Nat.le_refl _⟩, ⟨by (with_reducible repeat (first | refine blk_drewN ?_ _ | refine blk_drew ?_ | refine blk_alloc ?_ _)); exact BK195.out⟩, ⟨bw⟩⟩
                · rw [if_neg c23] at H
                  exact absurd H (by simp)
              · rw [if_neg c22] at H
                have c22b0 : (a0_0 == 13) = false := beq_eq_false_iff_ne.mpr c22
                have c22b1 : (a0_0 != 13) = true := bne_iff_ne.mpr c22
                by_cases c25 : a0_0 = 14
                · rw [if_pos c25] at H
                  have c25b0 : (a0_0 == 14) = true := beq_iff_eq.mpr c25
                  have c25b1 : (a0_0 != 14) = false := bne_eq_false_iff_eq.mpr c25
                  clear c25
                  obtain ⟨ji26, hji26⟩ : ∃ j_ : Int, (mn a0_2 4096) = j_ := ⟨_, rfl⟩
                  replace H : ((strings_Repeat.f a0_1 (mx 0 (ji26))).bind fun t196 => (token_Token_Code.j0 k t196 a0_0 a0_1 a0_2 a0_3)) = some r := by first | (rw [hji26] at H; exact H) | (simp only [hji26] at H ⊢; exact H)
                  (try (have hji26h : ji26 ≤ 4096 := by (rw [← hji26]; unfold mn; (repeat' split) <;> omega)))
                  (try (have hji26g : ji26 ≤ 64 := by omega))
                  have hji26_ : (if 4096 < a0_2 then 4096 else a0_2) = ji26 := hji26
                  obtain ⟨ji27, hji27⟩ : ∃ j_ : Int, (mx 0 (ji26)) = j_ := ⟨_, rfl⟩
                  replace H : ((strings_Repeat.f a0_1 (ji27)).bind fun t196 => (token_Token_Code.j0 k t196 a0_0 a0_1 a0_2 a0_3)) = some r := by first | (rw [hji27] at H; exact H) | (simp only [hji27] at H ⊢; exact H)
                  have hji27_ : (if 0 < (ji26) then (ji26) else 0) = ji27 := hji27
                  replace H := Option.bind_eq_some_iff.mp H
                  obtain ⟨t196, A280, H⟩ := H
                  replace H : (token_Token_Code.j0 k t196 a0_0 a0_1 a0_2 a0_3) = some r := H
                  have A28 := Aside0.mk A280
                  clear A280
                  have H' := Aside0.mk H
                  clear H
                  have hcz29_0 : w3.cell? ⟨gb195, 0, none⟩ = some (.int .i64 a0_0) := (blk_cell BK195.out 0).trans rfl
                  have hcz29_1 : w3.cell? ⟨gb195, 1, none⟩ = some (.string a0_1) := (blk_cell BK195.out 1).trans rfl
                  have hcz29_2 : w3.cell? ⟨gb195, 2, none⟩ = some (.int .i64 a0_2) := (blk_cell BK195.out 2).trans rfl
                  have hcz29_3 : w3.cell? ⟨gb195, 3, none⟩ = some (.int .i64 a0_3) := (blk_cell BK195.out 3).trans rfl
                  have hfz29_0 := blk_frozen BK195.out 0
                  have hfz29_1 := blk_frozen BK195.out 1
                  have hfz29_2 := blk_frozen BK195.out 2
                  have hfz29_3 := blk_frozen BK195.out 3
                  go_wp2_with (first | (go_at_call 26; (with_reducible refine (strings_Repeat.calls a0_1 ji27 t196 _ A28.out).mono ?_); rintro e w30 ⟨rfl, hb⟩; have n0_ := Aside0.mk (blk_below (bk BK195) hb); have n1_ := Aside0.mk (below_step bw hb); clear BK195; clear HB; have BK195 := n0_; have HB := n1_; clear n0_ n1_; (try clear hb); (try clear hb2); (try clear hk); (try clear hi)))
                  repeat (go_quiet (first | (go_at_call 26; (with_reducible refine (strings_Repeat.calls a0_1 ji27 t196 _ A28.out).mono ?_); rintro e w30 ⟨rfl, hb⟩; have n0_ := Aside0.mk (blk_below (bk BK195) hb); have n1_ := Aside0.mk (below_step bw hb); clear BK195; clear HB; have BK195 := n0_; have HB := n1_; clear n0_ n1_; (try clear hb); (try clear hb2); (try clear hk); (try clear hi))); try go_wp2_with (first | (go_at_call 26; (with_reducible refine (strings_Repeat.calls a0_1 ji27 t196 _ A28.out).mono ?_); rintro e w30 ⟨rfl, hb⟩; have n0_ := Aside0.mk (blk_below (bk BK195) hb); have n1_ := Aside0.mk (below_step bw hb); clear BK195; clear HB; have BK195 := n0_; have HB := n1_; clear n0_ n1_; (try clear hb); (try clear hb2); (try clear hk); (try clear hi))))
                  go_meet
                  case rel => exact ⟨_, (t196), (by first | rfl | (simp; done) | (simp [*]; done)), H', ⟨by first | omega | exact Nat.le_refl _⟩, ⟨by (with_reducible repeat (first | refine blk_drewN ?_ _ | refine blk_drew ?_ | refine blk_alloc ?_ _)); exact BK195.out⟩, ⟨bw⟩⟩
                · rw [if_neg c25] at H
                  have c25b0 : (a0_0 == 14) = false := beq_eq_false_iff_ne.mpr c25
                  have c25b1 : (a0_0 != 14) = true := bne_iff_ne.mpr c25
                  have H' := Aside0.mk H
                  clear H
                  go_wp2
                  repeat (go_quiet (fail); try go_wp2)
                  go_meet
                  case rel => exact ⟨_, (a0_1), (by first | rfl | (simp; done) | (simp [*]; done)), H', ⟨by first | omega | exact Nat.le_refl _⟩, ⟨by (with_reducible repeat (first | refine blk_drewN ?_ _ | refine blk_drew ?_ | refine blk_alloc ?_ _)); exact BK195.out⟩, ⟨bw⟩⟩
  case rest =>
    clear HC2
    try clear c1
    try clear c2
    try clear p2
    try clear c5
    try clear c5b0
    try clear c5b1
    try clear c6
    try clear c6b0
    try clear c6b1
    try clear c6b2
    try clear c7
    try clear c7b0
    try clear c7b1
    try clear c7b2
    try clear c9
    try clear c9b0
    try clear c9b1
    try clear c10
    try clear c10b0
    try clear c10b1
    try clear c10b2
    try clear c12
    try clear c12b0
    try clear c12b1
    try clear c13
    try clear c13b0
    try clear c13b1
    try clear c13b2
    try clear c15
    try clear c15b0
    try clear c15b1
    try clear c16
    try clear c16b0
    try clear c16b1
    try clear c16b2
    try clear c18
    try clear c18b0
    try clear c18b1
    try clear c19
    try clear c19b0
    try clear c19b1
    try clear c19b2
    try clear c20
    try clear c20b0
    try clear c20b1
    try clear c20b2
    try clear c22
    try clear c22b0
    try clear c22b1
    try clear c23
    try clear c23b0
    try clear c23b1
    try clear c23b2
    try clear c25
    try clear c25b0
    try clear c25b1
    try clear c27
    try clear hcz11_0
    try clear hcz11_1
    try clear hcz11_2
    try clear hcz11_3
    try clear hcz14_0
    try clear hcz14_1
    try clear hcz14_2
    try clear hcz14_3
    try clear hcz17_0
    try clear hcz17_1
    try clear hcz17_2
    try clear hcz17_3
    try clear hcz21_0
    try clear hcz21_1
    try clear hcz21_2
    try clear hcz21_3
    try clear hcz24_0
    try clear hcz24_1
    try clear hcz24_2
    try clear hcz24_3
    try clear hcz29_0
    try clear hcz29_1
    try clear hcz29_2
    try clear hcz29_3
    try clear hcz4_0
    try clear hcz4_1
    try clear hcz4_2
    try clear hcz4_3
    try clear hcz8_0
    try clear hcz8_1
    try clear hcz8_2
    try clear hcz8_3
    try clear hfz11_0
    try clear hfz11_1
    try clear hfz11_2
    try clear hfz11_3
    try clear hfz14_0
    try clear hfz14_1
    try clear hfz14_2
    try clear hfz14_3
    try clear hfz17_0
    try clear hfz17_1
    try clear hfz17_2
    try clear hfz17_3
    try clear hfz21_0
    try clear hfz21_1
    try clear hfz21_2
    try clear hfz21_3
    try clear hfz24_0
    try clear hfz24_1
    try clear hfz24_2
    try clear hfz24_3
    try clear hfz29_0
    try clear hfz29_1
    try clear hfz29_2
    try clear hfz29_3
    try clear hfz4_0
    try clear hfz4_1
    try clear hfz4_2
    try clear hfz4_3
    try clear hfz8_0
    try clear hfz8_1
    try clear hfz8_2
    try clear hfz8_3
    obtain ⟨kq, x3_1, rfl, HA, HJ1, BK195, HB⟩ := hcut
    cases kq with
    | zero => exact absurd HA.out (by simp [token_Token_Code.j0])
    | succ kj1 =>
      have H := HA.out
      clear HA
      simp only [token_Token_Code.j0] at H
      replace H := Option.bind_eq_some_iff.mp H
      obtain ⟨⟨t197, t198, t199⟩, A310, H⟩ := H
      replace H : (if t199 = 0 then (if (t197.length : Int) = 1 then (if 0 < (t197.length : Int) then (if (!(((rd_T31 t197 0).f0) == a0_0) || (!((((rd_T31 t197 0).f1).toList) == a0_1.toList) || (!(((rd_T31 t197 0).f2) == a0_2) || (!(((rd_T31 t197 0).f3) == 0))))) = true then (some (⟨#[]⟩ : ByteArray)) else (some x3_1)) else (none)) else (some (⟨#[]⟩ : ByteArray))) else (some (⟨#[]⟩ : ByteArray))) = some r := H
      have A31 := Aside0.mk A310
      clear A310
      by_cases c32 : t199 = 0
      · rw [if_pos c32] at H
        have c32b0 : (t199 == 0) = true := beq_iff_eq.mpr c32
        have c32b1 : (t199 != 0) = false := bne_eq_false_iff_eq.mpr c32
        clear c32
        by_cases c33 : (t197.length : Int) = 1
        · rw [if_pos c33] at H
          have c33b0 : ((t197.length : Int) == 1) = true := beq_iff_eq.mpr c33
          have c33b1 : ((t197.length : Int) != 1) = false := bne_eq_false_iff_eq.mpr c33
          clear c33
          by_cases c34 : 0 < (t197.length : Int)
          · rw [if_pos c34] at H
            have c34b0 : decide (0 < (t197.length : Int)) = true := decide_eq_true c34
            have c34b1 : decide (0 < t197.length) = true := decide_eq_true (by omega)
            clear c34
            by_cases c35 : (!(((rd_T31 t197 0).f0) == a0_0) || (!((((rd_T31 t197 0).f1).toList) == a0_1.toList) || (!(((rd_T31 t197 0).f2) == a0_2) || (!(((rd_T31 t197 0).f3) == 0))))) = true
            · rw [if_pos c35] at H
              have c35b0 : (!(((rd_T31 t197 0).f0) == a0_0) || (!((((rd_T31 t197 0).f1).toList) == a0_1.toList) || (!(((rd_T31 t197 0).f2) == a0_2) || (!(((rd_T31 t197 0).f3) == 0))))) = true := c35
              clear c35
              obtain rfl := Option.some.inj H
              go_wp2_with (first | (go_at_call 13; (with_reducible refine (token_All.calls kj1 x3_1 t197 t198 t199 _ A31.out ?side1).mono ?_); (case side1 => exact Laid.below HLd.out bw); rintro e w36 ⟨v200, rfl, ho0, hb⟩; have n0_ := Aside0.mk (Kd.R_lower (Kd.R_newB ho0 (g := gb195) (o := .cells #[.int .i64 a0_0, .string a0_1, .int .i64 a0_2, .int .i64 a0_3] 31 (0, 0)) (bk BK195)) (below_size bw)); have n1_ := Aside0.mk (blk_below (bk BK195) hb); have n2_ := Aside0.mk (below_step bw hb); clear BK195; clear HB; have HO201 := n0_; have BK195 := n1_; have HB := n2_; clear n0_ n1_ n2_; (try clear hb); (try clear hb2); (try clear hk); (try clear hi); (try clear ho0); obtain ⟨hcz37_0, hcz37_1, hcz37_2, hcz37_3, hfz37_0, hfz37_1, hfz37_2, hfz37_3⟩ := cells4 BK195; obtain ⟨Ao38, co38, eo38⟩ := Kd.R_slice HO201.out; subst eo38; have p202 : 0 ≤ (0 : Int) := (by omega); have q202 : 0 < (t197.length : Int) := ode; obtain ⟨ad202, e202, hx202_0, hx202_1, hx202_2, hx202_3⟩ := at_T31 (Kd.R_reads' HO201.out).2.2 0 p202 q202; cases e202; have qi202 : (0 < t197.length) = True := eq_true (by omega); (try rw [show ((0 : Int)).toNat = 0 from rfl] at hx202_0); (try rw [show 0 * 4 = 0 from rfl] at hx202_0); (try rw [Addr.add_zero'] at hx202_0); (try rw [show ((0 : Int)).toNat = 0 from rfl] at hx202_1); (try rw [show 0 * 4 = 0 from rfl] at hx202_1); (try rw [Addr.add_zero'] at hx202_1); (try rw [show ((0 : Int)).toNat = 0 from rfl] at hx202_2); (try rw [show 0 * 4 = 0 from rfl] at hx202_2); (try rw [Addr.add_zero'] at hx202_2); (try rw [show ((0 : Int)).toNat = 0 from rfl] at hx202_3); (try rw [show 0 * 4 = 0 from rfl] at hx202_3); (try rw [Addr.add_zero'] at hx202_3); have hn202_0 : ad202.block ≠ gb195 := Kd.own_blk (Kd.R_away HO201.out (fun _ hk => hk.2)); replace hx202_0 := (cell_far (p := ⟨gb195, 3, none⟩) (by first | (rw [add_block]; exact hn202_0) | (show (Addr.add _ _).block ≠ _; rw [add_block]; exact hn202_0) | exact hn202_0) (.int .i64 0)).trans hx202_0; replace hx202_1 := (cell_far (p := ⟨gb195, 3, none⟩) (by first | (rw [add_block]; exact hn202_0) | (show (Addr.add _ _).block ≠ _; rw [add_block]; exact hn202_0) | exact hn202_0) (.int .i64 0)).trans hx202_1; replace hx202_2 := (cell_far (p := ⟨gb195, 3, none⟩) (by first | (rw [add_block]; exact hn202_0) | (show (Addr.add _ _).block ≠ _; rw [add_block]; exact hn202_0) | exact hn202_0) (.int .i64 0)).trans hx202_2; replace hx202_3 := (cell_far (p := ⟨gb195, 3, none⟩) (by first | (rw [add_block]; exact hn202_0) | (show (Addr.add _ _).block ≠ _; rw [add_block]; exact hn202_0) | exact hn202_0) (.int .i64 0)).trans hx202_3; (try have hy202_0 := fun (n_ : Nat) => (show (((w36.drewN n_).setCell ⟨gb195, 3, none⟩ (.int .i64 0))).cell? _ = some _ from hx202_0)); (try have hy202_1 := fun (n_ : Nat) => (show (((w36.drewN n_).setCell ⟨gb195, 3, none⟩ (.int .i64 0))).cell? _ = some _ from hx202_1)); (try have hy202_2 := fun (n_ : Nat) => (show (((w36.drewN n_).setCell ⟨gb195, 3, none⟩ (.int .i64 0))).cell? _ = some _ from hx202_2)); (try have hy202_3 := fun (n_ : Nat) => (show (((w36.drewN n_).setCell ⟨gb195, 3, none⟩ (.int .i64 0))).cell? _ = some _ from hx202_3)); clear hn202_0; replace p202 := eq_true p202; replace q202 := eq_true q202))
              repeat (go_quiet (first | (go_at_call 13; (with_reducible refine (token_All.calls kj1 x3_1 t197 t198 t199 _ A31.out ?side1).mono ?_); (case side1 => exact Laid.below HLd.out bw); rintro e w36 ⟨v200, rfl, ho0, hb⟩; have n0_ := Aside0.mk (Kd.R_lower (Kd.R_newB ho0 (g := gb195) (o := .cells #[.int .i64 a0_0, .string a0_1, .int .i64 a0_2, .int .i64 a0_3] 31 (0, 0)) (bk BK195)) (below_size bw)); have n1_ := Aside0.mk (blk_below (bk BK195) hb); have n2_ := Aside0.mk (below_step bw hb); clear BK195; clear HB; have HO201 := n0_; have BK195 := n1_; have HB := n2_; clear n0_ n1_ n2_; (try clear hb); (try clear hb2); (try clear hk); (try clear hi); (try clear ho0); obtain ⟨hcz37_0, hcz37_1, hcz37_2, hcz37_3, hfz37_0, hfz37_1, hfz37_2, hfz37_3⟩ := cells4 BK195; obtain ⟨Ao38, co38, eo38⟩ := Kd.R_slice HO201.out; subst eo38; have p202 : 0 ≤ (0 : Int) := (by omega); have q202 : 0 < (t197.length : Int) := ode; obtain ⟨ad202, e202, hx202_0, hx202_1, hx202_2, hx202_3⟩ := at_T31 (Kd.R_reads' HO201.out).2.2 0 p202 q202; cases e202; have qi202 : (0 < t197.length) = True := eq_true (by omega); (try rw [show ((0 : Int)).toNat = 0 from rfl] at hx202_0); (try rw [show 0 * 4 = 0 from rfl] at hx202_0); (try rw [Addr.add_zero'] at hx202_0); (try rw [show ((0 : Int)).toNat = 0 from rfl] at hx202_1); (try rw [show 0 * 4 = 0 from rfl] at hx202_1); (try rw [Addr.add_zero'] at hx202_1); (try rw [show ((0 : Int)).toNat = 0 from rfl] at hx202_2); (try rw [show 0 * 4 = 0 from rfl] at hx202_2); (try rw [Addr.add_zero'] at hx202_2); (try rw [show ((0 : Int)).toNat = 0 from rfl] at hx202_3); (try rw [show 0 * 4 = 0 from rfl] at hx202_3); (try rw [Addr.add_zero'] at hx202_3); have hn202_0 : ad202.block ≠ gb195 := Kd.own_blk (Kd.R_away HO201.out (fun _ hk => hk.2)); replace hx202_0 := (cell_far (p := ⟨gb195, 3, none⟩) (by first | (rw [add_block]; exact hn202_0) | (show (Addr.add _ _).block ≠ _; rw [add_block]; exact hn202_0) | exact hn202_0) (.int .i64 0)).trans hx202_0; replace hx202_1 := (cell_far (p := ⟨gb195, 3, none⟩) (by first | (rw [add_block]; exact hn202_0) | (show (Addr.add _ _).block ≠ _; rw [add_block]; exact hn202_0) | exact hn202_0) (.int .i64 0)).trans hx202_1; replace hx202_2 := (cell_far (p := ⟨gb195, 3, none⟩) (by first | (rw [add_block]; exact hn202_0) | (show (Addr.add _ _).block ≠ _; rw [add_block]; exact hn202_0) | exact hn202_0) (.int .i64 0)).trans hx202_2; replace hx202_3 := (cell_far (p := ⟨gb195, 3, none⟩) (by first | (rw [add_block]; exact hn202_0) | (show (Addr.add _ _).block ≠ _; rw [add_block]; exact hn202_0) | exact hn202_0) (.int .i64 0)).trans hx202_3; (try have hy202_0 := fun (n_ : Nat) => (show (((w36.drewN n_).setCell ⟨gb195, 3, none⟩ (.int .i64 0))).cell? _ = some _ from hx202_0)); (try have hy202_1 := fun (n_ : Nat) => (show (((w36.drewN n_).setCell ⟨gb195, 3, none⟩ (.int .i64 0))).cell? _ = some _ from hx202_1)); (try have hy202_2 := fun (n_ : Nat) => (show (((w36.drewN n_).setCell ⟨gb195, 3, none⟩ (.int .i64 0))).cell? _ = some _ from hx202_2)); (try have hy202_3 := fun (n_ : Nat) => (show (((w36.drewN n_).setCell ⟨gb195, 3, none⟩ (.int .i64 0))).cell? _ = some _ from hx202_3)); clear hn202_0; replace p202 := eq_true p202; replace q202 := eq_true q202)); try go_wp2_with (first | (go_at_call 13; (with_reducible refine (token_All.calls kj1 x3_1 t197 t198 t199 _ A31.out ?side1).mono ?_); (case side1 => exact Laid.below HLd.out bw); rintro e w36 ⟨v200, rfl, ho0, hb⟩; have n0_ := Aside0.mk (Kd.R_lower (Kd.R_newB ho0 (g := gb195) (o := .cells #[.int .i64 a0_0, .string a0_1, .int .i64 a0_2, .int .i64 a0_3] 31 (0, 0)) (bk BK195)) (below_size bw)); have n1_ := Aside0.mk (blk_below (bk BK195) hb); have n2_ := Aside0.mk (below_step bw hb); clear BK195; clear HB; have HO201 := n0_; have BK195 := n1_; have HB := n2_; clear n0_ n1_ n2_; (try clear hb); (try clear hb2); (try clear hk); (try clear hi); (try clear ho0); obtain ⟨hcz37_0, hcz37_1, hcz37_2, hcz37_3, hfz37_0, hfz37_1, hfz37_2, hfz37_3⟩ := cells4 BK195; obtain ⟨Ao38, co38, eo38⟩ := Kd.R_slice HO201.out; subst eo38; have p202 : 0 ≤ (0 : Int) := (by omega); have q202 : 0 < (t197.length : Int) := ode; obtain ⟨ad202, e202, hx202_0, hx202_1, hx202_2, hx202_3⟩ := at_T31 (Kd.R_reads' HO201.out).2.2 0 p202 q202; cases e202; have qi202 : (0 < t197.length) = True := eq_true (by omega); (try rw [show ((0 : Int)).toNat = 0 from rfl] at hx202_0); (try rw [show 0 * 4 = 0 from rfl] at hx202_0); (try rw [Addr.add_zero'] at hx202_0); (try rw [show ((0 : Int)).toNat = 0 from rfl] at hx202_1); (try rw [show 0 * 4 = 0 from rfl] at hx202_1); (try rw [Addr.add_zero'] at hx202_1); (try rw [show ((0 : Int)).toNat = 0 from rfl] at hx202_2); (try rw [show 0 * 4 = 0 from rfl] at hx202_2); (try rw [Addr.add_zero'] at hx202_2); (try rw [show ((0 : Int)).toNat = 0 from rfl] at hx202_3); (try rw [show 0 * 4 = 0 from rfl] at hx202_3); (try rw [Addr.add_zero'] at hx202_3); have hn202_0 : ad202.block ≠ gb195 := Kd.own_blk (Kd.R_away HO201.out (fun _ hk => hk.2)); replace hx202_0 := (cell_far (p := ⟨gb195, 3, none⟩) (by first | (rw [add_block]; exact hn202_0) | (show (Addr.add _ _).block ≠ _; rw [add_block]; exact hn202_0) | exact hn202_0) (.int .i64 0)).trans hx202_0; replace hx202_1 := (cell_far (p := ⟨gb195, 3, none⟩) (by first | (rw [add_block]; exact hn202_0) | (show (Addr.add _ _).block ≠ _; rw [add_block]; exact hn202_0) | exact hn202_0) (.int .i64 0)).trans hx202_1; replace hx202_2 := (cell_far (p := ⟨gb195, 3, none⟩) (by first | (rw [add_block]; exact hn202_0) | (show (Addr.add _ _).block ≠ _; rw [add_block]; exact hn202_0) | exact hn202_0) (.int .i64 0)).trans hx202_2; replace hx202_3 := (cell_far (p := ⟨gb195, 3, none⟩) (by first | (rw [add_block]; exact hn202_0) | (show (Addr.add _ _).block ≠ _; rw [add_block]; exact hn202_0) | exact hn202_0) (.int .i64 0)).trans hx202_3; (try have hy202_0 := fun (n_ : Nat) => (show (((w36.drewN n_).setCell ⟨gb195, 3, none⟩ (.int .i64 0))).cell? _ = some _ from hx202_0)); (try have hy202_1 := fun (n_ : Nat) => (show (((w36.drewN n_).setCell ⟨gb195, 3, none⟩ (.int .i64 0))).cell? _ = some _ from hx202_1)); (try have hy202_2 := fun (n_ : Nat) => (show (((w36.drewN n_).setCell ⟨gb195, 3, none⟩ (.int .i64 0))).cell? _ = some _ from hx202_2)); (try have hy202_3 := fun (n_ : Nat) => (show (((w36.drewN n_).setCell ⟨gb195, 3, none⟩ (.int .i64 0))).cell? _ = some _ from hx202_3)); clear hn202_0; replace p202 := eq_true p202; replace q202 := eq_true q202)))
              go_ret
              exact ⟨by first | rfl | (simp [errW_none, errW_some] <;> rfl) | (simp [*, errW_none, errW_some] <;> rfl), bw⟩
            · rw [if_neg c35] at H
              have c35b0 : (!(((rd_T31 t197 0).f0) == a0_0) || (!((((rd_T31 t197 0).f1).toList) == a0_1.toList) || (!(((rd_T31 t197 0).f2) == a0_2) || (!(((rd_T31 t197 0).f3) == 0))))) = false := by simpa using c35
              clear c35
              obtain rfl := Option.some.inj H
              go_wp2_with (first | (go_at_call 13; (with_reducible refine (token_All.calls kj1 x3_1 t197 t198 t199 _ A31.out ?side1).mono ?_); (case side1 => exact Laid.below HLd.out bw); rintro e w39 ⟨v200, rfl, ho0, hb⟩; have n0_ := Aside0.mk (Kd.R_lower (Kd.R_newB ho0 (g := gb195) (o := .cells #[.int .i64 a0_0, .string a0_1, .int .i64 a0_2, .int .i64 a0_3] 31 (0, 0)) (bk BK195)) (below_size bw)); have n1_ := Aside0.mk (blk_below (bk BK195) hb); have n2_ := Aside0.mk (below_step bw hb); clear BK195; clear HB; have HO201 := n0_; have BK195 := n1_; have HB := n2_; clear n0_ n1_ n2_; (try clear hb); (try clear hb2); (try clear hk); (try clear hi); (try clear ho0); obtain ⟨hcz40_0, hcz40_1, hcz40_2, hcz40_3, hfz40_0, hfz40_1, hfz40_2, hfz40_3⟩ := cells4 BK195; obtain ⟨Ao41, co41, eo41⟩ := Kd.R_slice HO201.out; subst eo41; have p202 : 0 ≤ (0 : Int) := (by omega); have q202 : 0 < (t197.length : Int) := ode; obtain ⟨ad202, e202, hx202_0, hx202_1, hx202_2, hx202_3⟩ := at_T31 (Kd.R_reads' HO201.out).2.2 0 p202 q202; cases e202; have qi202 : (0 < t197.length) = True := eq_true (by omega); (try rw [show ((0 : Int)).toNat = 0 from rfl] at hx202_0); (try rw [show 0 * 4 = 0 from rfl] at hx202_0); (try rw [Addr.add_zero'] at hx202_0); (try rw [show ((0 : Int)).toNat = 0 from rfl] at hx202_1); (try rw [show 0 * 4 = 0 from rfl] at hx202_1); (try rw [Addr.add_zero'] at hx202_1); (try rw [show ((0 : Int)).toNat = 0 from rfl] at hx202_2); (try rw [show 0 * 4 = 0 from rfl] at hx202_2); (try rw [Addr.add_zero'] at hx202_2); (try rw [show ((0 : Int)).toNat = 0 from rfl] at hx202_3); (try rw [show 0 * 4 = 0 from rfl] at hx202_3); (try rw [Addr.add_zero'] at hx202_3); have hn202_0 : ad202.block ≠ gb195 := Kd.own_blk (Kd.R_away HO201.out (fun _ hk => hk.2)); replace hx202_0 := (cell_far (p := ⟨gb195, 3, none⟩) (by first | (rw [add_block]; exact hn202_0) | (show (Addr.add _ _).block ≠ _; rw [add_block]; exact hn202_0) | exact hn202_0) (.int .i64 0)).trans hx202_0; replace hx202_1 := (cell_far (p := ⟨gb195, 3, none⟩) (by first | (rw [add_block]; exact hn202_0) | (show (Addr.add _ _).block ≠ _; rw [add_block]; exact hn202_0) | exact hn202_0) (.int .i64 0)).trans hx202_1; replace hx202_2 := (cell_far (p := ⟨gb195, 3, none⟩) (by first | (rw [add_block]; exact hn202_0) | (show (Addr.add _ _).block ≠ _; rw [add_block]; exact hn202_0) | exact hn202_0) (.int .i64 0)).trans hx202_2; replace hx202_3 := (cell_far (p := ⟨gb195, 3, none⟩) (by first | (rw [add_block]; exact hn202_0) | (show (Addr.add _ _).block ≠ _; rw [add_block]; exact hn202_0) | exact hn202_0) (.int .i64 0)).trans hx202_3; (try have hy202_0 := fun (n_ : Nat) => (show (((w39.drewN n_).setCell ⟨gb195, 3, none⟩ (.int .i64 0))).cell? _ = some _ from hx202_0)); (try have hy202_1 := fun (n_ : Nat) => (show (((w39.drewN n_).setCell ⟨gb195, 3, none⟩ (.int .i64 0))).cell? _ = some _ from hx202_1)); (try have hy202_2 := fun (n_ : Nat) => (show (((w39.drewN n_).setCell ⟨gb195, 3, none⟩ (.int .i64 0))).cell? _ = some _ from hx202_2)); (try have hy202_3 := fun (n_ : Nat) => (show (((w39.drewN n_).setCell ⟨gb195, 3, none⟩ (.int .i64 0))).cell? _ = some _ from hx202_3)); clear hn202_0; replace p202 := eq_true p202; replace q202 := eq_true q202))
              repeat (go_quiet (first | (go_at_call 13; (with_reducible refine (token_All.calls kj1 x3_1 t197 t198 t199 _ A31.out ?side1).mono ?_); (case side1 => exact Laid.below HLd.out bw); rintro e w39 ⟨v200, rfl, ho0, hb⟩; have n0_ := Aside0.mk (Kd.R_lower (Kd.R_newB ho0 (g := gb195) (o := .cells #[.int .i64 a0_0, .string a0_1, .int .i64 a0_2, .int .i64 a0_3] 31 (0, 0)) (bk BK195)) (below_size bw)); have n1_ := Aside0.mk (blk_below (bk BK195) hb); have n2_ := Aside0.mk (below_step bw hb); clear BK195; clear HB; have HO201 := n0_; have BK195 := n1_; have HB := n2_; clear n0_ n1_ n2_; (try clear hb); (try clear hb2); (try clear hk); (try clear hi); (try clear ho0); obtain ⟨hcz40_0, hcz40_1, hcz40_2, hcz40_3, hfz40_0, hfz40_1, hfz40_2, hfz40_3⟩ := cells4 BK195; obtain ⟨Ao41, co41, eo41⟩ := Kd.R_slice HO201.out; subst eo41; have p202 : 0 ≤ (0 : Int) := (by omega); have q202 : 0 < (t197.length : Int) := ode; obtain ⟨ad202, e202, hx202_0, hx202_1, hx202_2, hx202_3⟩ := at_T31 (Kd.R_reads' HO201.out).2.2 0 p202 q202; cases e202; have qi202 : (0 < t197.length) = True := eq_true (by omega); (try rw [show ((0 : Int)).toNat = 0 from rfl] at hx202_0); (try rw [show 0 * 4 = 0 from rfl] at hx202_0); (try rw [Addr.add_zero'] at hx202_0); (try rw [show ((0 : Int)).toNat = 0 from rfl] at hx202_1); (try rw [show 0 * 4 = 0 from rfl] at hx202_1); (try rw [Addr.add_zero'] at hx202_1); (try rw [show ((0 : Int)).toNat = 0 from rfl] at hx202_2); (try rw [show 0 * 4 = 0 from rfl] at hx202_2); (try rw [Addr.add_zero'] at hx202_2); (try rw [show ((0 : Int)).toNat = 0 from rfl] at hx202_3); (try rw [show 0 * 4 = 0 from rfl] at hx202_3); (try rw [Addr.add_zero'] at hx202_3); have hn202_0 : ad202.block ≠ gb195 := Kd.own_blk (Kd.R_away HO201.out (fun _ hk => hk.2)); replace hx202_0 := (cell_far (p := ⟨gb195, 3, none⟩) (by first | (rw [add_block]; exact hn202_0) | (show (Addr.add _ _).block ≠ _; rw [add_block]; exact hn202_0) | exact hn202_0) (.int .i64 0)).trans hx202_0; replace hx202_1 := (cell_far (p := ⟨gb195, 3, none⟩) (by first | (rw [add_block]; exact hn202_0) | (show (Addr.add _ _).block ≠ _; rw [add_block]; exact hn202_0) | exact hn202_0) (.int .i64 0)).trans hx202_1; replace hx202_2 := (cell_far (p := ⟨gb195, 3, none⟩) (by first | (rw [add_block]; exact hn202_0) | (show (Addr.add _ _).block ≠ _; rw [add_block]; exact hn202_0) | exact hn202_0) (.int .i64 0)).trans hx202_2; replace hx202_3 := (cell_far (p := ⟨gb195, 3, none⟩) (by first | (rw [add_block]; exact hn202_0) | (show (Addr.add _ _).block ≠ _; rw [add_block]; exact hn202_0) | exact hn202_0) (.int .i64 0)).trans hx202_3; (try have hy202_0 := fun (n_ : Nat) => (show (((w39.drewN n_).setCell ⟨gb195, 3, none⟩ (.int .i64 0))).cell? _ = some _ from hx202_0)); (try have hy202_1 := fun (n_ : Nat) => (show (((w39.drewN n_).setCell ⟨gb195, 3, none⟩ (.int .i64 0))).cell? _ = some _ from hx202_1)); (try have hy202_2 := fun (n_ : Nat) => (show (((w39.drewN n_).setCell ⟨gb195, 3, none⟩ (.int .i64 0))).cell? _ = some _ from hx202_2)); (try have hy202_3 := fun (n_ : Nat) => (show (((w39.drewN n_).setCell ⟨gb195, 3, none⟩ (.int .i64 0))).cell? _ = some _ from hx202_3)); clear hn202_0; replace p202 := eq_true p202; replace q202 := eq_true q202)); try go_wp2_with (first | (go_at_call 13; (with_reducible refine (token_All.calls kj1 x3_1 t197 t198 t199 _ A31.out ?side1).mono ?_); (case side1 => exact Laid.below HLd.out bw); rintro e w39 ⟨v200, rfl, ho0, hb⟩; have n0_ := Aside0.mk (Kd.R_lower (Kd.R_newB ho0 (g := gb195) (o := .cells #[.int .i64 a0_0, .string a0_1, .int .i64 a0_2, .int .i64 a0_3] 31 (0, 0)) (bk BK195)) (below_size bw)); have n1_ := Aside0.mk (blk_below (bk BK195) hb); have n2_ := Aside0.mk (below_step bw hb); clear BK195; clear HB; have HO201 := n0_; have BK195 := n1_; have HB := n2_; clear n0_ n1_ n2_; (try clear hb); (try clear hb2); (try clear hk); (try clear hi); (try clear ho0); obtain ⟨hcz40_0, hcz40_1, hcz40_2, hcz40_3, hfz40_0, hfz40_1, hfz40_2, hfz40_3⟩ := cells4 BK195; obtain ⟨Ao41, co41, eo41⟩ := Kd.R_slice HO201.out; subst eo41; have p202 : 0 ≤ (0 : Int) := (by omega); have q202 : 0 < (t197.length : Int) := ode; obtain ⟨ad202, e202, hx202_0, hx202_1, hx202_2, hx202_3⟩ := at_T31 (Kd.R_reads' HO201.out).2.2 0 p202 q202; cases e202; have qi202 : (0 < t197.length) = True := eq_true (by omega); (try rw [show ((0 : Int)).toNat = 0 from rfl] at hx202_0); (try rw [show 0 * 4 = 0 from rfl] at hx202_0); (try rw [Addr.add_zero'] at hx202_0); (try rw [show ((0 : Int)).toNat = 0 from rfl] at hx202_1); (try rw [show 0 * 4 = 0 from rfl] at hx202_1); (try rw [Addr.add_zero'] at hx202_1); (try rw [show ((0 : Int)).toNat = 0 from rfl] at hx202_2); (try rw [show 0 * 4 = 0 from rfl] at hx202_2); (try rw [Addr.add_zero'] at hx202_2); (try rw [show ((0 : Int)).toNat = 0 from rfl] at hx202_3); (try rw [show 0 * 4 = 0 from rfl] at hx202_3); (try rw [Addr.add_zero'] at hx202_3); have hn202_0 : ad202.block ≠ gb195 := Kd.own_blk (Kd.R_away HO201.out (fun _ hk => hk.2)); replace hx202_0 := (cell_far (p := ⟨gb195, 3, none⟩) (by first | (rw [add_block]; exact hn202_0) | (show (Addr.add _ _).block ≠ _; rw [add_block]; exact hn202_0) | exact hn202_0) (.int .i64 0)).trans hx202_0; replace hx202_1 := (cell_far (p := ⟨gb195, 3, none⟩) (by first | (rw [add_block]; exact hn202_0) | (show (Addr.add _ _).block ≠ _; rw [add_block]; exact hn202_0) | exact hn202_0) (.int .i64 0)).trans hx202_1; replace hx202_2 := (cell_far (p := ⟨gb195, 3, none⟩) (by first | (rw [add_block]; exact hn202_0) | (show (Addr.add _ _).block ≠ _; rw [add_block]; exact hn202_0) | exact hn202_0) (.int .i64 0)).trans hx202_2; replace hx202_3 := (cell_far (p := ⟨gb195, 3, none⟩) (by first | (rw [add_block]; exact hn202_0) | (show (Addr.add _ _).block ≠ _; rw [add_block]; exact hn202_0) | exact hn202_0) (.int .i64 0)).trans hx202_3; (try have hy202_0 := fun (n_ : Nat) => (show (((w39.drewN n_).setCell ⟨gb195, 3, none⟩ (.int .i64 0))).cell? _ = some _ from hx202_0)); (try have hy202_1 := fun (n_ : Nat) => (show (((w39.drewN n_).setCell ⟨gb195, 3, none⟩ (.int .i64 0))).cell? _ = some _ from hx202_1)); (try have hy202_2 := fun (n_ : Nat) => (show (((w39.drewN n_).setCell ⟨gb195, 3, none⟩ (.int .i64 0))).cell? _ = some _ from hx202_2)); (try have hy202_3 := fun (n_ : Nat) => (show (((w39.drewN n_).setCell ⟨gb195, 3, none⟩ (.int .i64 0))).cell? _ = some _ from hx202_3)); clear hn202_0; replace p202 := eq_true p202; replace q202 := eq_true q202)))
              go_ret
              exact ⟨by first | rfl | (simp [errW_none, errW_some] <;> rfl) | (simp [*, errW_none, errW_some] <;> rfl), bw⟩
          · rw [if_neg c34] at H
            exact absurd H (by simp)
        · rw [if_neg c33] at H
          have c33b0 : ((t197.length : Int) == 1) = false := beq_eq_false_iff_ne.mpr c33
          have c33b1 : ((t197.length : Int) != 1) = true := bne_iff_ne.mpr c33
          obtain rfl := Option.some.inj H
          go_wp2_with (first | (go_at_call 13; (with_reducible refine (token_All.calls kj1 x3_1 t197 t198 t199 _ A31.out ?side1).mono ?_); (case side1 => exact Laid.below HLd.out bw); rintro e w42 ⟨v200, rfl, ho0, hb⟩; have n0_ := Aside0.mk (Kd.R_lower (Kd.R_newB ho0 (g := gb195) (o := .cells #[.int .i64 a0_0, .string a0_1, .int .i64 a0_2, .int .i64 a0_3] 31 (0, 0)) (bk BK195)) (below_size bw)); have n1_ := Aside0.mk (blk_below (bk BK195) hb); have n2_ := Aside0.mk (below_step bw hb); clear BK195; clear HB; have HO201 := n0_; have BK195 := n1_; have HB := n2_; clear n0_ n1_ n2_; (try clear hb); (try clear hb2); (try clear hk); (try clear hi); (try clear ho0); obtain ⟨hcz43_0, hcz43_1, hcz43_2, hcz43_3, hfz43_0, hfz43_1, hfz43_2, hfz43_3⟩ := cells4 BK195; obtain ⟨Ao44, co44, eo44⟩ := Kd.R_slice HO201.out; subst eo44))
          repeat (go_quiet (first | (go_at_call 13; (with_reducible refine (token_All.calls kj1 x3_1 t197 t198 t199 _ A31.out ?side1).mono ?_); (case side1 => exact Laid.below HLd.out bw); rintro e w42 ⟨v200, rfl, ho0, hb⟩; have n0_ := Aside0.mk (Kd.R_lower (Kd.R_newB ho0 (g := gb195) (o := .cells #[.int .i64 a0_0, .string a0_1, .int .i64 a0_2, .int .i64 a0_3] 31 (0, 0)) (bk BK195)) (below_size bw)); have n1_ := Aside0.mk (blk_below (bk BK195) hb); have n2_ := Aside0.mk (below_step bw hb); clear BK195; clear HB; have HO201 := n0_; have BK195 := n1_; have HB := n2_; clear n0_ n1_ n2_; (try clear hb); (try clear hb2); (try clear hk); (try clear hi); (try clear ho0); obtain ⟨hcz43_0, hcz43_1, hcz43_2, hcz43_3, hfz43_0, hfz43_1, hfz43_2, hfz43_3⟩ := cells4 BK195; obtain ⟨Ao44, co44, eo44⟩ := Kd.R_slice HO201.out; subst eo44)); try go_wp2_with (first | (go_at_call 13; (with_reducible refine (token_All.calls kj1 x3_1 t197 t198 t199 _ A31.out ?side1).mono ?_); (case side1 => exact Laid.below HLd.out bw); rintro e w42 ⟨v200, rfl, ho0, hb⟩; have n0_ := Aside0.mk (Kd.R_lower (Kd.R_newB ho0 (g := gb195) (o := .cells #[.int .i64 a0_0, .string a0_1, .int .i64 a0_2, .int .i64 a0_3] 31 (0, 0)) (bk BK195)) (below_size bw)); have n1_ := Aside0.mk (blk_below (bk BK195) hb); have n2_ := Aside0.mk (below_step bw hb); clear BK195; clear HB; have HO201 := n0_; have BK195 := n1_; have HB := n2_; clear n0_ n1_ n2_; (try clear hb); (try clear hb2); (try clear hk); (try clear hi); (try clear ho0); obtain ⟨hcz43_0, hcz43_1, hcz43_2, hcz43_3, hfz43_0, hfz43_1, hfz43_2, hfz43_3⟩ := cells4 BK195; obtain ⟨Ao44, co44, eo44⟩ := Kd.R_slice HO201.out; subst eo44)))
          go_ret
          exact ⟨by first | rfl | (simp [errW_none, errW_some] <;> rfl) | (simp [*, errW_none, errW_some] <;> rfl), bw⟩
      · rw [if_neg c32] at H
        have c32b0 : (t199 == 0) = false := beq_eq_false_iff_ne.mpr c32
        have c32b1 : (t199 != 0) = true := bne_iff_ne.mpr c32
        obtain rfl := Option.some.inj H
        go_wp2_with (first | (go_at_call 13; (with_reducible refine (token_All.calls kj1 x3_1 t197 t198 t199 _ A31.out ?side1).mono ?_); (case side1 => exact Laid.below HLd.out bw); rintro e w45 ⟨v200, rfl, ho0, hb⟩; have n0_ := Aside0.mk (Kd.R_lower (Kd.R_newB ho0 (g := gb195) (o := .cells #[.int .i64 a0_0, .string a0_1, .int .i64 a0_2, .int .i64 a0_3] 31 (0, 0)) (bk BK195)) (below_size bw)); have n1_ := Aside0.mk (blk_below (bk BK195) hb); have n2_ := Aside0.mk (below_step bw hb); clear BK195; clear HB; have HO201 := n0_; have BK195 := n1_; have HB := n2_; clear n0_ n1_ n2_; (try clear hb); (try clear hb2); (try clear hk); (try clear hi); (try clear ho0); obtain ⟨hcz46_0, hcz46_1, hcz46_2, hcz46_3, hfz46_0, hfz46_1, hfz46_2, hfz46_3⟩ := cells4 BK195))
        repeat (go_quiet (first | (go_at_call 13; (with_reducible refine (token_All.calls kj1 x3_1 t197 t198 t199 _ A31.out ?side1).mono ?_); (case side1 => exact Laid.below HLd.out bw); rintro e w45 ⟨v200, rfl, ho0, hb⟩; have n0_ := Aside0.mk (Kd.R_lower (Kd.R_newB ho0 (g := gb195) (o := .cells #[.int .i64 a0_0, .string a0_1, .int .i64 a0_2, .int .i64 a0_3] 31 (0, 0)) (bk BK195)) (below_size bw)); have n1_ := Aside0.mk (blk_below (bk BK195) hb); have n2_ := Aside0.mk (below_step bw hb); clear BK195; clear HB; have HO201 := n0_; have BK195 := n1_; have HB := n2_; clear n0_ n1_ n2_; (try clear hb); (try clear hb2); (try clear hk); (try clear hi); (try clear ho0); obtain ⟨hcz46_0, hcz46_1, hcz46_2, hcz46_3, hfz46_0, hfz46_1, hfz46_2, hfz46_3⟩ := cells4 BK195)); try go_wp2_with (first | (go_at_call 13; (with_reducible refine (token_All.calls kj1 x3_1 t197 t198 t199 _ A31.out ?side1).mono ?_); (case side1 => exact Laid.below HLd.out bw); rintro e w45 ⟨v200, rfl, ho0, hb⟩; have n0_ := Aside0.mk (Kd.R_lower (Kd.R_newB ho0 (g := gb195) (o := .cells #[.int .i64 a0_0, .string a0_1, .int .i64 a0_2, .int .i64 a0_3] 31 (0, 0)) (bk BK195)) (below_size bw)); have n1_ := Aside0.mk (blk_below (bk BK195) hb); have n2_ := Aside0.mk (below_step bw hb); clear BK195; clear HB; have HO201 := n0_; have BK195 := n1_; have HB := n2_; clear n0_ n1_ n2_; (try clear hb); (try clear hb2); (try clear hk); (try clear hi); (try clear ho0); obtain ⟨hcz46_0, hcz46_1, hcz46_2, hcz46_3, hfz46_0, hfz46_1, hfz46_2, hfz46_3⟩ := cells4 BK195)))
        go_ret
        exact ⟨by first | rfl | (simp [errW_none, errW_some] <;> rfl) | (simp [*, errW_none, errW_some] <;> rfl), bw⟩

/-! ### numerarylaw11_wakes: function 14 -/
def numerarylaw11_wakes.f (k : Nat)  : Option (Bool) := (token_All.f k (⟨#[35, 44, 35, 35, 48]⟩ : ByteArray)).bind fun bt203 => ((token_All.f k (⟨#[109, 109, 109, 34, 120, 34]⟩ : ByteArray)).bind fun bt208 => ((token_All.f k (⟨#[48, 34, 97]⟩ : ByteArray)).bind fun bt213 => (if bt203.2.2 = 0 then (if bt203.2.1 = 5 then (if (bt203.1.length : Int) = 5 then (if 1 < (bt203.1.length : Int) then (if ((rd_T31 bt203.1 1).f0) = 8 then (if bt208.2.2 = 0 then (if (bt208.1.length : Int) = 2 then (if 0 < (bt208.1.length : Int) then (if ((rd_T31 bt208.1 0).f2) = 3 then (if 1 < (bt208.1.length : Int) then (if ((rd_T31 bt208.1 1).f1).toList = ([120] : List UInt8) then (if bt213.2.1 = 3 then (if bt213.2.2 = 5 then ((token_Token_Code.f k ((rd_T31 bt208.1 1).f0) ((rd_T31 bt208.1 1).f1) ((rd_T31 bt208.1 1).f2) ((rd_T31 bt208.1 1).f3)).bind fun t222 => (some (t222.toList == ([34, 120, 34] : List UInt8)))) else (some false)) else (some false)) else (some false)) else (none)) else (some false)) else (none)) else (some false)) else (some false)) else (some false)) else (none)) else (some false)) else (some false)) else (some false))))
theorem numerarylaw11_wakes.mono : ∀ k, LeO (numerarylaw11_wakes.f k ) (numerarylaw11_wakes.f (k + 1) ) := by
  intro  k
  unfold numerarylaw11_wakes.f
  repeat' first
      | (with_reducible exact token_All.mono _ _)
      | (with_reducible exact token_Token_Code.mono _ _ _ _ _)
      | (with_reducible exact LeO.refl _)
      | (with_reducible exact LeO.none _)
      | (with_reducible refine LeO.ite ?_ ?_)
      | (with_reducible refine LeO.bind ?_ (fun _ => ?_))
      | exact token_All.mono _ _
      | exact token_Token_Code.mono _ _ _ _ _
      | exact LeO.none _
      | refine LeO.ite ?_ ?_
      | refine LeO.bind ?_ (fun _ => ?_)
set_option maxHeartbeats 8000000 in
set_option maxRecDepth 100000 in
theorem numerarylaw11_wakes.calls (k : Nat)  (r : Bool) (w : World) (h : numerarylaw11_wakes.f k  = some r) (hLd : Laid w) :
    Calls Tryd.prog 14 #[] w fun e w' => e = .returned (.bool r) ∧ Below w.heap.size w w' := by
  have hu31 := Tryd.underlying31
  have HB := Aside0.mk (Below.refl w.heap.size w)
  have HLd := Aside0.mk hLd
  clear hLd
  have H : ((token_All.f k (⟨#[35, 44, 35, 35, 48]⟩ : ByteArray)).bind fun bt203 => ((token_All.f k (⟨#[109, 109, 109, 34, 120, 34]⟩ : ByteArray)).bind fun bt208 => ((token_All.f k (⟨#[48, 34, 97]⟩ : ByteArray)).bind fun bt213 => (if bt203.2.2 = 0 then (if bt203.2.1 = 5 then (if (bt203.1.length : Int) = 5 then (if 1 < (bt203.1.length : Int) then (if ((rd_T31 bt203.1 1).f0) = 8 then (if bt208.2.2 = 0 then (if (bt208.1.length : Int) = 2 then (if 0 < (bt208.1.length : Int) then (if ((rd_T31 bt208.1 0).f2) = 3 then (if 1 < (bt208.1.length : Int) then (if ((rd_T31 bt208.1 1).f1).toList = ([120] : List UInt8) then (if bt213.2.1 = 3 then (if bt213.2.2 = 5 then ((token_Token_Code.f k ((rd_T31 bt208.1 1).f0) ((rd_T31 bt208.1 1).f1) ((rd_T31 bt208.1 1).f2) ((rd_T31 bt208.1 1).f3)).bind fun t222 => (some (t222.toList == ([34, 120, 34] : List UInt8)))) else (some false)) else (some false)) else (some false)) else (none)) else (some false)) else (none)) else (some false)) else (some false)) else (some false)) else (none)) else (some false)) else (some false)) else (some false))))) = some r := h
  clear h
  replace H := Option.bind_eq_some_iff.mp H
  obtain ⟨⟨t203, t204, t205⟩, A10, H⟩ := H
  replace H : ((token_All.f k (⟨#[109, 109, 109, 34, 120, 34]⟩ : ByteArray)).bind fun bt208 => ((token_All.f k (⟨#[48, 34, 97]⟩ : ByteArray)).bind fun bt213 => (if t205 = 0 then (if t204 = 5 then (if (t203.length : Int) = 5 then (if 1 < (t203.length : Int) then (if ((rd_T31 t203 1).f0) = 8 then (if bt208.2.2 = 0 then (if (bt208.1.length : Int) = 2 then (if 0 < (bt208.1.length : Int) then (if ((rd_T31 bt208.1 0).f2) = 3 then (if 1 < (bt208.1.length : Int) then (if ((rd_T31 bt208.1 1).f1).toList = ([120] : List UInt8) then (if bt213.2.1 = 3 then (if bt213.2.2 = 5 then ((token_Token_Code.f k ((rd_T31 bt208.1 1).f0) ((rd_T31 bt208.1 1).f1) ((rd_T31 bt208.1 1).f2) ((rd_T31 bt208.1 1).f3)).bind fun t222 => (some (t222.toList == ([34, 120, 34] : List UInt8)))) else (some false)) else (some false)) else (some false)) else (none)) else (some false)) else (none)) else (some false)) else (some false)) else (some false)) else (none)) else (some false)) else (some false)) else (some false)))) = some r := H
  have A1 := Aside0.mk A10
  clear A10
  replace H := Option.bind_eq_some_iff.mp H
  obtain ⟨⟨t208, t209, t210⟩, A20, H⟩ := H
  replace H : ((token_All.f k (⟨#[48, 34, 97]⟩ : ByteArray)).bind fun bt213 => (if t205 = 0 then (if t204 = 5 then (if (t203.length : Int) = 5 then (if 1 < (t203.length : Int) then (if ((rd_T31 t203 1).f0) = 8 then (if t210 = 0 then (if (t208.length : Int) = 2 then (if 0 < (t208.length : Int) then (if ((rd_T31 t208 0).f2) = 3 then (if 1 < (t208.length : Int) then (if ((rd_T31 t208 1).f1).toList = ([120] : List UInt8) then (if bt213.2.1 = 3 then (if bt213.2.2 = 5 then ((token_Token_Code.f k ((rd_T31 t208 1).f0) ((rd_T31 t208 1).f1) ((rd_T31 t208 1).f2) ((rd_T31 t208 1).f3)).bind fun t222 => (some (t222.toList == ([34, 120, 34] : List UInt8)))) else (some false)) else (some false)) else (some false)) else (none)) else (some false)) else (none)) else (some false)) else (some false)) else (some false)) else (none)) else (some false)) else (some false)) else (some false))) = some r := H
  have A2 := Aside0.mk A20
  clear A20
  replace H := Option.bind_eq_some_iff.mp H
  obtain ⟨⟨t213, t214, t215⟩, A30, H⟩ := H
  replace H : (if t205 = 0 then (if t204 = 5 then (if (t203.length : Int) = 5 then (if 1 < (t203.length : Int) then (if ((rd_T31 t203 1).f0) = 8 then (if t210 = 0 then (if (t208.length : Int) = 2 then (if 0 < (t208.length : Int) then (if ((rd_T31 t208 0).f2) = 3 then (if 1 < (t208.length : Int) then (if ((rd_T31 t208 1).f1).toList = ([120] : List UInt8) then (if t214 = 3 then (if t215 = 5 then ((token_Token_Code.f k ((rd_T31 t208 1).f0) ((rd_T31 t208 1).f1) ((rd_T31 t208 1).f2) ((rd_T31 t208 1).f3)).bind fun t222 => (some (t222.toList == ([34, 120, 34] : List UInt8)))) else (some false)) else (some false)) else (some false)) else (none)) else (some false)) else (none)) else (some false)) else (some false)) else (some false)) else (none)) else (some false)) else (some false)) else (some false)) = some r := H
  have A3 := Aside0.mk A30
  clear A30
  by_cases c4 : t205 = 0
  · rw [if_pos c4] at H
    have c4b0 : (t205 == 0) = true := beq_iff_eq.mpr c4
    have c4b1 : (t205 != 0) = false := bne_eq_false_iff_eq.mpr c4
    clear c4
    by_cases c5 : t204 = 5
    · rw [if_pos c5] at H
      have c5b0 : (t204 == 5) = true := beq_iff_eq.mpr c5
      have c5b1 : (t204 != 5) = false := bne_eq_false_iff_eq.mpr c5
      clear c5
      by_cases c6 : (t203.length : Int) = 5
      · rw [if_pos c6] at H
        have c6b0 : ((t203.length : Int) == 5) = true := beq_iff_eq.mpr c6
        have c6b1 : ((t203.length : Int) != 5) = false := bne_eq_false_iff_eq.mpr c6
        clear c6
        by_cases c7 : 1 < (t203.length : Int)
        · rw [if_pos c7] at H
          have c7b0 : decide (1 < (t203.length : Int)) = true := decide_eq_true c7
          have c7b1 : decide (1 < t203.length) = true := decide_eq_true (by omega)
          clear c7
          by_cases c8 : ((rd_T31 t203 1).f0) = 8
          · rw [if_pos c8] at H
            have c8b0 : (((rd_T31 t203 1).f0) == 8) = true := beq_iff_eq.mpr c8
            have c8b1 : (((rd_T31 t203 1).f0) != 8) = false := bne_eq_false_iff_eq.mpr c8
            clear c8
            by_cases c9 : t210 = 0
            · rw [if_pos c9] at H
              have c9b0 : (t210 == 0) = true := beq_iff_eq.mpr c9
              have c9b1 : (t210 != 0) = false := bne_eq_false_iff_eq.mpr c9
              clear c9
              by_cases c10 : (t208.length : Int) = 2
              · rw [if_pos c10] at H
                have c10b0 : ((t208.length : Int) == 2) = true := beq_iff_eq.mpr c10
                have c10b1 : ((t208.length : Int) != 2) = false := bne_eq_false_iff_eq.mpr c10
                clear c10
                by_cases c11 : 0 < (t208.length : Int)
                · rw [if_pos c11] at H
                  have c11b0 : decide (0 < (t208.length : Int)) = true := decide_eq_true c11
                  have c11b1 : decide (0 < t208.length) = true := decide_eq_true (by omega)
                  clear c11
                  by_cases c12 : ((rd_T31 t208 0).f2) = 3
                  · rw [if_pos c12] at H
                    have c12b0 : (((rd_T31 t208 0).f2) == 3) = true := beq_iff_eq.mpr c12
                    have c12b1 : (((rd_T31 t208 0).f2) != 3) = false := bne_eq_false_iff_eq.mpr c12
                    clear c12
                    by_cases c13 : 1 < (t208.length : Int)
                    · rw [if_pos c13] at H
                      have c13b0 : decide (1 < (t208.length : Int)) = true := decide_eq_true c13
                      have c13b1 : decide (1 < t208.length) = true := decide_eq_true (by omega)
                      clear c13
                      by_cases c14 : ((rd_T31 t208 1).f1).toList = ([120] : List UInt8)
                      · rw [if_pos c14] at H
                        have c14b0 : (((rd_T31 t208 1).f1).toList == ([120] : List UInt8)) = true := beq_iff_eq.mpr c14
                        have c14b1 : (((rd_T31 t208 1).f1).toList != ([120] : List UInt8)) = false := bne_eq_false_iff_eq.mpr c14
                        clear c14
                        by_cases c15 : t214 = 3
                        · rw [if_pos c15] at H
                          have c15b0 : (t214 == 3) = true := beq_iff_eq.mpr c15
                          have c15b1 : (t214 != 3) = false := bne_eq_false_iff_eq.mpr c15
                          clear c15
                          by_cases c16 : t215 = 5
                          · rw [if_pos c16] at H
                            have c16b0 : (t215 == 5) = true := beq_iff_eq.mpr c16
                            have c16b1 : (t215 != 5) = false := bne_eq_false_iff_eq.mpr c16
                            clear c16
                            replace H := Option.bind_eq_some_iff.mp H
                            obtain ⟨t222, A170, H⟩ := H
                            replace H : (some (t222.toList == ([34, 120, 34] : List UInt8))) = some r := H
                            have A17 := Aside0.mk A170
                            clear A170
                            obtain rfl := Option.some.inj H
                            go_enter Tryd.func14, Tryd.ntmps14
                            go_wp2_with (first | ((with_reducible refine gate_callee (f := 13) rfl ?_); refine goesL_ (some 11) rfl rfl Tryd.func13 (by kernel_rfl) rfl #[.string (⟨#[35, 44, 35, 35, 48]⟩ : ByteArray)] rfl (by (try simp only [List.map_toArray, List.map_cons, List.map_nil]); first | done | rfl | (simp only [List.length_drop, List.length_take]; rfl)) ?_; (with_reducible refine (token_All.calls k (⟨#[35, 44, 35, 35, 48]⟩ : ByteArray) t203 t204 t205 _ A1.out ?side1).mono ?_); (case side1 => exact Laid.below HLd.out bw); rintro e w18 ⟨v206, rfl, ho0, hb⟩; refine ⟨_, rfl, ?_⟩; have n0_ := Aside0.mk (Kd.R_lower ho0 (below_size bw)); have n1_ := Aside0.mk (below_step bw hb); clear HB; have HO207 := n0_; have HB := n1_; clear n0_ n1_; (try clear hb); (try clear hb2); (try clear hk); (try clear hi); (try clear ho0)) | ((with_reducible refine gate_callee (f := 13) rfl ?_); refine goesL_ (some 16) rfl rfl Tryd.func13 (by kernel_rfl) rfl #[.string (⟨#[109, 109, 109, 34, 120, 34]⟩ : ByteArray)] rfl (by (try simp only [List.map_toArray, List.map_cons, List.map_nil]); first | done | rfl | (simp only [List.length_drop, List.length_take]; rfl)) ?_; (with_reducible refine (token_All.calls k (⟨#[109, 109, 109, 34, 120, 34]⟩ : ByteArray) t208 t209 t210 _ A2.out ?side1).mono ?_); (case side1 => exact Laid.below HLd.out bw); rintro e w19 ⟨v211, rfl, ho0, hb⟩; refine ⟨_, rfl, ?_⟩; have n0_ := Aside0.mk (Kd.R_elder' (kr HO207) (Kd.R_base ho0) hb); have n1_ := Aside0.mk (Kd.R_lower (Kd.R_new' ho0 (Kd.R_lt (kr HO207))) (below_size bw)); have n2_ := Aside0.mk (below_step bw hb); clear HO207; clear HB; have HO207 := n0_; have HO212 := n1_; have HB := n2_; clear n0_ n1_ n2_; (try clear hb); (try clear hb2); (try clear hk); (try clear hi); (try clear ho0)) | ((with_reducible refine gate_callee (f := 13) rfl ?_); refine goesL_ (some 21) rfl rfl Tryd.func13 (by kernel_rfl) rfl #[.string (⟨#[48, 34, 97]⟩ : ByteArray)] rfl (by (try simp only [List.map_toArray, List.map_cons, List.map_nil]); first | done | rfl | (simp only [List.length_drop, List.length_take]; rfl)) ?_; (with_reducible refine (token_All.calls k (⟨#[48, 34, 97]⟩ : ByteArray) t213 t214 t215 _ A3.out ?side1).mono ?_); (case side1 => exact Laid.below HLd.out bw); rintro e w20 ⟨v216, rfl, ho0, hb⟩; refine ⟨_, rfl, ?_⟩; have n0_ := Aside0.mk (Kd.R_elder' (kr HO207) (Kd.R_base ho0) hb); have n1_ := Aside0.mk (Kd.R_elder' (kr HO212) (Kd.R_base ho0) hb); have n2_ := Aside0.mk (Kd.R_lower (Kd.R_new' (Kd.R_new' ho0 (Kd.R_lt (kr HO207))) (Kd.R_lt (kr HO212))) (below_size bw)); have n3_ := Aside0.mk (below_step bw hb); clear HO207; clear HO212; clear HB; have HO207 := n0_; have HO212 := n1_; have HO217 := n2_; have HB := n3_; clear n0_ n1_ n2_ n3_; (try clear hb); (try clear hb2); (try clear hk); (try clear hi); (try clear ho0); obtain ⟨Ao21, co21, eo21⟩ := Kd.R_slice HO207.out; subst eo21; have p218 : 0 ≤ (1 : Int) := (by omega); have q218 : 1 < (t203.length : Int) := ode; obtain ⟨ad218, e218, hx218_0, hx218_1, hx218_2, hx218_3⟩ := at_T31 (Kd.R_reads' HO207.out).2.2 1 p218 q218; cases e218; (try simp only [show (1 : Int).toNat = 1 from rfl, Nat.reduceMul, Nat.reduceEqDiff, Go.Addr.add, ↓reduceIte] at hx218_0); (try simp only [show (1 : Int).toNat = 1 from rfl, Nat.reduceMul, Nat.reduceEqDiff, Go.Addr.add, ↓reduceIte] at hx218_1); (try simp only [show (1 : Int).toNat = 1 from rfl, Nat.reduceMul, Nat.reduceEqDiff, Go.Addr.add, ↓reduceIte] at hx218_2); (try simp only [show (1 : Int).toNat = 1 from rfl, Nat.reduceMul, Nat.reduceEqDiff, Go.Addr.add, ↓reduceIte] at hx218_3); have qi218 : (1 < t203.length) = True := eq_true (by omega); (try rw [show ((1 : Int)).toNat = 1 from rfl] at hx218_0); (try rw [show 1 * 4 = 4 from rfl] at hx218_0); (try rw [show ((1 : Int)).toNat = 1 from rfl] at hx218_1); (try rw [show 1 * 4 = 4 from rfl] at hx218_1); (try rw [show ((1 : Int)).toNat = 1 from rfl] at hx218_2); (try rw [show 1 * 4 = 4 from rfl] at hx218_2); (try rw [show ((1 : Int)).toNat = 1 from rfl] at hx218_3); (try rw [show 1 * 4 = 4 from rfl] at hx218_3); replace p218 := eq_true p218; replace q218 := eq_true q218; obtain ⟨Ao22, co22, eo22⟩ := Kd.R_slice HO212.out; subst eo22; have p219 : 0 ≤ (0 : Int) := (by omega); have q219 : 0 < (t208.length : Int) := ode; obtain ⟨ad219, e219, hx219_0, hx219_1, hx219_2, hx219_3⟩ := at_T31 (Kd.R_reads' HO212.out).2.2 0 p219 q219; cases e219; have qi219 : (0 < t208.length) = True := eq_true (by omega); (try rw [show ((0 : Int)).toNat = 0 from rfl] at hx219_0); (try rw [show 0 * 4 = 0 from rfl] at hx219_0); (try rw [Addr.add_zero'] at hx219_0); (try rw [show ((0 : Int)).toNat = 0 from rfl] at hx219_1); (try rw [show 0 * 4 = 0 from rfl] at hx219_1); (try rw [Addr.add_zero'] at hx219_1); (try rw [show ((0 : Int)).toNat = 0 from rfl] at hx219_2); (try rw [show 0 * 4 = 0 from rfl] at hx219_2); (try rw [Addr.add_zero'] at hx219_2); (try rw [show ((0 : Int)).toNat = 0 from rfl] at hx219_3); (try rw [show 0 * 4 = 0 from rfl] at hx219_3); (try rw [Addr.add_zero'] at hx219_3); replace p219 := eq_true p219; replace q219 := eq_true q219; have p220 : 0 ≤ (1 : Int) := (by omega); have q220 : 1 < (t208.length : Int) := ode; obtain ⟨ad220, e220, hx220_0, hx220_1, hx220_2, hx220_3⟩ := at_T31 (Kd.R_reads' HO212.out).2.2 1 p220 q220; obtain rfl : ad219 = ad220 := (by injection e220); (try simp only [show (1 : Int).toNat = 1 from rfl, Nat.reduceMul, Nat.reduceEqDiff, Go.Addr.add, ↓reduceIte] at hx220_0); (try simp only [show (1 : Int).toNat = 1 from rfl, Nat.reduceMul, Nat.reduceEqDiff, Go.Addr.add, ↓reduceIte] at hx220_1); (try simp only [show (1 : Int).toNat = 1 from rfl, Nat.reduceMul, Nat.reduceEqDiff, Go.Addr.add, ↓reduceIte] at hx220_2); (try simp only [show (1 : Int).toNat = 1 from rfl, Nat.reduceMul, Nat.reduceEqDiff, Go.Addr.add, ↓reduceIte] at hx220_3); have qi220 : (1 < t208.length) = True := eq_true (by omega); (try rw [show ((1 : Int)).toNat = 1 from rfl] at hx220_0); (try rw [show 1 * 4 = 4 from rfl] at hx220_0); (try rw [show ((1 : Int)).toNat = 1 from rfl] at hx220_1); (try rw [show 1 * 4 = 4 from rfl] at hx220_1); (try rw [show ((1 : Int)).toNat = 1 from rfl] at hx220_2); (try rw [show 1 * 4 = 4 from rfl] at hx220_2); (try rw [show ((1 : Int)).toNat = 1 from rfl] at hx220_3); (try rw [show 1 * 4 = 4 from rfl] at hx220_3); replace p220 := eq_true p220; replace q220 := eq_true q220; have p221 : 0 ≤ (1 : Int) := (by omega); have q221 : 1 < (t208.length : Int) := ode; obtain ⟨ad221, e221, hx221_0, hx221_1, hx221_2, hx221_3⟩ := at_T31 (Kd.R_reads' HO212.out).2.2 1 p221 q221; obtain rfl : ad219 = ad221 := (by injection e221); (try simp only [show (1 : Int).toNat = 1 from rfl, Nat.reduceMul, Nat.reduceEqDiff, Go.Addr.add, ↓reduceIte] at hx221_0); (try simp only [show (1 : Int).toNat = 1 from rfl, Nat.reduceMul, Nat.reduceEqDiff, Go.Addr.add, ↓reduceIte] at hx221_1); (try simp only [show (1 : Int).toNat = 1 from rfl, Nat.reduceMul, Nat.reduceEqDiff, Go.Addr.add, ↓reduceIte] at hx221_2); (try simp only [show (1 : Int).toNat = 1 from rfl, Nat.reduceMul, Nat.reduceEqDiff, Go.Addr.add, ↓reduceIte] at hx221_3); have qi221 : (1 < t208.length) = True := eq_true (by omega); (try rw [show ((1 : Int)).toNat = 1 from rfl] at hx221_0); (try rw [show 1 * 4 = 4 from rfl] at hx221_0); (try rw [show ((1 : Int)).toNat = 1 from rfl] at hx221_1); (try rw [show 1 * 4 = 4 from rfl] at hx221_1); (try rw [show ((1 : Int)).toNat = 1 from rfl] at hx221_2); (try rw [show 1 * 4 = 4 from rfl] at hx221_2); (try rw [show ((1 : Int)).toNat = 1 from rfl] at hx221_3); (try rw [show 1 * 4 = 4 from rfl] at hx221_3); replace p221 := eq_true p221; replace q221 := eq_true q221) | (go_at_call 27; (with_reducible refine (token_Token_Code.calls k ((rd_T31 t208 1).f0) ((rd_T31 t208 1).f1) ((rd_T31 t208 1).f2) ((rd_T31 t208 1).f3) t222 _ A17.out ?side1).mono ?_); (case side1 => exact Laid.below HLd.out bw); rintro e w23 ⟨rfl, hb⟩; have n0_ := Aside0.mk (Kd.R_below (kr HO207) hb); have n1_ := Aside0.mk (Kd.R_below (kr HO212) hb); have n2_ := Aside0.mk (Kd.R_below (kr HO217) hb); have n3_ := Aside0.mk (below_step bw hb); clear HO207; clear HO212; clear HO217; clear HB; have HO207 := n0_; have HO212 := n1_; have HO217 := n2_; have HB := n3_; clear n0_ n1_ n2_ n3_; (try clear hb); (try clear hb2); (try clear hk); (try clear hi)))
                            go_ret
                            exact ⟨by first | rfl | (simp [errW_none, errW_some] <;> rfl) | (simp [*, errW_none, errW_some] <;> rfl), bw⟩
                          · rw [if_neg c16] at H
                            have c16b0 : (t215 == 5) = false := beq_eq_false_iff_ne.mpr c16
                            have c16b1 : (t215 != 5) = true := bne_iff_ne.mpr c16
                            obtain rfl := Option.some.inj H
                            go_enter Tryd.func14, Tryd.ntmps14
                            go_wp2_with (first | ((with_reducible refine gate_callee (f := 13) rfl ?_); refine goesL_ (some 11) rfl rfl Tryd.func13 (by kernel_rfl) rfl #[.string (⟨#[35, 44, 35, 35, 48]⟩ : ByteArray)] rfl (by (try simp only [List.map_toArray, List.map_cons, List.map_nil]); first | done | rfl | (simp only [List.length_drop, List.length_take]; rfl)) ?_; (with_reducible refine (token_All.calls k (⟨#[35, 44, 35, 35, 48]⟩ : ByteArray) t203 t204 t205 _ A1.out ?side1).mono ?_); (case side1 => exact Laid.below HLd.out bw); rintro e w24 ⟨v206, rfl, ho0, hb⟩; refine ⟨_, rfl, ?_⟩; have n0_ := Aside0.mk (Kd.R_lower ho0 (below_size bw)); have n1_ := Aside0.mk (below_step bw hb); clear HB; have HO207 := n0_; have HB := n1_; clear n0_ n1_; (try clear hb); (try clear hb2); (try clear hk); (try clear hi); (try clear ho0)) | ((with_reducible refine gate_callee (f := 13) rfl ?_); refine goesL_ (some 16) rfl rfl Tryd.func13 (by kernel_rfl) rfl #[.string (⟨#[109, 109, 109, 34, 120, 34]⟩ : ByteArray)] rfl (by (try simp only [List.map_toArray, List.map_cons, List.map_nil]); first | done | rfl | (simp only [List.length_drop, List.length_take]; rfl)) ?_; (with_reducible refine (token_All.calls k (⟨#[109, 109, 109, 34, 120, 34]⟩ : ByteArray) t208 t209 t210 _ A2.out ?side1).mono ?_); (case side1 => exact Laid.below HLd.out bw); rintro e w25 ⟨v211, rfl, ho0, hb⟩; refine ⟨_, rfl, ?_⟩; have n0_ := Aside0.mk (Kd.R_elder' (kr HO207) (Kd.R_base ho0) hb); have n1_ := Aside0.mk (Kd.R_lower (Kd.R_new' ho0 (Kd.R_lt (kr HO207))) (below_size bw)); have n2_ := Aside0.mk (below_step bw hb); clear HO207; clear HB; have HO207 := n0_; have HO212 := n1_; have HB := n2_; clear n0_ n1_ n2_; (try clear hb); (try clear hb2); (try clear hk); (try clear hi); (try clear ho0)) | ((with_reducible refine gate_callee (f := 13) rfl ?_); refine goesL_ (some 21) rfl rfl Tryd.func13 (by kernel_rfl) rfl #[.string (⟨#[48, 34, 97]⟩ : ByteArray)] rfl (by (try simp only [List.map_toArray, List.map_cons, List.map_nil]); first | done | rfl | (simp only [List.length_drop, List.length_take]; rfl)) ?_; (with_reducible refine (token_All.calls k (⟨#[48, 34, 97]⟩ : ByteArray) t213 t214 t215 _ A3.out ?side1).mono ?_); (case side1 => exact Laid.below HLd.out bw); rintro e w26 ⟨v216, rfl, ho0, hb⟩; refine ⟨_, rfl, ?_⟩; have n0_ := Aside0.mk (Kd.R_elder' (kr HO207) (Kd.R_base ho0) hb); have n1_ := Aside0.mk (Kd.R_elder' (kr HO212) (Kd.R_base ho0) hb); have n2_ := Aside0.mk (Kd.R_lower (Kd.R_new' (Kd.R_new' ho0 (Kd.R_lt (kr HO207))) (Kd.R_lt (kr HO212))) (below_size bw)); have n3_ := Aside0.mk (below_step bw hb); clear HO207; clear HO212; clear HB; have HO207 := n0_; have HO212 := n1_; have HO217 := n2_; have HB := n3_; clear n0_ n1_ n2_ n3_; (try clear hb); (try clear hb2); (try clear hk); (try clear hi); (try clear ho0); obtain ⟨Ao27, co27, eo27⟩ := Kd.R_slice HO207.out; subst eo27; have p218 : 0 ≤ (1 : Int) := (by omega); have q218 : 1 < (t203.length : Int) := ode; obtain ⟨ad218, e218, hx218_0, hx218_1, hx218_2, hx218_3⟩ := at_T31 (Kd.R_reads' HO207.out).2.2 1 p218 q218; cases e218; (try simp only [show (1 : Int).toNat = 1 from rfl, Nat.reduceMul, Nat.reduceEqDiff, Go.Addr.add, ↓reduceIte] at hx218_0); (try simp only [show (1 : Int).toNat = 1 from rfl, Nat.reduceMul, Nat.reduceEqDiff, Go.Addr.add, ↓reduceIte] at hx218_1); (try simp only [show (1 : Int).toNat = 1 from rfl, Nat.reduceMul, Nat.reduceEqDiff, Go.Addr.add, ↓reduceIte] at hx218_2); (try simp only [show (1 : Int).toNat = 1 from rfl, Nat.reduceMul, Nat.reduceEqDiff, Go.Addr.add, ↓reduceIte] at hx218_3); have qi218 : (1 < t203.length) = True := eq_true (by omega); (try rw [show ((1 : Int)).toNat = 1 from rfl] at hx218_0); (try rw [show 1 * 4 = 4 from rfl] at hx218_0); (try rw [show ((1 : Int)).toNat = 1 from rfl] at hx218_1); (try rw [show 1 * 4 = 4 from rfl] at hx218_1); (try rw [show ((1 : Int)).toNat = 1 from rfl] at hx218_2); (try rw [show 1 * 4 = 4 from rfl] at hx218_2); (try rw [show ((1 : Int)).toNat = 1 from rfl] at hx218_3); (try rw [show 1 * 4 = 4 from rfl] at hx218_3); replace p218 := eq_true p218; replace q218 := eq_true q218; obtain ⟨Ao28, co28, eo28⟩ := Kd.R_slice HO212.out; subst eo28; have p219 : 0 ≤ (0 : Int) := (by omega); have q219 : 0 < (t208.length : Int) := ode; obtain ⟨ad219, e219, hx219_0, hx219_1, hx219_2, hx219_3⟩ := at_T31 (Kd.R_reads' HO212.out).2.2 0 p219 q219; cases e219; have qi219 : (0 < t208.length) = True := eq_true (by omega); (try rw [show ((0 : Int)).toNat = 0 from rfl] at hx219_0); (try rw [show 0 * 4 = 0 from rfl] at hx219_0); (try rw [Addr.add_zero'] at hx219_0); (try rw [show ((0 : Int)).toNat = 0 from rfl] at hx219_1); (try rw [show 0 * 4 = 0 from rfl] at hx219_1); (try rw [Addr.add_zero'] at hx219_1); (try rw [show ((0 : Int)).toNat = 0 from rfl] at hx219_2); (try rw [show 0 * 4 = 0 from rfl] at hx219_2); (try rw [Addr.add_zero'] at hx219_2); (try rw [show ((0 : Int)).toNat = 0 from rfl] at hx219_3); (try rw [show 0 * 4 = 0 from rfl] at hx219_3); (try rw [Addr.add_zero'] at hx219_3); replace p219 := eq_true p219; replace q219 := eq_true q219; have p220 : 0 ≤ (1 : Int) := (by omega); have q220 : 1 < (t208.length : Int) := ode; obtain ⟨ad220, e220, hx220_0, hx220_1, hx220_2, hx220_3⟩ := at_T31 (Kd.R_reads' HO212.out).2.2 1 p220 q220; obtain rfl : ad219 = ad220 := (by injection e220); (try simp only [show (1 : Int).toNat = 1 from rfl, Nat.reduceMul, Nat.reduceEqDiff, Go.Addr.add, ↓reduceIte] at hx220_0); (try simp only [show (1 : Int).toNat = 1 from rfl, Nat.reduceMul, Nat.reduceEqDiff, Go.Addr.add, ↓reduceIte] at hx220_1); (try simp only [show (1 : Int).toNat = 1 from rfl, Nat.reduceMul, Nat.reduceEqDiff, Go.Addr.add, ↓reduceIte] at hx220_2); (try simp only [show (1 : Int).toNat = 1 from rfl, Nat.reduceMul, Nat.reduceEqDiff, Go.Addr.add, ↓reduceIte] at hx220_3); have qi220 : (1 < t208.length) = True := eq_true (by omega); (try rw [show ((1 : Int)).toNat = 1 from rfl] at hx220_0); (try rw [show 1 * 4 = 4 from rfl] at hx220_0); (try rw [show ((1 : Int)).toNat = 1 from rfl] at hx220_1); (try rw [show 1 * 4 = 4 from rfl] at hx220_1); (try rw [show ((1 : Int)).toNat = 1 from rfl] at hx220_2); (try rw [show 1 * 4 = 4 from rfl] at hx220_2); (try rw [show ((1 : Int)).toNat = 1 from rfl] at hx220_3); (try rw [show 1 * 4 = 4 from rfl] at hx220_3); replace p220 := eq_true p220; replace q220 := eq_true q220))
                            go_ret
                            exact ⟨by first | rfl | (simp [errW_none, errW_some] <;> rfl) | (simp [*, errW_none, errW_some] <;> rfl), bw⟩
                        · rw [if_neg c15] at H
                          have c15b0 : (t214 == 3) = false := beq_eq_false_iff_ne.mpr c15
                          have c15b1 : (t214 != 3) = true := bne_iff_ne.mpr c15
                          obtain rfl := Option.some.inj H
                          go_enter Tryd.func14, Tryd.ntmps14
                          go_wp2_with (first | ((with_reducible refine gate_callee (f := 13) rfl ?_); refine goesL_ (some 11) rfl rfl Tryd.func13 (by kernel_rfl) rfl #[.string (⟨#[35, 44, 35, 35, 48]⟩ : ByteArray)] rfl (by (try simp only [List.map_toArray, List.map_cons, List.map_nil]); first | done | rfl | (simp only [List.length_drop, List.length_take]; rfl)) ?_; (with_reducible refine (token_All.calls k (⟨#[35, 44, 35, 35, 48]⟩ : ByteArray) t203 t204 t205 _ A1.out ?side1).mono ?_); (case side1 => exact Laid.below HLd.out bw); rintro e w29 ⟨v206, rfl, ho0, hb⟩; refine ⟨_, rfl, ?_⟩; have n0_ := Aside0.mk (Kd.R_lower ho0 (below_size bw)); have n1_ := Aside0.mk (below_step bw hb); clear HB; have HO207 := n0_; have HB := n1_; clear n0_ n1_; (try clear hb); (try clear hb2); (try clear hk); (try clear hi); (try clear ho0)) | ((with_reducible refine gate_callee (f := 13) rfl ?_); refine goesL_ (some 16) rfl rfl Tryd.func13 (by kernel_rfl) rfl #[.string (⟨#[109, 109, 109, 34, 120, 34]⟩ : ByteArray)] rfl (by (try simp only [List.map_toArray, List.map_cons, List.map_nil]); first | done | rfl | (simp only [List.length_drop, List.length_take]; rfl)) ?_; (with_reducible refine (token_All.calls k (⟨#[109, 109, 109, 34, 120, 34]⟩ : ByteArray) t208 t209 t210 _ A2.out ?side1).mono ?_); (case side1 => exact Laid.below HLd.out bw); rintro e w30 ⟨v211, rfl, ho0, hb⟩; refine ⟨_, rfl, ?_⟩; have n0_ := Aside0.mk (Kd.R_elder' (kr HO207) (Kd.R_base ho0) hb); have n1_ := Aside0.mk (Kd.R_lower (Kd.R_new' ho0 (Kd.R_lt (kr HO207))) (below_size bw)); have n2_ := Aside0.mk (below_step bw hb); clear HO207; clear HB; have HO207 := n0_; have HO212 := n1_; have HB := n2_; clear n0_ n1_ n2_; (try clear hb); (try clear hb2); (try clear hk); (try clear hi); (try clear ho0)) | ((with_reducible refine gate_callee (f := 13) rfl ?_); refine goesL_ (some 21) rfl rfl Tryd.func13 (by kernel_rfl) rfl #[.string (⟨#[48, 34, 97]⟩ : ByteArray)] rfl (by (try simp only [List.map_toArray, List.map_cons, List.map_nil]); first | done | rfl | (simp only [List.length_drop, List.length_take]; rfl)) ?_; (with_reducible refine (token_All.calls k (⟨#[48, 34, 97]⟩ : ByteArray) t213 t214 t215 _ A3.out ?side1).mono ?_); (case side1 => exact Laid.below HLd.out bw); rintro e w31 ⟨v216, rfl, ho0, hb⟩; refine ⟨_, rfl, ?_⟩; have n0_ := Aside0.mk (Kd.R_elder' (kr HO207) (Kd.R_base ho0) hb); have n1_ := Aside0.mk (Kd.R_elder' (kr HO212) (Kd.R_base ho0) hb); have n2_ := Aside0.mk (Kd.R_lower (Kd.R_new' (Kd.R_new' ho0 (Kd.R_lt (kr HO207))) (Kd.R_lt (kr HO212))) (below_size bw)); have n3_ := Aside0.mk (below_step bw hb); clear HO207; clear HO212; clear HB; have HO207 := n0_; have HO212 := n1_; have HO217 := n2_; have HB := n3_; clear n0_ n1_ n2_ n3_; (try clear hb); (try clear hb2); (try clear hk); (try clear hi); (try clear ho0); obtain ⟨Ao32, co32, eo32⟩ := Kd.R_slice HO207.out; subst eo32; have p218 : 0 ≤ (1 : Int) := (by omega); have q218 : 1 < (t203.length : Int) := ode; obtain ⟨ad218, e218, hx218_0, hx218_1, hx218_2, hx218_3⟩ := at_T31 (Kd.R_reads' HO207.out).2.2 1 p218 q218; cases e218; (try simp only [show (1 : Int).toNat = 1 from rfl, Nat.reduceMul, Nat.reduceEqDiff, Go.Addr.add, ↓reduceIte] at hx218_0); (try simp only [show (1 : Int).toNat = 1 from rfl, Nat.reduceMul, Nat.reduceEqDiff, Go.Addr.add, ↓reduceIte] at hx218_1); (try simp only [show (1 : Int).toNat = 1 from rfl, Nat.reduceMul, Nat.reduceEqDiff, Go.Addr.add, ↓reduceIte] at hx218_2); (try simp only [show (1 : Int).toNat = 1 from rfl, Nat.reduceMul, Nat.reduceEqDiff, Go.Addr.add, ↓reduceIte] at hx218_3); have qi218 : (1 < t203.length) = True := eq_true (by omega); (try rw [show ((1 : Int)).toNat = 1 from rfl] at hx218_0); (try rw [show 1 * 4 = 4 from rfl] at hx218_0); (try rw [show ((1 : Int)).toNat = 1 from rfl] at hx218_1); (try rw [show 1 * 4 = 4 from rfl] at hx218_1); (try rw [show ((1 : Int)).toNat = 1 from rfl] at hx218_2); (try rw [show 1 * 4 = 4 from rfl] at hx218_2); (try rw [show ((1 : Int)).toNat = 1 from rfl] at hx218_3); (try rw [show 1 * 4 = 4 from rfl] at hx218_3); replace p218 := eq_true p218; replace q218 := eq_true q218; obtain ⟨Ao33, co33, eo33⟩ := Kd.R_slice HO212.out; subst eo33; have p219 : 0 ≤ (0 : Int) := (by omega); have q219 : 0 < (t208.length : Int) := ode; obtain ⟨ad219, e219, hx219_0, hx219_1, hx219_2, hx219_3⟩ := at_T31 (Kd.R_reads' HO212.out).2.2 0 p219 q219; cases e219; have qi219 : (0 < t208.length) = True := eq_true (by omega); (try rw [show ((0 : Int)).toNat = 0 from rfl] at hx219_0); (try rw [show 0 * 4 = 0 from rfl] at hx219_0); (try rw [Addr.add_zero'] at hx219_0); (try rw [show ((0 : Int)).toNat = 0 from rfl] at hx219_1); (try rw [show 0 * 4 = 0 from rfl] at hx219_1); (try rw [Addr.add_zero'] at hx219_1); (try rw [show ((0 : Int)).toNat = 0 from rfl] at hx219_2); (try rw [show 0 * 4 = 0 from rfl] at hx219_2); (try rw [Addr.add_zero'] at hx219_2); (try rw [show ((0 : Int)).toNat = 0 from rfl] at hx219_3); (try rw [show 0 * 4 = 0 from rfl] at hx219_3); (try rw [Addr.add_zero'] at hx219_3); replace p219 := eq_true p219; replace q219 := eq_true q219; have p220 : 0 ≤ (1 : Int) := (by omega); have q220 : 1 < (t208.length : Int) := ode; obtain ⟨ad220, e220, hx220_0, hx220_1, hx220_2, hx220_3⟩ := at_T31 (Kd.R_reads' HO212.out).2.2 1 p220 q220; obtain rfl : ad219 = ad220 := (by injection e220); (try simp only [show (1 : Int).toNat = 1 from rfl, Nat.reduceMul, Nat.reduceEqDiff, Go.Addr.add, ↓reduceIte] at hx220_0); (try simp only [show (1 : Int).toNat = 1 from rfl, Nat.reduceMul, Nat.reduceEqDiff, Go.Addr.add, ↓reduceIte] at hx220_1); (try simp only [show (1 : Int).toNat = 1 from rfl, Nat.reduceMul, Nat.reduceEqDiff, Go.Addr.add, ↓reduceIte] at hx220_2); (try simp only [show (1 : Int).toNat = 1 from rfl, Nat.reduceMul, Nat.reduceEqDiff, Go.Addr.add, ↓reduceIte] at hx220_3); have qi220 : (1 < t208.length) = True := eq_true (by omega); (try rw [show ((1 : Int)).toNat = 1 from rfl] at hx220_0); (try rw [show 1 * 4 = 4 from rfl] at hx220_0); (try rw [show ((1 : Int)).toNat = 1 from rfl] at hx220_1); (try rw [show 1 * 4 = 4 from rfl] at hx220_1); (try rw [show ((1 : Int)).toNat = 1 from rfl] at hx220_2); (try rw [show 1 * 4 = 4 from rfl] at hx220_2); (try rw [show ((1 : Int)).toNat = 1 from rfl] at hx220_3); (try rw [show 1 * 4 = 4 from rfl] at hx220_3); replace p220 := eq_true p220; replace q220 := eq_true q220))
                          go_ret
                          exact ⟨by first | rfl | (simp [errW_none, errW_some] <;> rfl) | (simp [*, errW_none, errW_some] <;> rfl), bw⟩
                      · rw [if_neg c14] at H
                        have c14b0 : (((rd_T31 t208 1).f1).toList == ([120] : List UInt8)) = false := beq_eq_false_iff_ne.mpr c14
                        have c14b1 : (((rd_T31 t208 1).f1).toList != ([120] : List UInt8)) = true := bne_iff_ne.mpr c14
                        obtain rfl := Option.some.inj H
                        go_enter Tryd.func14, Tryd.ntmps14
                        go_wp2_with (first | ((with_reducible refine gate_callee (f := 13) rfl ?_); refine goesL_ (some 11) rfl rfl Tryd.func13 (by kernel_rfl) rfl #[.string (⟨#[35, 44, 35, 35, 48]⟩ : ByteArray)] rfl (by (try simp only [List.map_toArray, List.map_cons, List.map_nil]); first | done | rfl | (simp only [List.length_drop, List.length_take]; rfl)) ?_; (with_reducible refine (token_All.calls k (⟨#[35, 44, 35, 35, 48]⟩ : ByteArray) t203 t204 t205 _ A1.out ?side1).mono ?_); (case side1 => exact Laid.below HLd.out bw); rintro e w34 ⟨v206, rfl, ho0, hb⟩; refine ⟨_, rfl, ?_⟩; have n0_ := Aside0.mk (Kd.R_lower ho0 (below_size bw)); have n1_ := Aside0.mk (below_step bw hb); clear HB; have HO207 := n0_; have HB := n1_; clear n0_ n1_; (try clear hb); (try clear hb2); (try clear hk); (try clear hi); (try clear ho0)) | ((with_reducible refine gate_callee (f := 13) rfl ?_); refine goesL_ (some 16) rfl rfl Tryd.func13 (by kernel_rfl) rfl #[.string (⟨#[109, 109, 109, 34, 120, 34]⟩ : ByteArray)] rfl (by (try simp only [List.map_toArray, List.map_cons, List.map_nil]); first | done | rfl | (simp only [List.length_drop, List.length_take]; rfl)) ?_; (with_reducible refine (token_All.calls k (⟨#[109, 109, 109, 34, 120, 34]⟩ : ByteArray) t208 t209 t210 _ A2.out ?side1).mono ?_); (case side1 => exact Laid.below HLd.out bw); rintro e w35 ⟨v211, rfl, ho0, hb⟩; refine ⟨_, rfl, ?_⟩; have n0_ := Aside0.mk (Kd.R_elder' (kr HO207) (Kd.R_base ho0) hb); have n1_ := Aside0.mk (Kd.R_lower (Kd.R_new' ho0 (Kd.R_lt (kr HO207))) (below_size bw)); have n2_ := Aside0.mk (below_step bw hb); clear HO207; clear HB; have HO207 := n0_; have HO212 := n1_; have HB := n2_; clear n0_ n1_ n2_; (try clear hb); (try clear hb2); (try clear hk); (try clear hi); (try clear ho0)) | ((with_reducible refine gate_callee (f := 13) rfl ?_); refine goesL_ (some 21) rfl rfl Tryd.func13 (by kernel_rfl) rfl #[.string (⟨#[48, 34, 97]⟩ : ByteArray)] rfl (by (try simp only [List.map_toArray, List.map_cons, List.map_nil]); first | done | rfl | (simp only [List.length_drop, List.length_take]; rfl)) ?_; (with_reducible refine (token_All.calls k (⟨#[48, 34, 97]⟩ : ByteArray) t213 t214 t215 _ A3.out ?side1).mono ?_); (case side1 => exact Laid.below HLd.out bw); rintro e w36 ⟨v216, rfl, ho0, hb⟩; refine ⟨_, rfl, ?_⟩; have n0_ := Aside0.mk (Kd.R_elder' (kr HO207) (Kd.R_base ho0) hb); have n1_ := Aside0.mk (Kd.R_elder' (kr HO212) (Kd.R_base ho0) hb); have n2_ := Aside0.mk (Kd.R_lower (Kd.R_new' (Kd.R_new' ho0 (Kd.R_lt (kr HO207))) (Kd.R_lt (kr HO212))) (below_size bw)); have n3_ := Aside0.mk (below_step bw hb); clear HO207; clear HO212; clear HB; have HO207 := n0_; have HO212 := n1_; have HO217 := n2_; have HB := n3_; clear n0_ n1_ n2_ n3_; (try clear hb); (try clear hb2); (try clear hk); (try clear hi); (try clear ho0); obtain ⟨Ao37, co37, eo37⟩ := Kd.R_slice HO207.out; subst eo37; have p218 : 0 ≤ (1 : Int) := (by omega); have q218 : 1 < (t203.length : Int) := ode; obtain ⟨ad218, e218, hx218_0, hx218_1, hx218_2, hx218_3⟩ := at_T31 (Kd.R_reads' HO207.out).2.2 1 p218 q218; cases e218; (try simp only [show (1 : Int).toNat = 1 from rfl, Nat.reduceMul, Nat.reduceEqDiff, Go.Addr.add, ↓reduceIte] at hx218_0); (try simp only [show (1 : Int).toNat = 1 from rfl, Nat.reduceMul, Nat.reduceEqDiff, Go.Addr.add, ↓reduceIte] at hx218_1); (try simp only [show (1 : Int).toNat = 1 from rfl, Nat.reduceMul, Nat.reduceEqDiff, Go.Addr.add, ↓reduceIte] at hx218_2); (try simp only [show (1 : Int).toNat = 1 from rfl, Nat.reduceMul, Nat.reduceEqDiff, Go.Addr.add, ↓reduceIte] at hx218_3); have qi218 : (1 < t203.length) = True := eq_true (by omega); (try rw [show ((1 : Int)).toNat = 1 from rfl] at hx218_0); (try rw [show 1 * 4 = 4 from rfl] at hx218_0); (try rw [show ((1 : Int)).toNat = 1 from rfl] at hx218_1); (try rw [show 1 * 4 = 4 from rfl] at hx218_1); (try rw [show ((1 : Int)).toNat = 1 from rfl] at hx218_2); (try rw [show 1 * 4 = 4 from rfl] at hx218_2); (try rw [show ((1 : Int)).toNat = 1 from rfl] at hx218_3); (try rw [show 1 * 4 = 4 from rfl] at hx218_3); replace p218 := eq_true p218; replace q218 := eq_true q218; obtain ⟨Ao38, co38, eo38⟩ := Kd.R_slice HO212.out; subst eo38; have p219 : 0 ≤ (0 : Int) := (by omega); have q219 : 0 < (t208.length : Int) := ode; obtain ⟨ad219, e219, hx219_0, hx219_1, hx219_2, hx219_3⟩ := at_T31 (Kd.R_reads' HO212.out).2.2 0 p219 q219; cases e219; have qi219 : (0 < t208.length) = True := eq_true (by omega); (try rw [show ((0 : Int)).toNat = 0 from rfl] at hx219_0); (try rw [show 0 * 4 = 0 from rfl] at hx219_0); (try rw [Addr.add_zero'] at hx219_0); (try rw [show ((0 : Int)).toNat = 0 from rfl] at hx219_1); (try rw [show 0 * 4 = 0 from rfl] at hx219_1); (try rw [Addr.add_zero'] at hx219_1); (try rw [show ((0 : Int)).toNat = 0 from rfl] at hx219_2); (try rw [show 0 * 4 = 0 from rfl] at hx219_2); (try rw [Addr.add_zero'] at hx219_2); (try rw [show ((0 : Int)).toNat = 0 from rfl] at hx219_3); (try rw [show 0 * 4 = 0 from rfl] at hx219_3); (try rw [Addr.add_zero'] at hx219_3); replace p219 := eq_true p219; replace q219 := eq_true q219; have p220 : 0 ≤ (1 : Int) := (by omega); have q220 : 1 < (t208.length : Int) := ode; obtain ⟨ad220, e220, hx220_0, hx220_1, hx220_2, hx220_3⟩ := at_T31 (Kd.R_reads' HO212.out).2.2 1 p220 q220; obtain rfl : ad219 = ad220 := (by injection e220); (try simp only [show (1 : Int).toNat = 1 from rfl, Nat.reduceMul, Nat.reduceEqDiff, Go.Addr.add, ↓reduceIte] at hx220_0); (try simp only [show (1 : Int).toNat = 1 from rfl, Nat.reduceMul, Nat.reduceEqDiff, Go.Addr.add, ↓reduceIte] at hx220_1); (try simp only [show (1 : Int).toNat = 1 from rfl, Nat.reduceMul, Nat.reduceEqDiff, Go.Addr.add, ↓reduceIte] at hx220_2); (try simp only [show (1 : Int).toNat = 1 from rfl, Nat.reduceMul, Nat.reduceEqDiff, Go.Addr.add, ↓reduceIte] at hx220_3); have qi220 : (1 < t208.length) = True := eq_true (by omega); (try rw [show ((1 : Int)).toNat = 1 from rfl] at hx220_0); (try rw [show 1 * 4 = 4 from rfl] at hx220_0); (try rw [show ((1 : Int)).toNat = 1 from rfl] at hx220_1); (try rw [show 1 * 4 = 4 from rfl] at hx220_1); (try rw [show ((1 : Int)).toNat = 1 from rfl] at hx220_2); (try rw [show 1 * 4 = 4 from rfl] at hx220_2); (try rw [show ((1 : Int)).toNat = 1 from rfl] at hx220_3); (try rw [show 1 * 4 = 4 from rfl] at hx220_3); replace p220 := eq_true p220; replace q220 := eq_true q220))
                        go_ret
                        exact ⟨by first | rfl | (simp [errW_none, errW_some] <;> rfl) | (simp [*, errW_none, errW_some] <;> rfl), bw⟩
                    · rw [if_neg c13] at H
                      exact absurd H (by simp)
                  · rw [if_neg c12] at H
                    have c12b0 : (((rd_T31 t208 0).f2) == 3) = false := beq_eq_false_iff_ne.mpr c12
                    have c12b1 : (((rd_T31 t208 0).f2) != 3) = true := bne_iff_ne.mpr c12
                    obtain rfl := Option.some.inj H
                    go_enter Tryd.func14, Tryd.ntmps14
                    go_wp2_with (first | ((with_reducible refine gate_callee (f := 13) rfl ?_); refine goesL_ (some 11) rfl rfl Tryd.func13 (by kernel_rfl) rfl #[.string (⟨#[35, 44, 35, 35, 48]⟩ : ByteArray)] rfl (by (try simp only [List.map_toArray, List.map_cons, List.map_nil]); first | done | rfl | (simp only [List.length_drop, List.length_take]; rfl)) ?_; (with_reducible refine (token_All.calls k (⟨#[35, 44, 35, 35, 48]⟩ : ByteArray) t203 t204 t205 _ A1.out ?side1).mono ?_); (case side1 => exact Laid.below HLd.out bw); rintro e w39 ⟨v206, rfl, ho0, hb⟩; refine ⟨_, rfl, ?_⟩; have n0_ := Aside0.mk (Kd.R_lower ho0 (below_size bw)); have n1_ := Aside0.mk (below_step bw hb); clear HB; have HO207 := n0_; have HB := n1_; clear n0_ n1_; (try clear hb); (try clear hb2); (try clear hk); (try clear hi); (try clear ho0)) | ((with_reducible refine gate_callee (f := 13) rfl ?_); refine goesL_ (some 16) rfl rfl Tryd.func13 (by kernel_rfl) rfl #[.string (⟨#[109, 109, 109, 34, 120, 34]⟩ : ByteArray)] rfl (by (try simp only [List.map_toArray, List.map_cons, List.map_nil]); first | done | rfl | (simp only [List.length_drop, List.length_take]; rfl)) ?_; (with_reducible refine (token_All.calls k (⟨#[109, 109, 109, 34, 120, 34]⟩ : ByteArray) t208 t209 t210 _ A2.out ?side1).mono ?_); (case side1 => exact Laid.below HLd.out bw); rintro e w40 ⟨v211, rfl, ho0, hb⟩; refine ⟨_, rfl, ?_⟩; have n0_ := Aside0.mk (Kd.R_elder' (kr HO207) (Kd.R_base ho0) hb); have n1_ := Aside0.mk (Kd.R_lower (Kd.R_new' ho0 (Kd.R_lt (kr HO207))) (below_size bw)); have n2_ := Aside0.mk (below_step bw hb); clear HO207; clear HB; have HO207 := n0_; have HO212 := n1_; have HB := n2_; clear n0_ n1_ n2_; (try clear hb); (try clear hb2); (try clear hk); (try clear hi); (try clear ho0)) | ((with_reducible refine gate_callee (f := 13) rfl ?_); refine goesL_ (some 21) rfl rfl Tryd.func13 (by kernel_rfl) rfl #[.string (⟨#[48, 34, 97]⟩ : ByteArray)] rfl (by (try simp only [List.map_toArray, List.map_cons, List.map_nil]); first | done | rfl | (simp only [List.length_drop, List.length_take]; rfl)) ?_; (with_reducible refine (token_All.calls k (⟨#[48, 34, 97]⟩ : ByteArray) t213 t214 t215 _ A3.out ?side1).mono ?_); (case side1 => exact Laid.below HLd.out bw); rintro e w41 ⟨v216, rfl, ho0, hb⟩; refine ⟨_, rfl, ?_⟩; have n0_ := Aside0.mk (Kd.R_elder' (kr HO207) (Kd.R_base ho0) hb); have n1_ := Aside0.mk (Kd.R_elder' (kr HO212) (Kd.R_base ho0) hb); have n2_ := Aside0.mk (Kd.R_lower (Kd.R_new' (Kd.R_new' ho0 (Kd.R_lt (kr HO207))) (Kd.R_lt (kr HO212))) (below_size bw)); have n3_ := Aside0.mk (below_step bw hb); clear HO207; clear HO212; clear HB; have HO207 := n0_; have HO212 := n1_; have HO217 := n2_; have HB := n3_; clear n0_ n1_ n2_ n3_; (try clear hb); (try clear hb2); (try clear hk); (try clear hi); (try clear ho0); obtain ⟨Ao42, co42, eo42⟩ := Kd.R_slice HO207.out; subst eo42; have p218 : 0 ≤ (1 : Int) := (by omega); have q218 : 1 < (t203.length : Int) := ode; obtain ⟨ad218, e218, hx218_0, hx218_1, hx218_2, hx218_3⟩ := at_T31 (Kd.R_reads' HO207.out).2.2 1 p218 q218; cases e218; (try simp only [show (1 : Int).toNat = 1 from rfl, Nat.reduceMul, Nat.reduceEqDiff, Go.Addr.add, ↓reduceIte] at hx218_0); (try simp only [show (1 : Int).toNat = 1 from rfl, Nat.reduceMul, Nat.reduceEqDiff, Go.Addr.add, ↓reduceIte] at hx218_1); (try simp only [show (1 : Int).toNat = 1 from rfl, Nat.reduceMul, Nat.reduceEqDiff, Go.Addr.add, ↓reduceIte] at hx218_2); (try simp only [show (1 : Int).toNat = 1 from rfl, Nat.reduceMul, Nat.reduceEqDiff, Go.Addr.add, ↓reduceIte] at hx218_3); have qi218 : (1 < t203.length) = True := eq_true (by omega); (try rw [show ((1 : Int)).toNat = 1 from rfl] at hx218_0); (try rw [show 1 * 4 = 4 from rfl] at hx218_0); (try rw [show ((1 : Int)).toNat = 1 from rfl] at hx218_1); (try rw [show 1 * 4 = 4 from rfl] at hx218_1); (try rw [show ((1 : Int)).toNat = 1 from rfl] at hx218_2); (try rw [show 1 * 4 = 4 from rfl] at hx218_2); (try rw [show ((1 : Int)).toNat = 1 from rfl] at hx218_3); (try rw [show 1 * 4 = 4 from rfl] at hx218_3); replace p218 := eq_true p218; replace q218 := eq_true q218; obtain ⟨Ao43, co43, eo43⟩ := Kd.R_slice HO212.out; subst eo43; have p219 : 0 ≤ (0 : Int) := (by omega); have q219 : 0 < (t208.length : Int) := ode; obtain ⟨ad219, e219, hx219_0, hx219_1, hx219_2, hx219_3⟩ := at_T31 (Kd.R_reads' HO212.out).2.2 0 p219 q219; cases e219; have qi219 : (0 < t208.length) = True := eq_true (by omega); (try rw [show ((0 : Int)).toNat = 0 from rfl] at hx219_0); (try rw [show 0 * 4 = 0 from rfl] at hx219_0); (try rw [Addr.add_zero'] at hx219_0); (try rw [show ((0 : Int)).toNat = 0 from rfl] at hx219_1); (try rw [show 0 * 4 = 0 from rfl] at hx219_1); (try rw [Addr.add_zero'] at hx219_1); (try rw [show ((0 : Int)).toNat = 0 from rfl] at hx219_2); (try rw [show 0 * 4 = 0 from rfl] at hx219_2); (try rw [Addr.add_zero'] at hx219_2); (try rw [show ((0 : Int)).toNat = 0 from rfl] at hx219_3); (try rw [show 0 * 4 = 0 from rfl] at hx219_3); (try rw [Addr.add_zero'] at hx219_3); replace p219 := eq_true p219; replace q219 := eq_true q219))
                    go_ret
                    exact ⟨by first | rfl | (simp [errW_none, errW_some] <;> rfl) | (simp [*, errW_none, errW_some] <;> rfl), bw⟩
                · rw [if_neg c11] at H
                  exact absurd H (by simp)
              · rw [if_neg c10] at H
                have c10b0 : ((t208.length : Int) == 2) = false := beq_eq_false_iff_ne.mpr c10
                have c10b1 : ((t208.length : Int) != 2) = true := bne_iff_ne.mpr c10
                obtain rfl := Option.some.inj H
                go_enter Tryd.func14, Tryd.ntmps14
                go_wp2_with (first | ((with_reducible refine gate_callee (f := 13) rfl ?_); refine goesL_ (some 11) rfl rfl Tryd.func13 (by kernel_rfl) rfl #[.string (⟨#[35, 44, 35, 35, 48]⟩ : ByteArray)] rfl (by (try simp only [List.map_toArray, List.map_cons, List.map_nil]); first | done | rfl | (simp only [List.length_drop, List.length_take]; rfl)) ?_; (with_reducible refine (token_All.calls k (⟨#[35, 44, 35, 35, 48]⟩ : ByteArray) t203 t204 t205 _ A1.out ?side1).mono ?_); (case side1 => exact Laid.below HLd.out bw); rintro e w44 ⟨v206, rfl, ho0, hb⟩; refine ⟨_, rfl, ?_⟩; have n0_ := Aside0.mk (Kd.R_lower ho0 (below_size bw)); have n1_ := Aside0.mk (below_step bw hb); clear HB; have HO207 := n0_; have HB := n1_; clear n0_ n1_; (try clear hb); (try clear hb2); (try clear hk); (try clear hi); (try clear ho0)) | ((with_reducible refine gate_callee (f := 13) rfl ?_); refine goesL_ (some 16) rfl rfl Tryd.func13 (by kernel_rfl) rfl #[.string (⟨#[109, 109, 109, 34, 120, 34]⟩ : ByteArray)] rfl (by (try simp only [List.map_toArray, List.map_cons, List.map_nil]); first | done | rfl | (simp only [List.length_drop, List.length_take]; rfl)) ?_; (with_reducible refine (token_All.calls k (⟨#[109, 109, 109, 34, 120, 34]⟩ : ByteArray) t208 t209 t210 _ A2.out ?side1).mono ?_); (case side1 => exact Laid.below HLd.out bw); rintro e w45 ⟨v211, rfl, ho0, hb⟩; refine ⟨_, rfl, ?_⟩; have n0_ := Aside0.mk (Kd.R_elder' (kr HO207) (Kd.R_base ho0) hb); have n1_ := Aside0.mk (Kd.R_lower (Kd.R_new' ho0 (Kd.R_lt (kr HO207))) (below_size bw)); have n2_ := Aside0.mk (below_step bw hb); clear HO207; clear HB; have HO207 := n0_; have HO212 := n1_; have HB := n2_; clear n0_ n1_ n2_; (try clear hb); (try clear hb2); (try clear hk); (try clear hi); (try clear ho0)) | ((with_reducible refine gate_callee (f := 13) rfl ?_); refine goesL_ (some 21) rfl rfl Tryd.func13 (by kernel_rfl) rfl #[.string (⟨#[48, 34, 97]⟩ : ByteArray)] rfl (by (try simp only [List.map_toArray, List.map_cons, List.map_nil]); first | done | rfl | (simp only [List.length_drop, List.length_take]; rfl)) ?_; (with_reducible refine (token_All.calls k (⟨#[48, 34, 97]⟩ : ByteArray) t213 t214 t215 _ A3.out ?side1).mono ?_); (case side1 => exact Laid.below HLd.out bw); rintro e w46 ⟨v216, rfl, ho0, hb⟩; refine ⟨_, rfl, ?_⟩; have n0_ := Aside0.mk (Kd.R_elder' (kr HO207) (Kd.R_base ho0) hb); have n1_ := Aside0.mk (Kd.R_elder' (kr HO212) (Kd.R_base ho0) hb); have n2_ := Aside0.mk (Kd.R_lower (Kd.R_new' (Kd.R_new' ho0 (Kd.R_lt (kr HO207))) (Kd.R_lt (kr HO212))) (below_size bw)); have n3_ := Aside0.mk (below_step bw hb); clear HO207; clear HO212; clear HB; have HO207 := n0_; have HO212 := n1_; have HO217 := n2_; have HB := n3_; clear n0_ n1_ n2_ n3_; (try clear hb); (try clear hb2); (try clear hk); (try clear hi); (try clear ho0); obtain ⟨Ao47, co47, eo47⟩ := Kd.R_slice HO207.out; subst eo47; have p218 : 0 ≤ (1 : Int) := (by omega); have q218 : 1 < (t203.length : Int) := ode; obtain ⟨ad218, e218, hx218_0, hx218_1, hx218_2, hx218_3⟩ := at_T31 (Kd.R_reads' HO207.out).2.2 1 p218 q218; cases e218; (try simp only [show (1 : Int).toNat = 1 from rfl, Nat.reduceMul, Nat.reduceEqDiff, Go.Addr.add, ↓reduceIte] at hx218_0); (try simp only [show (1 : Int).toNat = 1 from rfl, Nat.reduceMul, Nat.reduceEqDiff, Go.Addr.add, ↓reduceIte] at hx218_1); (try simp only [show (1 : Int).toNat = 1 from rfl, Nat.reduceMul, Nat.reduceEqDiff, Go.Addr.add, ↓reduceIte] at hx218_2); (try simp only [show (1 : Int).toNat = 1 from rfl, Nat.reduceMul, Nat.reduceEqDiff, Go.Addr.add, ↓reduceIte] at hx218_3); have qi218 : (1 < t203.length) = True := eq_true (by omega); (try rw [show ((1 : Int)).toNat = 1 from rfl] at hx218_0); (try rw [show 1 * 4 = 4 from rfl] at hx218_0); (try rw [show ((1 : Int)).toNat = 1 from rfl] at hx218_1); (try rw [show 1 * 4 = 4 from rfl] at hx218_1); (try rw [show ((1 : Int)).toNat = 1 from rfl] at hx218_2); (try rw [show 1 * 4 = 4 from rfl] at hx218_2); (try rw [show ((1 : Int)).toNat = 1 from rfl] at hx218_3); (try rw [show 1 * 4 = 4 from rfl] at hx218_3); replace p218 := eq_true p218; replace q218 := eq_true q218; obtain ⟨Ao48, co48, eo48⟩ := Kd.R_slice HO212.out; subst eo48))
                go_ret
                exact ⟨by first | rfl | (simp [errW_none, errW_some] <;> rfl) | (simp [*, errW_none, errW_some] <;> rfl), bw⟩
            · rw [if_neg c9] at H
              have c9b0 : (t210 == 0) = false := beq_eq_false_iff_ne.mpr c9
              have c9b1 : (t210 != 0) = true := bne_iff_ne.mpr c9
              obtain rfl := Option.some.inj H
              go_enter Tryd.func14, Tryd.ntmps14
              go_wp2_with (first | ((with_reducible refine gate_callee (f := 13) rfl ?_); refine goesL_ (some 11) rfl rfl Tryd.func13 (by kernel_rfl) rfl #[.string (⟨#[35, 44, 35, 35, 48]⟩ : ByteArray)] rfl (by (try simp only [List.map_toArray, List.map_cons, List.map_nil]); first | done | rfl | (simp only [List.length_drop, List.length_take]; rfl)) ?_; (with_reducible refine (token_All.calls k (⟨#[35, 44, 35, 35, 48]⟩ : ByteArray) t203 t204 t205 _ A1.out ?side1).mono ?_); (case side1 => exact Laid.below HLd.out bw); rintro e w49 ⟨v206, rfl, ho0, hb⟩; refine ⟨_, rfl, ?_⟩; have n0_ := Aside0.mk (Kd.R_lower ho0 (below_size bw)); have n1_ := Aside0.mk (below_step bw hb); clear HB; have HO207 := n0_; have HB := n1_; clear n0_ n1_; (try clear hb); (try clear hb2); (try clear hk); (try clear hi); (try clear ho0)) | ((with_reducible refine gate_callee (f := 13) rfl ?_); refine goesL_ (some 16) rfl rfl Tryd.func13 (by kernel_rfl) rfl #[.string (⟨#[109, 109, 109, 34, 120, 34]⟩ : ByteArray)] rfl (by (try simp only [List.map_toArray, List.map_cons, List.map_nil]); first | done | rfl | (simp only [List.length_drop, List.length_take]; rfl)) ?_; (with_reducible refine (token_All.calls k (⟨#[109, 109, 109, 34, 120, 34]⟩ : ByteArray) t208 t209 t210 _ A2.out ?side1).mono ?_); (case side1 => exact Laid.below HLd.out bw); rintro e w50 ⟨v211, rfl, ho0, hb⟩; refine ⟨_, rfl, ?_⟩; have n0_ := Aside0.mk (Kd.R_elder' (kr HO207) (Kd.R_base ho0) hb); have n1_ := Aside0.mk (Kd.R_lower (Kd.R_new' ho0 (Kd.R_lt (kr HO207))) (below_size bw)); have n2_ := Aside0.mk (below_step bw hb); clear HO207; clear HB; have HO207 := n0_; have HO212 := n1_; have HB := n2_; clear n0_ n1_ n2_; (try clear hb); (try clear hb2); (try clear hk); (try clear hi); (try clear ho0)) | ((with_reducible refine gate_callee (f := 13) rfl ?_); refine goesL_ (some 21) rfl rfl Tryd.func13 (by kernel_rfl) rfl #[.string (⟨#[48, 34, 97]⟩ : ByteArray)] rfl (by (try simp only [List.map_toArray, List.map_cons, List.map_nil]); first | done | rfl | (simp only [List.length_drop, List.length_take]; rfl)) ?_; (with_reducible refine (token_All.calls k (⟨#[48, 34, 97]⟩ : ByteArray) t213 t214 t215 _ A3.out ?side1).mono ?_); (case side1 => exact Laid.below HLd.out bw); rintro e w51 ⟨v216, rfl, ho0, hb⟩; refine ⟨_, rfl, ?_⟩; have n0_ := Aside0.mk (Kd.R_elder' (kr HO207) (Kd.R_base ho0) hb); have n1_ := Aside0.mk (Kd.R_elder' (kr HO212) (Kd.R_base ho0) hb); have n2_ := Aside0.mk (Kd.R_lower (Kd.R_new' (Kd.R_new' ho0 (Kd.R_lt (kr HO207))) (Kd.R_lt (kr HO212))) (below_size bw)); have n3_ := Aside0.mk (below_step bw hb); clear HO207; clear HO212; clear HB; have HO207 := n0_; have HO212 := n1_; have HO217 := n2_; have HB := n3_; clear n0_ n1_ n2_ n3_; (try clear hb); (try clear hb2); (try clear hk); (try clear hi); (try clear ho0); obtain ⟨Ao52, co52, eo52⟩ := Kd.R_slice HO207.out; subst eo52; have p218 : 0 ≤ (1 : Int) := (by omega); have q218 : 1 < (t203.length : Int) := ode; obtain ⟨ad218, e218, hx218_0, hx218_1, hx218_2, hx218_3⟩ := at_T31 (Kd.R_reads' HO207.out).2.2 1 p218 q218; cases e218; (try simp only [show (1 : Int).toNat = 1 from rfl, Nat.reduceMul, Nat.reduceEqDiff, Go.Addr.add, ↓reduceIte] at hx218_0); (try simp only [show (1 : Int).toNat = 1 from rfl, Nat.reduceMul, Nat.reduceEqDiff, Go.Addr.add, ↓reduceIte] at hx218_1); (try simp only [show (1 : Int).toNat = 1 from rfl, Nat.reduceMul, Nat.reduceEqDiff, Go.Addr.add, ↓reduceIte] at hx218_2); (try simp only [show (1 : Int).toNat = 1 from rfl, Nat.reduceMul, Nat.reduceEqDiff, Go.Addr.add, ↓reduceIte] at hx218_3); have qi218 : (1 < t203.length) = True := eq_true (by omega); (try rw [show ((1 : Int)).toNat = 1 from rfl] at hx218_0); (try rw [show 1 * 4 = 4 from rfl] at hx218_0); (try rw [show ((1 : Int)).toNat = 1 from rfl] at hx218_1); (try rw [show 1 * 4 = 4 from rfl] at hx218_1); (try rw [show ((1 : Int)).toNat = 1 from rfl] at hx218_2); (try rw [show 1 * 4 = 4 from rfl] at hx218_2); (try rw [show ((1 : Int)).toNat = 1 from rfl] at hx218_3); (try rw [show 1 * 4 = 4 from rfl] at hx218_3); replace p218 := eq_true p218; replace q218 := eq_true q218))
              go_ret
              exact ⟨by first | rfl | (simp [errW_none, errW_some] <;> rfl) | (simp [*, errW_none, errW_some] <;> rfl), bw⟩
          · rw [if_neg c8] at H
            have c8b0 : (((rd_T31 t203 1).f0) == 8) = false := beq_eq_false_iff_ne.mpr c8
            have c8b1 : (((rd_T31 t203 1).f0) != 8) = true := bne_iff_ne.mpr c8
            obtain rfl := Option.some.inj H
            go_enter Tryd.func14, Tryd.ntmps14
            go_wp2_with (first | ((with_reducible refine gate_callee (f := 13) rfl ?_); refine goesL_ (some 11) rfl rfl Tryd.func13 (by kernel_rfl) rfl #[.string (⟨#[35, 44, 35, 35, 48]⟩ : ByteArray)] rfl (by (try simp only [List.map_toArray, List.map_cons, List.map_nil]); first | done | rfl | (simp only [List.length_drop, List.length_take]; rfl)) ?_; (with_reducible refine (token_All.calls k (⟨#[35, 44, 35, 35, 48]⟩ : ByteArray) t203 t204 t205 _ A1.out ?side1).mono ?_); (case side1 => exact Laid.below HLd.out bw); rintro e w53 ⟨v206, rfl, ho0, hb⟩; refine ⟨_, rfl, ?_⟩; have n0_ := Aside0.mk (Kd.R_lower ho0 (below_size bw)); have n1_ := Aside0.mk (below_step bw hb); clear HB; have HO207 := n0_; have HB := n1_; clear n0_ n1_; (try clear hb); (try clear hb2); (try clear hk); (try clear hi); (try clear ho0)) | ((with_reducible refine gate_callee (f := 13) rfl ?_); refine goesL_ (some 16) rfl rfl Tryd.func13 (by kernel_rfl) rfl #[.string (⟨#[109, 109, 109, 34, 120, 34]⟩ : ByteArray)] rfl (by (try simp only [List.map_toArray, List.map_cons, List.map_nil]); first | done | rfl | (simp only [List.length_drop, List.length_take]; rfl)) ?_; (with_reducible refine (token_All.calls k (⟨#[109, 109, 109, 34, 120, 34]⟩ : ByteArray) t208 t209 t210 _ A2.out ?side1).mono ?_); (case side1 => exact Laid.below HLd.out bw); rintro e w54 ⟨v211, rfl, ho0, hb⟩; refine ⟨_, rfl, ?_⟩; have n0_ := Aside0.mk (Kd.R_elder' (kr HO207) (Kd.R_base ho0) hb); have n1_ := Aside0.mk (Kd.R_lower (Kd.R_new' ho0 (Kd.R_lt (kr HO207))) (below_size bw)); have n2_ := Aside0.mk (below_step bw hb); clear HO207; clear HB; have HO207 := n0_; have HO212 := n1_; have HB := n2_; clear n0_ n1_ n2_; (try clear hb); (try clear hb2); (try clear hk); (try clear hi); (try clear ho0)) | ((with_reducible refine gate_callee (f := 13) rfl ?_); refine goesL_ (some 21) rfl rfl Tryd.func13 (by kernel_rfl) rfl #[.string (⟨#[48, 34, 97]⟩ : ByteArray)] rfl (by (try simp only [List.map_toArray, List.map_cons, List.map_nil]); first | done | rfl | (simp only [List.length_drop, List.length_take]; rfl)) ?_; (with_reducible refine (token_All.calls k (⟨#[48, 34, 97]⟩ : ByteArray) t213 t214 t215 _ A3.out ?side1).mono ?_); (case side1 => exact Laid.below HLd.out bw); rintro e w55 ⟨v216, rfl, ho0, hb⟩; refine ⟨_, rfl, ?_⟩; have n0_ := Aside0.mk (Kd.R_elder' (kr HO207) (Kd.R_base ho0) hb); have n1_ := Aside0.mk (Kd.R_elder' (kr HO212) (Kd.R_base ho0) hb); have n2_ := Aside0.mk (Kd.R_lower (Kd.R_new' (Kd.R_new' ho0 (Kd.R_lt (kr HO207))) (Kd.R_lt (kr HO212))) (below_size bw)); have n3_ := Aside0.mk (below_step bw hb); clear HO207; clear HO212; clear HB; have HO207 := n0_; have HO212 := n1_; have HO217 := n2_; have HB := n3_; clear n0_ n1_ n2_ n3_; (try clear hb); (try clear hb2); (try clear hk); (try clear hi); (try clear ho0); obtain ⟨Ao56, co56, eo56⟩ := Kd.R_slice HO207.out; subst eo56; have p218 : 0 ≤ (1 : Int) := (by omega); have q218 : 1 < (t203.length : Int) := ode; obtain ⟨ad218, e218, hx218_0, hx218_1, hx218_2, hx218_3⟩ := at_T31 (Kd.R_reads' HO207.out).2.2 1 p218 q218; cases e218; (try simp only [show (1 : Int).toNat = 1 from rfl, Nat.reduceMul, Nat.reduceEqDiff, Go.Addr.add, ↓reduceIte] at hx218_0); (try simp only [show (1 : Int).toNat = 1 from rfl, Nat.reduceMul, Nat.reduceEqDiff, Go.Addr.add, ↓reduceIte] at hx218_1); (try simp only [show (1 : Int).toNat = 1 from rfl, Nat.reduceMul, Nat.reduceEqDiff, Go.Addr.add, ↓reduceIte] at hx218_2); (try simp only [show (1 : Int).toNat = 1 from rfl, Nat.reduceMul, Nat.reduceEqDiff, Go.Addr.add, ↓reduceIte] at hx218_3); have qi218 : (1 < t203.length) = True := eq_true (by omega); (try rw [show ((1 : Int)).toNat = 1 from rfl] at hx218_0); (try rw [show 1 * 4 = 4 from rfl] at hx218_0); (try rw [show ((1 : Int)).toNat = 1 from rfl] at hx218_1); (try rw [show 1 * 4 = 4 from rfl] at hx218_1); (try rw [show ((1 : Int)).toNat = 1 from rfl] at hx218_2); (try rw [show 1 * 4 = 4 from rfl] at hx218_2); (try rw [show ((1 : Int)).toNat = 1 from rfl] at hx218_3); (try rw [show 1 * 4 = 4 from rfl] at hx218_3); replace p218 := eq_true p218; replace q218 := eq_true q218))
            go_ret
            exact ⟨by first | rfl | (simp [errW_none, errW_some] <;> rfl) | (simp [*, errW_none, errW_some] <;> rfl), bw⟩
        · rw [if_neg c7] at H
          exact absurd H (by simp)
      · rw [if_neg c6] at H
        have c6b0 : ((t203.length : Int) == 5) = false := beq_eq_false_iff_ne.mpr c6
        have c6b1 : ((t203.length : Int) != 5) = true := bne_iff_ne.mpr c6
        obtain rfl := Option.some.inj H
        go_enter Tryd.func14, Tryd.ntmps14
        go_wp2_with (first | ((with_reducible refine gate_callee (f := 13) rfl ?_); refine goesL_ (some 11) rfl rfl Tryd.func13 (by kernel_rfl) rfl #[.string (⟨#[35, 44, 35, 35, 48]⟩ : ByteArray)] rfl (by (try simp only [List.map_toArray, List.map_cons, List.map_nil]); first | done | rfl | (simp only [List.length_drop, List.length_take]; rfl)) ?_; (with_reducible refine (token_All.calls k (⟨#[35, 44, 35, 35, 48]⟩ : ByteArray) t203 t204 t205 _ A1.out ?side1).mono ?_); (case side1 => exact Laid.below HLd.out bw); rintro e w57 ⟨v206, rfl, ho0, hb⟩; refine ⟨_, rfl, ?_⟩; have n0_ := Aside0.mk (Kd.R_lower ho0 (below_size bw)); have n1_ := Aside0.mk (below_step bw hb); clear HB; have HO207 := n0_; have HB := n1_; clear n0_ n1_; (try clear hb); (try clear hb2); (try clear hk); (try clear hi); (try clear ho0)) | ((with_reducible refine gate_callee (f := 13) rfl ?_); refine goesL_ (some 16) rfl rfl Tryd.func13 (by kernel_rfl) rfl #[.string (⟨#[109, 109, 109, 34, 120, 34]⟩ : ByteArray)] rfl (by (try simp only [List.map_toArray, List.map_cons, List.map_nil]); first | done | rfl | (simp only [List.length_drop, List.length_take]; rfl)) ?_; (with_reducible refine (token_All.calls k (⟨#[109, 109, 109, 34, 120, 34]⟩ : ByteArray) t208 t209 t210 _ A2.out ?side1).mono ?_); (case side1 => exact Laid.below HLd.out bw); rintro e w58 ⟨v211, rfl, ho0, hb⟩; refine ⟨_, rfl, ?_⟩; have n0_ := Aside0.mk (Kd.R_elder' (kr HO207) (Kd.R_base ho0) hb); have n1_ := Aside0.mk (Kd.R_lower (Kd.R_new' ho0 (Kd.R_lt (kr HO207))) (below_size bw)); have n2_ := Aside0.mk (below_step bw hb); clear HO207; clear HB; have HO207 := n0_; have HO212 := n1_; have HB := n2_; clear n0_ n1_ n2_; (try clear hb); (try clear hb2); (try clear hk); (try clear hi); (try clear ho0)) | ((with_reducible refine gate_callee (f := 13) rfl ?_); refine goesL_ (some 21) rfl rfl Tryd.func13 (by kernel_rfl) rfl #[.string (⟨#[48, 34, 97]⟩ : ByteArray)] rfl (by (try simp only [List.map_toArray, List.map_cons, List.map_nil]); first | done | rfl | (simp only [List.length_drop, List.length_take]; rfl)) ?_; (with_reducible refine (token_All.calls k (⟨#[48, 34, 97]⟩ : ByteArray) t213 t214 t215 _ A3.out ?side1).mono ?_); (case side1 => exact Laid.below HLd.out bw); rintro e w59 ⟨v216, rfl, ho0, hb⟩; refine ⟨_, rfl, ?_⟩; have n0_ := Aside0.mk (Kd.R_elder' (kr HO207) (Kd.R_base ho0) hb); have n1_ := Aside0.mk (Kd.R_elder' (kr HO212) (Kd.R_base ho0) hb); have n2_ := Aside0.mk (Kd.R_lower (Kd.R_new' (Kd.R_new' ho0 (Kd.R_lt (kr HO207))) (Kd.R_lt (kr HO212))) (below_size bw)); have n3_ := Aside0.mk (below_step bw hb); clear HO207; clear HO212; clear HB; have HO207 := n0_; have HO212 := n1_; have HO217 := n2_; have HB := n3_; clear n0_ n1_ n2_ n3_; (try clear hb); (try clear hb2); (try clear hk); (try clear hi); (try clear ho0); obtain ⟨Ao60, co60, eo60⟩ := Kd.R_slice HO207.out; subst eo60))
        go_ret
        exact ⟨by first | rfl | (simp [errW_none, errW_some] <;> rfl) | (simp [*, errW_none, errW_some] <;> rfl), bw⟩
    · rw [if_neg c5] at H
      have c5b0 : (t204 == 5) = false := beq_eq_false_iff_ne.mpr c5
      have c5b1 : (t204 != 5) = true := bne_iff_ne.mpr c5
      obtain rfl := Option.some.inj H
      go_enter Tryd.func14, Tryd.ntmps14
      go_wp2_with (first | ((with_reducible refine gate_callee (f := 13) rfl ?_); refine goesL_ (some 11) rfl rfl Tryd.func13 (by kernel_rfl) rfl #[.string (⟨#[35, 44, 35, 35, 48]⟩ : ByteArray)] rfl (by (try simp only [List.map_toArray, List.map_cons, List.map_nil]); first | done | rfl | (simp only [List.length_drop, List.length_take]; rfl)) ?_; (with_reducible refine (token_All.calls k (⟨#[35, 44, 35, 35, 48]⟩ : ByteArray) t203 t204 t205 _ A1.out ?side1).mono ?_); (case side1 => exact Laid.below HLd.out bw); rintro e w61 ⟨v206, rfl, ho0, hb⟩; refine ⟨_, rfl, ?_⟩; have n0_ := Aside0.mk (Kd.R_lower ho0 (below_size bw)); have n1_ := Aside0.mk (below_step bw hb); clear HB; have HO207 := n0_; have HB := n1_; clear n0_ n1_; (try clear hb); (try clear hb2); (try clear hk); (try clear hi); (try clear ho0)) | ((with_reducible refine gate_callee (f := 13) rfl ?_); refine goesL_ (some 16) rfl rfl Tryd.func13 (by kernel_rfl) rfl #[.string (⟨#[109, 109, 109, 34, 120, 34]⟩ : ByteArray)] rfl (by (try simp only [List.map_toArray, List.map_cons, List.map_nil]); first | done | rfl | (simp only [List.length_drop, List.length_take]; rfl)) ?_; (with_reducible refine (token_All.calls k (⟨#[109, 109, 109, 34, 120, 34]⟩ : ByteArray) t208 t209 t210 _ A2.out ?side1).mono ?_); (case side1 => exact Laid.below HLd.out bw); rintro e w62 ⟨v211, rfl, ho0, hb⟩; refine ⟨_, rfl, ?_⟩; have n0_ := Aside0.mk (Kd.R_elder' (kr HO207) (Kd.R_base ho0) hb); have n1_ := Aside0.mk (Kd.R_lower (Kd.R_new' ho0 (Kd.R_lt (kr HO207))) (below_size bw)); have n2_ := Aside0.mk (below_step bw hb); clear HO207; clear HB; have HO207 := n0_; have HO212 := n1_; have HB := n2_; clear n0_ n1_ n2_; (try clear hb); (try clear hb2); (try clear hk); (try clear hi); (try clear ho0)) | ((with_reducible refine gate_callee (f := 13) rfl ?_); refine goesL_ (some 21) rfl rfl Tryd.func13 (by kernel_rfl) rfl #[.string (⟨#[48, 34, 97]⟩ : ByteArray)] rfl (by (try simp only [List.map_toArray, List.map_cons, List.map_nil]); first | done | rfl | (simp only [List.length_drop, List.length_take]; rfl)) ?_; (with_reducible refine (token_All.calls k (⟨#[48, 34, 97]⟩ : ByteArray) t213 t214 t215 _ A3.out ?side1).mono ?_); (case side1 => exact Laid.below HLd.out bw); rintro e w63 ⟨v216, rfl, ho0, hb⟩; refine ⟨_, rfl, ?_⟩; have n0_ := Aside0.mk (Kd.R_elder' (kr HO207) (Kd.R_base ho0) hb); have n1_ := Aside0.mk (Kd.R_elder' (kr HO212) (Kd.R_base ho0) hb); have n2_ := Aside0.mk (Kd.R_lower (Kd.R_new' (Kd.R_new' ho0 (Kd.R_lt (kr HO207))) (Kd.R_lt (kr HO212))) (below_size bw)); have n3_ := Aside0.mk (below_step bw hb); clear HO207; clear HO212; clear HB; have HO207 := n0_; have HO212 := n1_; have HO217 := n2_; have HB := n3_; clear n0_ n1_ n2_ n3_; (try clear hb); (try clear hb2); (try clear hk); (try clear hi); (try clear ho0)))
      go_ret
      exact ⟨by first | rfl | (simp [errW_none, errW_some] <;> rfl) | (simp [*, errW_none, errW_some] <;> rfl), bw⟩
  · rw [if_neg c4] at H
    have c4b0 : (t205 == 0) = false := beq_eq_false_iff_ne.mpr c4
    have c4b1 : (t205 != 0) = true := bne_iff_ne.mpr c4
    obtain rfl := Option.some.inj H
    go_enter Tryd.func14, Tryd.ntmps14
    go_wp2_with (first | ((with_reducible refine gate_callee (f := 13) rfl ?_); refine goesL_ (some 11) rfl rfl Tryd.func13 (by kernel_rfl) rfl #[.string (⟨#[35, 44, 35, 35, 48]⟩ : ByteArray)] rfl (by (try simp only [List.map_toArray, List.map_cons, List.map_nil]); first | done | rfl | (simp only [List.length_drop, List.length_take]; rfl)) ?_; (with_reducible refine (token_All.calls k (⟨#[35, 44, 35, 35, 48]⟩ : ByteArray) t203 t204 t205 _ A1.out ?side1).mono ?_); (case side1 => exact Laid.below HLd.out bw); rintro e w64 ⟨v206, rfl, ho0, hb⟩; refine ⟨_, rfl, ?_⟩; have n0_ := Aside0.mk (Kd.R_lower ho0 (below_size bw)); have n1_ := Aside0.mk (below_step bw hb); clear HB; have HO207 := n0_; have HB := n1_; clear n0_ n1_; (try clear hb); (try clear hb2); (try clear hk); (try clear hi); (try clear ho0)) | ((with_reducible refine gate_callee (f := 13) rfl ?_); refine goesL_ (some 16) rfl rfl Tryd.func13 (by kernel_rfl) rfl #[.string (⟨#[109, 109, 109, 34, 120, 34]⟩ : ByteArray)] rfl (by (try simp only [List.map_toArray, List.map_cons, List.map_nil]); first | done | rfl | (simp only [List.length_drop, List.length_take]; rfl)) ?_; (with_reducible refine (token_All.calls k (⟨#[109, 109, 109, 34, 120, 34]⟩ : ByteArray) t208 t209 t210 _ A2.out ?side1).mono ?_); (case side1 => exact Laid.below HLd.out bw); rintro e w65 ⟨v211, rfl, ho0, hb⟩; refine ⟨_, rfl, ?_⟩; have n0_ := Aside0.mk (Kd.R_elder' (kr HO207) (Kd.R_base ho0) hb); have n1_ := Aside0.mk (Kd.R_lower (Kd.R_new' ho0 (Kd.R_lt (kr HO207))) (below_size bw)); have n2_ := Aside0.mk (below_step bw hb); clear HO207; clear HB; have HO207 := n0_; have HO212 := n1_; have HB := n2_; clear n0_ n1_ n2_; (try clear hb); (try clear hb2); (try clear hk); (try clear hi); (try clear ho0)) | ((with_reducible refine gate_callee (f := 13) rfl ?_); refine goesL_ (some 21) rfl rfl Tryd.func13 (by kernel_rfl) rfl #[.string (⟨#[48, 34, 97]⟩ : ByteArray)] rfl (by (try simp only [List.map_toArray, List.map_cons, List.map_nil]); first | done | rfl | (simp only [List.length_drop, List.length_take]; rfl)) ?_; (with_reducible refine (token_All.calls k (⟨#[48, 34, 97]⟩ : ByteArray) t213 t214 t215 _ A3.out ?side1).mono ?_); (case side1 => exact Laid.below HLd.out bw); rintro e w66 ⟨v216, rfl, ho0, hb⟩; refine ⟨_, rfl, ?_⟩; have n0_ := Aside0.mk (Kd.R_elder' (kr HO207) (Kd.R_base ho0) hb); have n1_ := Aside0.mk (Kd.R_elder' (kr HO212) (Kd.R_base ho0) hb); have n2_ := Aside0.mk (Kd.R_lower (Kd.R_new' (Kd.R_new' ho0 (Kd.R_lt (kr HO207))) (Kd.R_lt (kr HO212))) (below_size bw)); have n3_ := Aside0.mk (below_step bw hb); clear HO207; clear HO212; clear HB; have HO207 := n0_; have HO212 := n1_; have HO217 := n2_; have HB := n3_; clear n0_ n1_ n2_ n3_; (try clear hb); (try clear hb2); (try clear hk); (try clear hi); (try clear ho0)))
    go_ret
    exact ⟨by first | rfl | (simp [errW_none, errW_some] <;> rfl) | (simp [*, errW_none, errW_some] <;> rfl), bw⟩

-- by hand: numeraryref11_First

end Go.Proofs.YtpefkehcibdjgaaDoor.QTcd
