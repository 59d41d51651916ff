-- Written by a program of this session (wip/tools/print2.py) for one law: Lean checks it.
import Derived.Test.YtpefkehcibdjgaaDoorARfax0
import Derived.Test.YtpefkehcibdjgaaDoorARfax1
namespace Go.Proofs.YtpefkehcibdjgaaDoor.ARfa
open Go.RowKit Go.Proofs.YtpefkehcibdjgaaDoor.H Go.Proofs.YtpefkehcibdjgaaDoorW.PrintWords Go.Proofs.YtpefkehcibdjgaaDoorW.PrintLast Go.Proofs.YtpefkehcibdjgaaDoorW.PrintMore
attribute [local go_sem] max2_int min2_int max_two min_two max_three min_three max_four min_four   -- for this text's walks alone
set_option linter.unusedVariables false
set_option linter.unusedSimpArgs false

/-! ### numeraryref11_closed: function 50 -/
def numeraryref11_closed.l0 : Nat → ByteArray → Int → Int → Int → Int → Int → ByteArray → Int → Int → Option (Int × ByteArray × Int × Int × Int × Int × Int)
  | 0, _, _, _, _, _, _, _, _, _ => none
  | k + 1, x0, x1, x2, x3, x13, x117000, x117001, x117002, x117003 => if x13 < (x0.size : Int) then (if 0 ≤ x13 then (if (bt x0 x13) = x2 then (if 1 ≤ x13 then (if x13 ≤ (x0.size : Int) then (some (x1, x0.extract 1 (x13 : Int).toNat, 0, 0, wrap64 (x13 + 1), 0, 0)) else (none)) else (none)) else (if x13 ≤ (x0.size : Int) then ((numeraryref01_First.f k (x0.extract (x13 : Int).toNat x0.size)).bind fun bt117 => (if bt117.2.2 = true then (numeraryref11_closed.l0 k x0 x1 x2 x3 (wrap64 (x13 + bt117.2.1)) x117000 x117001 x117002 x117003) else (some (x117000, x117001, x117002, x117003, 0, x13, 4)))) else (none))) else (none)) else (some (x117000, x117001, x117002, x117003, 0, x13, x3))
def numeraryref11_closed.f (k : Nat) (a0 : ByteArray) (a1 : Int) (a2 : Int) (a3 : Int) : Option (Int × ByteArray × Int × Int × Int × Int × Int) := numeraryref11_closed.l0 k a0 a1 a2 a3 1 0 (⟨#[]⟩ : ByteArray) 0 0
theorem numeraryref11_closed.mono_l : ∀ k, (∀ y0 y1 y2 y3 y4 y5 y6 y7 y8, LeO (numeraryref11_closed.l0 k y0 y1 y2 y3 y4 y5 y6 y7 y8) (numeraryref11_closed.l0 (k + 1) y0 y1 y2 y3 y4 y5 y6 y7 y8))
  | 0 => fun _ _ _ _ _ _ _ _ _ r h => by simp [numeraryref11_closed.l0] at h
  | k + 1 => by
    have ih0 := numeraryref11_closed.mono_l k
    · intro y0 y1 y2 y3 y4 y5 y6 y7 y8
      unfold numeraryref11_closed.l0
      repeat' first
      | (with_reducible exact ih0 _ _ _ _ _ _ _ _ _)
      | (with_reducible exact numeraryref01_First.mono _ _)
      | (with_reducible exact LeO.refl _)
      | (with_reducible exact LeO.none _)
      | (with_reducible refine LeO.ite ?_ ?_)
      | (with_reducible refine LeO.bind ?_ (fun _ => ?_))
      | exact ih0 _ _ _ _ _ _ _ _ _
      | exact numeraryref01_First.mono _ _
      | exact LeO.none _
      | refine LeO.ite ?_ ?_
      | refine LeO.bind ?_ (fun _ => ?_)
theorem numeraryref11_closed.mono : ∀ a0 a1 a2 a3 k, LeO (numeraryref11_closed.f k a0 a1 a2 a3) (numeraryref11_closed.f (k + 1) a0 a1 a2 a3) := by
  intro a0 a1 a2 a3 k
  have ih0 := numeraryref11_closed.mono_l k
  unfold numeraryref11_closed.f
  repeat' first
      | (with_reducible exact ih0 _ _ _ _ _ _ _ _ _)
      | (with_reducible exact numeraryref01_First.mono _ _)
      | (with_reducible exact LeO.refl _)
      | (with_reducible exact LeO.none _)
      | (with_reducible refine LeO.ite ?_ ?_)
      | (with_reducible refine LeO.bind ?_ (fun _ => ?_))
      | exact ih0 _ _ _ _ _ _ _ _ _
      | exact numeraryref01_First.mono _ _
      | exact LeO.none _
      | refine LeO.ite ?_ ?_
      | refine LeO.bind ?_ (fun _ => ?_)
set_option maxHeartbeats 8000000 in
set_option maxRecDepth 100000 in
theorem numeraryref11_closed.calls (k : Nat) (a0 : ByteArray) (a1 : Int) (a2 : Int) (a3 : Int) (r1 : Int) (r2 : ByteArray) (r3 : Int) (r4 : Int) (r5 : Int) (r6 : Int) (r7 : Int) (w : World) (h : numeraryref11_closed.f k a0 a1 a2 a3 = some (r1, r2, r3, r4, r5, r6, r7)) :
    Calls Tryd.prog 50 #[.string a0, .int .i64 a1, .int .u8 a2, .int .i64 a3] w fun e w' => e = .returned (.tuple #[.agg #[.int .i64 r1, .string r2, .int .i64 r3, .int .i64 r4], .int .i64 r5, .int .i64 r6, .int .i64 r7]) ∧ Below w.heap.size w w' := by
  have hu55 := Tryd.underlying55
  have HB := Aside0.mk (Below.refl w.heap.size w)
  have H : (numeraryref11_closed.l0 k a0 a1 a2 a3 1 0 (⟨#[]⟩ : ByteArray) 0 0) = some (r1, r2, r3, r4, r5, r6, r7) := h
  clear h
  have H' := Aside0.mk H
  clear H
  go_enter Tryd.func50, Tryd.ntmps50
  go_wp2_with (first | ((with_reducible refine gate_dst (N := 8) rfl ?_); refine box_event ?hg (N := 8) ?hd (cs := #[.int .i64 0, .string (⟨#[]⟩ : ByteArray), .int .i64 0, .int .i64 0]) (t := 55) ?hr ?_; (case hd => rfl); (case hg => rfl); (case hr => first | (go_simp; done) | (go_simp; rfl)); intro gb115 hg w5 hbox hb; have n0_ := Aside0.mk (below_step bw hb); have n1_ := Aside0.mk (hbox); have n2_ := Aside0.mk ((by rw [hg]; exact (below_size bw) : w.heap.size ≤ gb115)); have n3_ := Aside0.mk ((by rw [hg]; exact (below_size bw) : w.heap.size ≤ gb115)); clear HB; have HB := n0_; have BK115 := n1_; have GW115 := n2_; have GE115 := n3_; clear n0_ n1_ n2_ n3_; clear hb hbox hg) | ((with_reducible refine gate_dst (N := 12) rfl ?_); refine box_event ?hg (N := 12) ?hd (cs := #[.int .i64 0, .string (⟨#[]⟩ : ByteArray), .int .i64 0, .int .i64 0]) (t := 55) ?hr ?_; (case hd => rfl); (case hg => rfl); (case hr => first | (go_simp; done) | (go_simp; rfl)); intro gb116 hg w6 hbox hb; have n0_ := Aside0.mk (blk_below (bk BK115) hb); have n1_ := Aside0.mk (below_step bw hb); have n2_ := Aside0.mk (hbox); have n3_ := Aside0.mk ((by rw [hg]; exact (below_size bw) : w.heap.size ≤ gb116)); have n4_ := Aside0.mk ((by rw [hg]; exact (below_size bw) : w.heap.size ≤ gb116)); have n5_ := Aside0.mk ((by rw [hg]; exact Nat.ne_of_lt (blk_lt (bk BK115)) : gb115 ≠ gb116)); have n6_ := Aside0.mk ((by rw [hg]; exact Nat.ne_of_gt (blk_lt (bk BK115)) : gb116 ≠ gb115)); clear BK115; clear HB; have BK115 := n0_; have HB := n1_; have BK116 := n2_; have GW116 := n3_; have GE116 := n4_; have NB115_116 := n5_; have NB116_115 := n6_; clear n0_ n1_ n2_ n3_ n4_ n5_ n6_; clear hb hbox hg; have hnb7 := NB116_115.out; have hnc7 := NB115_116.out; obtain ⟨hcz8_0, hcz8_1, hcz8_2, hcz8_3, hfz8_0, hfz8_1, hfz8_2, hfz8_3⟩ := cells4 BK116))
  go_loopg [13] k (fun kq v13 w' => ∃ (x13_1 : Int) (x116000_1 : Int) (x116001_1 : ByteArray) (x116002_1 : Int) (x116003_1 : Int), v13 = .int .i64 x13_1 ∧ Aside0 (numeraryref11_closed.l0 kq a0 a1 a2 a3 x13_1 0 (⟨#[]⟩ : ByteArray) 0 0 = some (r1, r2, r3, r4, r5, r6, r7)) ∧ Aside0 (kq ≤ k) ∧ Aside0 (w'.heap[gb115]? = some (.cells #[.int .i64 x116000_1, .string x116001_1, .int .i64 x116002_1, .int .i64 x116003_1] 55 (0, 0))) ∧ Aside0 (w'.heap[gb116]? = some (.cells #[.int .i64 0, .string (⟨#[]⟩ : ByteArray), .int .i64 0, .int .i64 0] 55 (0, 0))) ∧ Aside0 (Below w.heap.size w w'))
  case atStart => exact ⟨(1), (0), ((⟨#[]⟩ : ByteArray)), (0), (0), (by first | rfl | (simp; done) | (simp [*]; done)), H', ⟨Nat.le_refl _⟩, ⟨by (with_reducible repeat (first | refine blk_drewN ?_ _ | refine blk_drew ?_ | refine blk_alloc ?_ _)); refine blk_far ?_ NB115_116.out _; (with_reducible repeat (first | refine blk_drewN ?_ _ | refine blk_drew ?_ | refine blk_alloc ?_ _)); refine blk_far ?_ NB115_116.out _; (with_reducible repeat (first | refine blk_drewN ?_ _ | refine blk_drew ?_ | refine blk_alloc ?_ _)); refine blk_far ?_ NB115_116.out _; (with_reducible repeat (first | refine blk_drewN ?_ _ | refine blk_drew ?_ | refine blk_alloc ?_ _)); refine blk_far ?_ NB115_116.out _; (with_reducible repeat (first | refine blk_drewN ?_ _ | refine blk_drew ?_ | refine blk_alloc ?_ _)); exact BK115.out⟩, ⟨by (with_reducible repeat (first | refine blk_drewN ?_ _ | refine blk_drew ?_ | refine blk_alloc ?_ _)); refine blk_put (cs := #[.int .i64 0, .string (⟨#[]⟩ : ByteArray), .int .i64 0, .int .i64 0]) ?_ 3 _ rfl; (with_reducible repeat (first | refine blk_drewN ?_ _ | refine blk_drew ?_ | refine blk_alloc ?_ _)); refine blk_put (cs := #[.int .i64 0, .string (⟨#[]⟩ : ByteArray), .int .i64 0, .int .i64 0]) ?_ 2 _ rfl; (with_reducible repeat (first | refine blk_drewN ?_ _ | refine blk_drew ?_ | refine blk_alloc ?_ _)); refine blk_put (cs := #[.int .i64 0, .string (⟨#[]⟩ : ByteArray), .int .i64 0, .int .i64 0]) ?_ 1 _ rfl; (with_reducible repeat (first | refine blk_drewN ?_ _ | refine blk_drew ?_ | refine blk_alloc ?_ _)); refine blk_put (cs := #[.int .i64 0, .string (⟨#[]⟩ : ByteArray), .int .i64 0, .int .i64 0]) ?_ 0 _ rfl; (with_reducible repeat (first | refine blk_drewN ?_ _ | refine blk_drew ?_ | refine blk_alloc ?_ _)); exact BK116.out⟩, ⟨bw⟩⟩
  case round =>
    clear H'
    try clear p2
    try clear c5
    try clear c7
    try clear hcz8_0
    try clear hcz8_1
    try clear hcz8_2
    try clear hcz8_3
    try clear hfz8_0
    try clear hfz8_1
    try clear hfz8_2
    try clear hfz8_3
    obtain ⟨x13_1, x116000_1, x116001_1, x116002_1, x116003_1, rfl, HA, HK1, BK115, BK116, HB⟩ := hrel
    cases gk with
    | zero => exact absurd HA.out (by simp [numeraryref11_closed.l0])
    | succ k1 =>
      have H := HA.out
      clear HA
      simp only [numeraryref11_closed.l0] at H
      by_cases c9 : x13_1 < (a0.size : Int)
      · rw [if_pos c9] at H
        have c9b0 : decide (x13_1 < (a0.size : Int)) = true := decide_eq_true c9
        clear c9
        by_cases c10 : 0 ≤ x13_1
        · rw [if_pos c10] at H
          have c10b0 : decide (0 ≤ x13_1) = true := decide_eq_true c10
          clear c10
          by_cases c12 : (bt a0 x13_1) = a2
          · rw [if_pos c12] at H
            have c12b0 : ((bt a0 x13_1) == a2) = true := beq_iff_eq.mpr c12
            have c12b1 : ((bt a0 x13_1) != a2) = false := bne_eq_false_iff_eq.mpr c12
            clear c12
            by_cases c13 : 1 ≤ x13_1
            · rw [if_pos c13] at H
              have c13b0 := eq_true c13
              have c13b1 : decide (1 ≤ x13_1) = true := decide_eq_true c13
              clear c13
              by_cases c14 : x13_1 ≤ (a0.size : Int)
              · rw [if_pos c14] at H
                have c14b0 := eq_true c14
                have c14b1 : decide (x13_1 ≤ (a0.size : Int)) = true := decide_eq_true c14
                clear c14
                simp only [Option.some.injEq, Prod.mk.injEq] at H
                obtain ⟨rfl, rfl, rfl, rfl, rfl, rfl, rfl⟩ := H
                have p11 : 0 ≤ (x13_1 : Int) := ode
                have q11 : x13_1 < (a0.size : Int) := ode
                have hx11 := bt_at a0 x13_1
                replace p11 := eq_true p11
                replace q11 := eq_true q11
                have hnb15 := NB115_116.out
                have hnc15 := NB116_115.out
                have hcz16_0 : wr.cell? ⟨gb115, 0, none⟩ = some (.int .i64 x116000_1) := (blk_cell BK115.out 0).trans rfl
                have hcz16_1 : wr.cell? ⟨gb115, 1, none⟩ = some (.string x116001_1) := (blk_cell BK115.out 1).trans rfl
                have hcz16_2 : wr.cell? ⟨gb115, 2, none⟩ = some (.int .i64 x116002_1) := (blk_cell BK115.out 2).trans rfl
                have hcz16_3 : wr.cell? ⟨gb115, 3, none⟩ = some (.int .i64 x116003_1) := (blk_cell BK115.out 3).trans rfl
                have hfz16_0 := blk_frozen BK115.out 0
                have hfz16_1 := blk_frozen BK115.out 1
                have hfz16_2 := blk_frozen BK115.out 2
                have hfz16_3 := blk_frozen BK115.out 3
                go_wp2
                refine bodyPost_ret (results_list (rs := [.cell 8 55, .tmp 9, .tmp 10, .tmp 11]) rfl (by simp) (.cell gb115 55 #[.int .i64 a1, .string (a0.extract 1 (x13_1 : Int).toNat), .int .i64 0, .int .i64 0] (0, 0) _ rfl (bp BK115) Tryd.underlying55 rfl (by kernel_rfl) (.tmp (.tmp (.tmp .nil))))) rfl ?_
                exact ⟨by first | rfl | (simp [errW_none, errW_some] <;> rfl) | (simp [*, errW_none, errW_some] <;> rfl), bw⟩
              · rw [if_neg c14] at H
                exact absurd H (by simp)
            · rw [if_neg c13] at H
              exact absurd H (by simp)
          · rw [if_neg c12] at H
            have c12b0 : ((bt a0 x13_1) == a2) = false := beq_eq_false_iff_ne.mpr c12
            have c12b1 : ((bt a0 x13_1) != a2) = true := bne_iff_ne.mpr c12
            have c17b0 := eq_true (ode : 0 ≤ x13_1)
            by_cases c18 : x13_1 ≤ (a0.size : Int)
            · rw [if_pos c18] at H
              have c18b0 := eq_true c18
              have c18b1 : decide (x13_1 ≤ (a0.size : Int)) = true := decide_eq_true c18
              clear c18
              replace H := Option.bind_eq_some_iff.mp H
              obtain ⟨⟨t117, t118, t119⟩, A190, H⟩ := H
              replace H : (if t119 = true then (numeraryref11_closed.l0 k1 a0 a1 a2 a3 (wrap64 (x13_1 + t118)) 0 (⟨#[]⟩ : ByteArray) 0 0) else (some (0, (⟨#[]⟩ : ByteArray), 0, 0, 0, x13_1, 4))) = some (r1, r2, r3, r4, r5, r6, r7) := H
              have A19 := Aside0.mk A190
              clear A190
              by_cases c20 : t119 = true
              · subst c20
                have H1 : (numeraryref11_closed.l0 k1 a0 a1 a2 a3 (wrap64 (x13_1 + t118)) 0 (⟨#[]⟩ : ByteArray) 0 0) = some (r1, r2, r3, r4, r5, r6, r7) := by rw [if_pos rfl] at H; exact H
                clear H
                have H := H1
                clear H1
                have H' := Aside0.mk H
                clear H
                have p11 : 0 ≤ (x13_1 : Int) := ode
                have q11 : x13_1 < (a0.size : Int) := ode
                have hx11 := bt_at a0 x13_1
                replace p11 := eq_true p11
                replace q11 := eq_true q11
                go_wp2_with (first | ((with_reducible refine gate_callee (f := 20) rfl ?_); refine goesL_ (some 38) rfl rfl Tryd.func20 (by kernel_rfl) rfl #[.string (a0.extract (x13_1 : Int).toNat a0.size)] rfl (by (try simp only [List.map_toArray, List.map_cons, List.map_nil]); first | done | rfl | (simp only [List.length_drop, List.length_take]; rfl)) ?_; (with_reducible refine (numeraryref01_First.calls k1 (a0.extract (x13_1 : Int).toNat a0.size) t117 t118 true _ A19.out).mono ?_); rintro e w21 ⟨rfl, hb⟩; refine ⟨_, rfl, ?_⟩; have n0_ := Aside0.mk (blk_below (bk BK115) hb); have n1_ := Aside0.mk (blk_below (bk BK116) hb); have n2_ := Aside0.mk (below_step bw hb); clear BK115; clear BK116; clear HB; have BK115 := n0_; have BK116 := n1_; have HB := n2_; clear n0_ n1_ n2_; (try clear hb); (try clear hb2); (try clear hk); (try clear hi)))
                go_roundg k1
                case measure => have := HK1.out; omega
                case rel => exact ⟨(wrap64 (x13_1 + t118)), (x116000_1), (x116001_1), (x116002_1), (x116003_1), (by first | rfl | (simp; done) | (simp [*]; done)), H', ⟨by have := HK1.out; omega⟩, ⟨by (with_reducible repeat (first | refine blk_drewN ?_ _ | refine blk_drew ?_ | refine blk_alloc ?_ _)); exact BK115.out⟩, ⟨by (with_reducible repeat (first | refine blk_drewN ?_ _ | refine blk_drew ?_ | refine blk_alloc ?_ _)); exact BK116.out⟩, ⟨bw⟩⟩
              · replace c20 := Bool.eq_false_iff.mpr c20
                subst c20
                have H1 : (some (0, (⟨#[]⟩ : ByteArray), 0, 0, 0, x13_1, 4)) = some (r1, r2, r3, r4, r5, r6, r7) := by rw [if_neg (show ¬ (false = true) by decide)] at H; exact H
                clear H
                have H := H1
                clear H1
                simp only [Option.some.injEq, Prod.mk.injEq] at H
                obtain ⟨rfl, rfl, rfl, rfl, rfl, rfl, rfl⟩ := H
                have p11 : 0 ≤ (x13_1 : Int) := ode
                have q11 : x13_1 < (a0.size : Int) := ode
                have hx11 := bt_at a0 x13_1
                replace p11 := eq_true p11
                replace q11 := eq_true q11
                go_wp2_with (first | ((with_reducible refine gate_callee (f := 20) rfl ?_); refine goesL_ (some 38) rfl rfl Tryd.func20 (by kernel_rfl) rfl #[.string (a0.extract (x13_1 : Int).toNat a0.size)] rfl (by (try simp only [List.map_toArray, List.map_cons, List.map_nil]); first | done | rfl | (simp only [List.length_drop, List.length_take]; rfl)) ?_; (with_reducible refine (numeraryref01_First.calls k1 (a0.extract (x13_1 : Int).toNat a0.size) t117 t118 false _ A19.out).mono ?_); rintro e w22 ⟨rfl, hb⟩; refine ⟨_, rfl, ?_⟩; have n0_ := Aside0.mk (blk_below (bk BK115) hb); have n1_ := Aside0.mk (blk_below (bk BK116) hb); have n2_ := Aside0.mk (below_step bw hb); clear BK115; clear BK116; clear HB; have BK115 := n0_; have BK116 := n1_; have HB := n2_; clear n0_ n1_ n2_; (try clear hb); (try clear hb2); (try clear hk); (try clear hi); have hnb23 := NB116_115.out; have hnc23 := NB115_116.out; obtain ⟨hcz24_0, hcz24_1, hcz24_2, hcz24_3, hfz24_0, hfz24_1, hfz24_2, hfz24_3⟩ := cells4 BK116; obtain ⟨hcz25_0, hcz25_1, hcz25_2, hcz25_3, hfz25_0, hfz25_1, hfz25_2, hfz25_3⟩ := cells4 BK115))
                refine bodyPost_ret (results_list (rs := [.cell 8 55, .tmp 9, .tmp 10, .tmp 11]) rfl (by simp) (.cell gb115 55 #[.int .i64 0, .string (⟨#[]⟩ : ByteArray), .int .i64 0, .int .i64 0] (0, 0) _ rfl (bp BK115) Tryd.underlying55 rfl (by kernel_rfl) (.tmp (.tmp (.tmp .nil))))) rfl ?_
                exact ⟨by first | rfl | (simp [errW_none, errW_some] <;> rfl) | (simp [*, errW_none, errW_some] <;> rfl), bw⟩
            · rw [if_neg c18] at H
              exact absurd H (by simp)
        · rw [if_neg c10] at H
          exact absurd H (by simp)
      · rw [if_neg c9] at H
        have c9b0 : decide (x13_1 < (a0.size : Int)) = false := decide_eq_false c9
        clear c9
        simp only [Option.some.injEq, Prod.mk.injEq] at H
        obtain ⟨rfl, rfl, rfl, rfl, rfl, rfl, rfl⟩ := H
        have hnb26 := NB116_115.out
        have hnc26 := NB115_116.out
        have hcz27_0 : wr.cell? ⟨gb116, 0, none⟩ = some (.int .i64 0) := (blk_cell BK116.out 0).trans rfl
        have hcz27_1 : wr.cell? ⟨gb116, 1, none⟩ = some (.string (⟨#[]⟩ : ByteArray)) := (blk_cell BK116.out 1).trans rfl
        have hcz27_2 : wr.cell? ⟨gb116, 2, none⟩ = some (.int .i64 0) := (blk_cell BK116.out 2).trans rfl
        have hcz27_3 : wr.cell? ⟨gb116, 3, none⟩ = some (.int .i64 0) := (blk_cell BK116.out 3).trans rfl
        have hfz27_0 := blk_frozen BK116.out 0
        have hfz27_1 := blk_frozen BK116.out 1
        have hfz27_2 := blk_frozen BK116.out 2
        have hfz27_3 := blk_frozen BK116.out 3
        have hcz28_0 : wr.cell? ⟨gb115, 0, none⟩ = some (.int .i64 x116000_1) := (blk_cell BK115.out 0).trans rfl
        have hcz28_1 : wr.cell? ⟨gb115, 1, none⟩ = some (.string x116001_1) := (blk_cell BK115.out 1).trans rfl
        have hcz28_2 : wr.cell? ⟨gb115, 2, none⟩ = some (.int .i64 x116002_1) := (blk_cell BK115.out 2).trans rfl
        have hcz28_3 : wr.cell? ⟨gb115, 3, none⟩ = some (.int .i64 x116003_1) := (blk_cell BK115.out 3).trans rfl
        have hfz28_0 := blk_frozen BK115.out 0
        have hfz28_1 := blk_frozen BK115.out 1
        have hfz28_2 := blk_frozen BK115.out 2
        have hfz28_3 := blk_frozen BK115.out 3
        go_wp2
        refine bodyPost_ret (results_list (rs := [.cell 8 55, .tmp 9, .tmp 10, .tmp 11]) rfl (by simp) (.cell gb115 55 #[.int .i64 0, .string (⟨#[]⟩ : ByteArray), .int .i64 0, .int .i64 0] (0, 0) _ rfl (bp BK115) Tryd.underlying55 rfl (by kernel_rfl) (.tmp (.tmp (.tmp .nil))))) rfl ?_
        exact ⟨by first | rfl | (simp [errW_none, errW_some] <;> rfl) | (simp [*, errW_none, errW_some] <;> rfl), bw⟩

/-! ### numeraryref11_marked: function 51 -/
def numeraryref11_marked.f (k : Nat) (a0 : ByteArray) (a1 : Int) (a2 : Int) : Option (Int × ByteArray × Int × Int × Int × Int × Int) := if (a0.size : Int) < 2 then (some (0, (⟨#[]⟩ : ByteArray), 0, 0, 0, 1, a2)) else (if 1 ≤ (a0.size : Int) then ((numeraryref01_First.f k (a0.extract 1 a0.size)).bind fun bt122 => (if bt122.2.2 = true then (if 1 ≤ (wrap64 (1 + bt122.2.1)) then (if (wrap64 (1 + bt122.2.1)) ≤ (a0.size : Int) then (some (a1, a0.extract 1 ((wrap64 (1 + bt122.2.1)) : Int).toNat, 0, 0, wrap64 (1 + bt122.2.1), 0, 0)) else (none)) else (none)) else (some (0, (⟨#[]⟩ : ByteArray), 0, 0, 0, 1, 4)))) else (none))
theorem numeraryref11_marked.mono : ∀ a0 a1 a2 k, LeO (numeraryref11_marked.f k a0 a1 a2) (numeraryref11_marked.f (k + 1) a0 a1 a2) := by
  intro a0 a1 a2 k
  unfold numeraryref11_marked.f
  repeat' first
      | (with_reducible exact numeraryref01_First.mono _ _)
      | (with_reducible exact LeO.refl _)
      | (with_reducible exact LeO.none _)
      | (with_reducible refine LeO.ite ?_ ?_)
      | (with_reducible refine LeO.bind ?_ (fun _ => ?_))
      | exact numeraryref01_First.mono _ _
      | exact LeO.none _
      | refine LeO.ite ?_ ?_
      | refine LeO.bind ?_ (fun _ => ?_)
set_option maxHeartbeats 8000000 in
set_option maxRecDepth 100000 in
theorem numeraryref11_marked.calls (k : Nat) (a0 : ByteArray) (a1 : Int) (a2 : Int) (r1 : Int) (r2 : ByteArray) (r3 : Int) (r4 : Int) (r5 : Int) (r6 : Int) (r7 : Int) (w : World) (h : numeraryref11_marked.f k a0 a1 a2 = some (r1, r2, r3, r4, r5, r6, r7)) :
    Calls Tryd.prog 51 #[.string a0, .int .i64 a1, .int .i64 a2] w fun e w' => e = .returned (.tuple #[.agg #[.int .i64 r1, .string r2, .int .i64 r3, .int .i64 r4], .int .i64 r5, .int .i64 r6, .int .i64 r7]) ∧ Below w.heap.size w w' := by
  have hu55 := Tryd.underlying55
  have HB := Aside0.mk (Below.refl w.heap.size w)
  have H : (if (a0.size : Int) < 2 then (some (0, (⟨#[]⟩ : ByteArray), 0, 0, 0, 1, a2)) else (if 1 ≤ (a0.size : Int) then ((numeraryref01_First.f k (a0.extract 1 a0.size)).bind fun bt122 => (if bt122.2.2 = true then (if 1 ≤ (wrap64 (1 + bt122.2.1)) then (if (wrap64 (1 + bt122.2.1)) ≤ (a0.size : Int) then (some (a1, a0.extract 1 ((wrap64 (1 + bt122.2.1)) : Int).toNat, 0, 0, wrap64 (1 + bt122.2.1), 0, 0)) else (none)) else (none)) else (some (0, (⟨#[]⟩ : ByteArray), 0, 0, 0, 1, 4)))) else (none))) = some (r1, r2, r3, r4, r5, r6, r7) := h
  clear h
  by_cases c4 : (a0.size : Int) < 2
  · rw [if_pos c4] at H
    have c4b0 : decide ((a0.size : Int) < 2) = true := decide_eq_true c4
    have c4b1 : decide (a0.size < 2) = true := decide_eq_true (by omega)
    clear c4
    simp only [Option.some.injEq, Prod.mk.injEq] at H
    obtain ⟨rfl, rfl, rfl, rfl, rfl, rfl, rfl⟩ := H
    go_enter Tryd.func51, Tryd.ntmps51
    go_wp2_with (first | ((with_reducible refine gate_dst (N := 6) rfl ?_); refine box_event ?hg (N := 6) ?hd (cs := #[.int .i64 0, .string (⟨#[]⟩ : ByteArray), .int .i64 0, .int .i64 0]) (t := 55) ?hr ?_; (case hd => rfl); (case hg => rfl); (case hr => first | (go_simp; done) | (go_simp; rfl)); intro gb120 hg w5 hbox hb; have n0_ := Aside0.mk (below_step bw hb); have n1_ := Aside0.mk (hbox); have n2_ := Aside0.mk ((by rw [hg]; exact (below_size bw) : w.heap.size ≤ gb120)); have n3_ := Aside0.mk ((by rw [hg]; exact (below_size bw) : w.heap.size ≤ gb120)); clear HB; have HB := n0_; have BK120 := n1_; have GW120 := n2_; have GE120 := n3_; clear n0_ n1_ n2_ n3_; clear hb hbox hg) | ((with_reducible refine gate_dst (N := 10) rfl ?_); refine box_event ?hg (N := 10) ?hd (cs := #[.int .i64 0, .string (⟨#[]⟩ : ByteArray), .int .i64 0, .int .i64 0]) (t := 55) ?hr ?_; (case hd => rfl); (case hg => rfl); (case hr => first | (go_simp; done) | (go_simp; rfl)); intro gb121 hg w6 hbox hb; have n0_ := Aside0.mk (blk_below (bk BK120) hb); have n1_ := Aside0.mk (below_step bw hb); have n2_ := Aside0.mk (hbox); have n3_ := Aside0.mk ((by rw [hg]; exact (below_size bw) : w.heap.size ≤ gb121)); have n4_ := Aside0.mk ((by rw [hg]; exact (below_size bw) : w.heap.size ≤ gb121)); have n5_ := Aside0.mk ((by rw [hg]; exact Nat.ne_of_lt (blk_lt (bk BK120)) : gb120 ≠ gb121)); have n6_ := Aside0.mk ((by rw [hg]; exact Nat.ne_of_gt (blk_lt (bk BK120)) : gb121 ≠ gb120)); clear BK120; clear HB; have BK120 := n0_; have HB := n1_; have BK121 := n2_; have GW121 := n3_; have GE121 := n4_; have NB120_121 := n5_; have NB121_120 := n6_; clear n0_ n1_ n2_ n3_ n4_ n5_ n6_; clear hb hbox hg; have hnb7 := NB121_120.out; have hnc7 := NB120_121.out; obtain ⟨hcz8_0, hcz8_1, hcz8_2, hcz8_3, hfz8_0, hfz8_1, hfz8_2, hfz8_3⟩ := cells4 BK121; obtain ⟨hcz9_0, hcz9_1, hcz9_2, hcz9_3, hfz9_0, hfz9_1, hfz9_2, hfz9_3⟩ := cells4 BK120))
    refine bodyPost_ret (results_list (rs := [.cell 6 55, .tmp 7, .tmp 8, .tmp 9]) rfl (by simp) (.cell gb120 55 #[.int .i64 0, .string (⟨#[]⟩ : ByteArray), .int .i64 0, .int .i64 0] (0, 0) _ rfl (bpf BK120) Tryd.underlying55 rfl (by kernel_rfl) (.tmp (.tmp (.tmp .nil))))) rfl ?_
    exact ⟨by first | rfl | (simp [errW_none, errW_some] <;> rfl) | (simp [*, errW_none, errW_some] <;> rfl), bw⟩
  · rw [if_neg c4] at H
    have c4b0 : decide ((a0.size : Int) < 2) = false := decide_eq_false c4
    have c4b1 : decide (a0.size < 2) = false := decide_eq_false (by omega)
    clear c4
    by_cases c10 : 1 ≤ (a0.size : Int)
    · rw [if_pos c10] at H
      have c10b0 := eq_true c10
      have c10b1 : decide (1 ≤ (a0.size : Int)) = true := decide_eq_true c10
      clear c10
      replace H := Option.bind_eq_some_iff.mp H
      obtain ⟨⟨t122, t123, t124⟩, A110, H⟩ := H
      replace H : (if t124 = true then (if 1 ≤ (wrap64 (1 + t123)) then (if (wrap64 (1 + t123)) ≤ (a0.size : Int) then (some (a1, a0.extract 1 ((wrap64 (1 + t123)) : Int).toNat, 0, 0, wrap64 (1 + t123), 0, 0)) else (none)) else (none)) else (some (0, (⟨#[]⟩ : ByteArray), 0, 0, 0, 1, 4))) = some (r1, r2, r3, r4, r5, r6, r7) := H
      have A11 := Aside0.mk A110
      clear A110
      by_cases c12 : t124 = true
      · subst c12
        have H1 : (if 1 ≤ (wrap64 (1 + t123)) then (if (wrap64 (1 + t123)) ≤ (a0.size : Int) then (some (a1, a0.extract 1 ((wrap64 (1 + t123)) : Int).toNat, 0, 0, wrap64 (1 + t123), 0, 0)) else (none)) else (none)) = some (r1, r2, r3, r4, r5, r6, r7) := by rw [if_pos rfl] at H; exact H
        clear H
        have H := H1
        clear H1
        by_cases c13 : 1 ≤ (wrap64 (1 + t123))
        · rw [if_pos c13] at H
          have c13b0 := eq_true c13
          have c13b1 : decide (1 ≤ (wrap64 (1 + t123))) = true := decide_eq_true c13
          by_cases c14 : (wrap64 (1 + t123)) ≤ (a0.size : Int)
          · rw [if_pos c14] at H
            have c14b0 := eq_true c14
            have c14b1 : decide ((wrap64 (1 + t123)) ≤ (a0.size : Int)) = true := decide_eq_true c14
            simp only [Option.some.injEq, Prod.mk.injEq] at H
            obtain ⟨rfl, rfl, rfl, rfl, rfl, rfl, rfl⟩ := H
            go_enter Tryd.func51, Tryd.ntmps51
            go_wp2_with (first | ((with_reducible refine gate_dst (N := 6) rfl ?_); refine box_event ?hg (N := 6) ?hd (cs := #[.int .i64 0, .string (⟨#[]⟩ : ByteArray), .int .i64 0, .int .i64 0]) (t := 55) ?hr ?_; (case hd => rfl); (case hg => rfl); (case hr => first | (go_simp; done) | (go_simp; rfl)); intro gb120 hg w15 hbox hb; have n0_ := Aside0.mk (below_step bw hb); have n1_ := Aside0.mk (hbox); have n2_ := Aside0.mk ((by rw [hg]; exact (below_size bw) : w.heap.size ≤ gb120)); have n3_ := Aside0.mk ((by rw [hg]; exact (below_size bw) : w.heap.size ≤ gb120)); clear HB; have HB := n0_; have BK120 := n1_; have GW120 := n2_; have GE120 := n3_; clear n0_ n1_ n2_ n3_; clear hb hbox hg) | ((with_reducible refine gate_dst (N := 10) rfl ?_); refine box_event ?hg (N := 10) ?hd (cs := #[.int .i64 0, .string (⟨#[]⟩ : ByteArray), .int .i64 0, .int .i64 0]) (t := 55) ?hr ?_; (case hd => rfl); (case hg => rfl); (case hr => first | (go_simp; done) | (go_simp; rfl)); intro gb121 hg w16 hbox hb; have n0_ := Aside0.mk (blk_below (bk BK120) hb); have n1_ := Aside0.mk (below_step bw hb); have n2_ := Aside0.mk (hbox); have n3_ := Aside0.mk ((by rw [hg]; exact (below_size bw) : w.heap.size ≤ gb121)); have n4_ := Aside0.mk ((by rw [hg]; exact (below_size bw) : w.heap.size ≤ gb121)); have n5_ := Aside0.mk ((by rw [hg]; exact Nat.ne_of_lt (blk_lt (bk BK120)) : gb120 ≠ gb121)); have n6_ := Aside0.mk ((by rw [hg]; exact Nat.ne_of_gt (blk_lt (bk BK120)) : gb121 ≠ gb120)); clear BK120; clear HB; have BK120 := n0_; have HB := n1_; have BK121 := n2_; have GW121 := n3_; have GE121 := n4_; have NB120_121 := n5_; have NB121_120 := n6_; clear n0_ n1_ n2_ n3_ n4_ n5_ n6_; clear hb hbox hg; have hnb17 := NB121_120.out; have hnc17 := NB120_121.out; obtain ⟨hcz18_0, hcz18_1, hcz18_2, hcz18_3, hfz18_0, hfz18_1, hfz18_2, hfz18_3⟩ := cells4 BK121) | ((with_reducible refine gate_callee (f := 20) rfl ?_); refine goesL_ (some 23) rfl rfl Tryd.func20 (by kernel_rfl) rfl #[.string (a0.extract 1 a0.size)] rfl (by (try simp only [List.map_toArray, List.map_cons, List.map_nil]); first | done | rfl | (simp only [List.length_drop, List.length_take]; rfl)) ?_; (with_reducible refine (numeraryref01_First.calls k (a0.extract 1 a0.size) t122 t123 true _ A11.out).mono ?_); rintro e w19 ⟨rfl, hb⟩; refine ⟨_, rfl, ?_⟩; have n0_ := Aside0.mk (blk_below (g := gb120) (o := .cells #[.int .i64 0, .string (⟨#[]⟩ : ByteArray), .int .i64 0, .int .i64 0] 55 (0, 0)) (by (with_reducible repeat (first | refine blk_drewN ?_ _ | refine blk_drew ?_ | refine blk_alloc ?_ _)); refine blk_far ?_ NB120_121.out _; (with_reducible repeat (first | refine blk_drewN ?_ _ | refine blk_drew ?_ | refine blk_alloc ?_ _)); refine blk_far ?_ NB120_121.out _; (with_reducible repeat (first | refine blk_drewN ?_ _ | refine blk_drew ?_ | refine blk_alloc ?_ _)); refine blk_far ?_ NB120_121.out _; (with_reducible repeat (first | refine blk_drewN ?_ _ | refine blk_drew ?_ | refine blk_alloc ?_ _)); refine blk_far ?_ NB120_121.out _; (with_reducible repeat (first | refine blk_drewN ?_ _ | refine blk_drew ?_ | refine blk_alloc ?_ _)); exact BK120.out) hb); have n1_ := Aside0.mk (blk_below (g := gb121) (o := .cells #[.int .i64 0, .string (⟨#[]⟩ : ByteArray), .int .i64 0, .int .i64 0] 55 (0, 0)) (bp BK121) hb); have n2_ := Aside0.mk (below_step bw hb); clear BK120; clear BK121; clear HB; have BK120 := n0_; have BK121 := n1_; have HB := n2_; clear n0_ n1_ n2_; (try clear hb); (try clear hb2); (try clear hk); (try clear hi); obtain ⟨hcz20_0, hcz20_1, hcz20_2, hcz20_3, hfz20_0, hfz20_1, hfz20_2, hfz20_3⟩ := cells4 BK120))
            refine bodyPost_ret (results_list (rs := [.cell 6 55, .tmp 7, .tmp 8, .tmp 9]) rfl (by simp) (.cell gb120 55 #[.int .i64 a1, .string (a0.extract 1 ((wrap64 (1 + t123)) : Int).toNat), .int .i64 0, .int .i64 0] (0, 0) _ rfl (bp BK120) Tryd.underlying55 rfl (by kernel_rfl) (.tmp (.tmp (.tmp .nil))))) rfl ?_
            exact ⟨by first | rfl | (simp [errW_none, errW_some] <;> rfl) | (simp [*, errW_none, errW_some] <;> rfl), bw⟩
          · rw [if_neg c14] at H
            exact absurd H (by simp)
        · rw [if_neg c13] at H
          exact absurd H (by simp)
      · replace c12 := Bool.eq_false_iff.mpr c12
        subst c12
        have H1 : (some (0, (⟨#[]⟩ : ByteArray), 0, 0, 0, 1, 4)) = some (r1, r2, r3, r4, r5, r6, r7) := by rw [if_neg (show ¬ (false = true) by decide)] at H; exact H
        clear H
        have H := H1
        clear H1
        simp only [Option.some.injEq, Prod.mk.injEq] at H
        obtain ⟨rfl, rfl, rfl, rfl, rfl, rfl, rfl⟩ := H
        go_enter Tryd.func51, Tryd.ntmps51
        go_wp2_with (first | ((with_reducible refine gate_dst (N := 6) rfl ?_); refine box_event ?hg (N := 6) ?hd (cs := #[.int .i64 0, .string (⟨#[]⟩ : ByteArray), .int .i64 0, .int .i64 0]) (t := 55) ?hr ?_; (case hd => rfl); (case hg => rfl); (case hr => first | (go_simp; done) | (go_simp; rfl)); intro gb120 hg w21 hbox hb; have n0_ := Aside0.mk (below_step bw hb); have n1_ := Aside0.mk (hbox); have n2_ := Aside0.mk ((by rw [hg]; exact (below_size bw) : w.heap.size ≤ gb120)); have n3_ := Aside0.mk ((by rw [hg]; exact (below_size bw) : w.heap.size ≤ gb120)); clear HB; have HB := n0_; have BK120 := n1_; have GW120 := n2_; have GE120 := n3_; clear n0_ n1_ n2_ n3_; clear hb hbox hg) | ((with_reducible refine gate_dst (N := 10) rfl ?_); refine box_event ?hg (N := 10) ?hd (cs := #[.int .i64 0, .string (⟨#[]⟩ : ByteArray), .int .i64 0, .int .i64 0]) (t := 55) ?hr ?_; (case hd => rfl); (case hg => rfl); (case hr => first | (go_simp; done) | (go_simp; rfl)); intro gb121 hg w22 hbox hb; have n0_ := Aside0.mk (blk_below (bk BK120) hb); have n1_ := Aside0.mk (below_step bw hb); have n2_ := Aside0.mk (hbox); have n3_ := Aside0.mk ((by rw [hg]; exact (below_size bw) : w.heap.size ≤ gb121)); have n4_ := Aside0.mk ((by rw [hg]; exact (below_size bw) : w.heap.size ≤ gb121)); have n5_ := Aside0.mk ((by rw [hg]; exact Nat.ne_of_lt (blk_lt (bk BK120)) : gb120 ≠ gb121)); have n6_ := Aside0.mk ((by rw [hg]; exact Nat.ne_of_gt (blk_lt (bk BK120)) : gb121 ≠ gb120)); clear BK120; clear HB; have BK120 := n0_; have HB := n1_; have BK121 := n2_; have GW121 := n3_; have GE121 := n4_; have NB120_121 := n5_; have NB121_120 := n6_; clear n0_ n1_ n2_ n3_ n4_ n5_ n6_; clear hb hbox hg; have hnb23 := NB121_120.out; have hnc23 := NB120_121.out; obtain ⟨hcz24_0, hcz24_1, hcz24_2, hcz24_3, hfz24_0, hfz24_1, hfz24_2, hfz24_3⟩ := cells4 BK121) | ((with_reducible refine gate_callee (f := 20) rfl ?_); refine goesL_ (some 23) rfl rfl Tryd.func20 (by kernel_rfl) rfl #[.string (a0.extract 1 a0.size)] rfl (by (try simp only [List.map_toArray, List.map_cons, List.map_nil]); first | done | rfl | (simp only [List.length_drop, List.length_take]; rfl)) ?_; (with_reducible refine (numeraryref01_First.calls k (a0.extract 1 a0.size) t122 t123 false _ A11.out).mono ?_); rintro e w25 ⟨rfl, hb⟩; refine ⟨_, rfl, ?_⟩; have n0_ := Aside0.mk (blk_below (g := gb120) (o := .cells #[.int .i64 0, .string (⟨#[]⟩ : ByteArray), .int .i64 0, .int .i64 0] 55 (0, 0)) (by (with_reducible repeat (first | refine blk_drewN ?_ _ | refine blk_drew ?_ | refine blk_alloc ?_ _)); refine blk_far ?_ NB120_121.out _; (with_reducible repeat (first | refine blk_drewN ?_ _ | refine blk_drew ?_ | refine blk_alloc ?_ _)); refine blk_far ?_ NB120_121.out _; (with_reducible repeat (first | refine blk_drewN ?_ _ | refine blk_drew ?_ | refine blk_alloc ?_ _)); refine blk_far ?_ NB120_121.out _; (with_reducible repeat (first | refine blk_drewN ?_ _ | refine blk_drew ?_ | refine blk_alloc ?_ _)); refine blk_far ?_ NB120_121.out _; (with_reducible repeat (first | refine blk_drewN ?_ _ | refine blk_drew ?_ | refine blk_alloc ?_ _)); exact BK120.out) hb); have n1_ := Aside0.mk (blk_below (g := gb121) (o := .cells #[.int .i64 0, .string (⟨#[]⟩ : ByteArray), .int .i64 0, .int .i64 0] 55 (0, 0)) (bp BK121) hb); have n2_ := Aside0.mk (below_step bw hb); clear BK120; clear BK121; clear HB; have BK120 := n0_; have BK121 := n1_; have HB := n2_; clear n0_ n1_ n2_; (try clear hb); (try clear hb2); (try clear hk); (try clear hi); obtain ⟨hcz26_0, hcz26_1, hcz26_2, hcz26_3, hfz26_0, hfz26_1, hfz26_2, hfz26_3⟩ := cells4 BK121; obtain ⟨hcz27_0, hcz27_1, hcz27_2, hcz27_3, hfz27_0, hfz27_1, hfz27_2, hfz27_3⟩ := cells4 BK120))
        refine bodyPost_ret (results_list (rs := [.cell 6 55, .tmp 7, .tmp 8, .tmp 9]) rfl (by simp) (.cell gb120 55 #[.int .i64 0, .string (⟨#[]⟩ : ByteArray), .int .i64 0, .int .i64 0] (0, 0) _ rfl (bp BK120) Tryd.underlying55 rfl (by kernel_rfl) (.tmp (.tmp (.tmp .nil))))) rfl ?_
        exact ⟨by first | rfl | (simp [errW_none, errW_some] <;> rfl) | (simp [*, errW_none, errW_some] <;> rfl), bw⟩
    · rw [if_neg c10] at H
      exact absurd H (by simp)

-- by hand: numeraryref11_low

/-! ### numeraryref11_begins: function 52 -/
def numeraryref11_begins.f (a0 : ByteArray) (a1 : ByteArray) : Option (Bool) := if (a0.size : Int) < (a1.size : Int) then (some false) else (if 0 ≤ (a1.size : Int) then (if (a1.size : Int) ≤ (a0.size : Int) then ((numeraryref11_low.f (a0.extract 0 ((a1.size : Int) : Int).toNat)).bind fun t125 => (some (t125.toList == a1.toList))) else (none)) else (none))
set_option maxHeartbeats 8000000 in
set_option maxRecDepth 100000 in
theorem numeraryref11_begins.calls (a0 : ByteArray) (a1 : ByteArray) (r : Bool) (w : World) (h : numeraryref11_begins.f a0 a1 = some r) :
    Calls Tryd.prog 52 #[.string a0, .string a1] w fun e w' => e = .returned (.bool r) ∧ Below w.heap.size w w' := by
  have HB := Aside0.mk (Below.refl w.heap.size w)
  have H : (if (a0.size : Int) < (a1.size : Int) then (some false) else (if 0 ≤ (a1.size : Int) then (if (a1.size : Int) ≤ (a0.size : Int) then ((numeraryref11_low.f (a0.extract 0 ((a1.size : Int) : Int).toNat)).bind fun t125 => (some (t125.toList == a1.toList))) else (none)) else (none))) = some r := h
  clear h
  by_cases c3 : (a0.size : Int) < (a1.size : Int)
  · rw [if_pos c3] at H
    have c3b0 : decide ((a0.size : Int) < (a1.size : Int)) = true := decide_eq_true c3
    have c3b1 : decide (a0.size < a1.size) = true := decide_eq_true (Int.ofNat_lt.mp c3)
    clear c3
    obtain rfl := Option.some.inj H
    go_enter Tryd.func52, Tryd.ntmps52
    go_wp2
    go_ret
    exact ⟨by first | rfl | (simp [errW_none, errW_some] <;> rfl) | (simp [*, errW_none, errW_some] <;> rfl), bw⟩
  · rw [if_neg c3] at H
    have c3b0 : decide ((a0.size : Int) < (a1.size : Int)) = false := decide_eq_false c3
    have c3b1 : decide (a0.size < a1.size) = false := decide_eq_false (fun h => c3 (Int.ofNat_lt.mpr h))
    clear c3
    by_cases c4 : 0 ≤ (a1.size : Int)
    · rw [if_pos c4] at H
      have c4b0 := eq_true c4
      have c4b1 : decide (0 ≤ (a1.size : Int)) = true := decide_eq_true c4
      clear c4
      by_cases c5 : (a1.size : Int) ≤ (a0.size : Int)
      · rw [if_pos c5] at H
        have c5b0 := eq_true c5
        have c5b1 : decide ((a1.size : Int) ≤ (a0.size : Int)) = true := decide_eq_true c5
        clear c5
        replace H := Option.bind_eq_some_iff.mp H
        obtain ⟨t125, A60, H⟩ := H
        replace H : (some (t125.toList == a1.toList)) = some r := H
        have A6 := Aside0.mk A60
        clear A60
        obtain rfl := Option.some.inj H
        go_enter Tryd.func52, Tryd.ntmps52
        go_wp2_with (first | ((with_reducible refine gate_callee (f := 53) rfl ?_); refine goesL_ (some 15) rfl rfl Tryd.func53 (by kernel_rfl) rfl #[.string (a0.extract 0 ((a1.size : Int) : Int).toNat)] rfl (by (try simp only [List.map_toArray, List.map_cons, List.map_nil]); first | done | rfl | (simp only [List.length_drop, List.length_take]; rfl)) ?_; (with_reducible refine (numeraryref11_low.calls (a0.extract 0 ((a1.size : Int) : Int).toNat) t125 _ A6.out).mono ?_); rintro e w7 ⟨rfl, hb⟩; refine ⟨_, rfl, ?_⟩; have n0_ := Aside0.mk (below_step bw hb); clear HB; have HB := n0_; clear n0_; (try clear hb); (try clear hb2); (try clear hk); (try clear hi)))
        go_ret
        exact ⟨by first | rfl | (simp [errW_none, errW_some] <;> rfl) | (simp [*, errW_none, errW_some] <;> rfl), bw⟩
      · rw [if_neg c5] at H
        exact absurd H (by simp)
    · rw [if_neg c4] at H
      exact absurd H (by simp)

/-- THE ONE PURE STATEMENT of numeraryref11_begins: yours. -/
def numeraryref11_begins.Pure : Prop := ∀ (a0 : ByteArray) (a1 : ByteArray), a0.size ≤ 140737488351232 → a1.size ≤ 140737488351232 → numeraryref11_begins.f a0 a1 = some true
theorem numeraryref11_begins.walk (P : numeraryref11_begins.Pure) (a0 : ByteArray) (a1 : ByteArray) (w : World) (w0 : a0.size ≤ 140737488351232) (w1 : a1.size ≤ 140737488351232) :
    Calls Tryd.prog 52 #[.string a0, .string a1] w fun e w' => e = .returned (.bool true) ∧ Below w.heap.size w w' := by
  have h := P a0 a1 w0 w1
  refine (numeraryref11_begins.calls a0 a1 true w h).mono ?_
  rintro e w' ⟨rfl, hd⟩
  exact ⟨rfl, hd⟩

/-! ### numeraryref11_has: function 54 -/
def numeraryref11_has.l0 : Nat → ByteArray → Int → Int → Option (Bool)
  | 0, _, _, _ => none
  | k + 1, x0, x1, x5 => if x5 < (x0.size : Int) then (if 0 ≤ x5 then (if (bt x0 x5) = x1 then (some true) else (numeraryref11_has.l0 k x0 x1 (wrap64 (x5 + 1)))) else (none)) else (some false)
def numeraryref11_has.f (k : Nat) (a0 : ByteArray) (a1 : Int) : Option (Bool) := numeraryref11_has.l0 k a0 a1 0
theorem numeraryref11_has.mono_l : ∀ k, (∀ y0 y1 y2, LeO (numeraryref11_has.l0 k y0 y1 y2) (numeraryref11_has.l0 (k + 1) y0 y1 y2))
  | 0 => fun _ _ _ r h => by simp [numeraryref11_has.l0] at h
  | k + 1 => by
    have ih0 := numeraryref11_has.mono_l k
    · intro y0 y1 y2
      unfold numeraryref11_has.l0
      repeat' first
      | (with_reducible exact ih0 _ _ _)
      | (with_reducible exact LeO.refl _)
      | (with_reducible exact LeO.none _)
      | (with_reducible refine LeO.ite ?_ ?_)
      | (with_reducible refine LeO.bind ?_ (fun _ => ?_))
      | exact ih0 _ _ _
      | exact LeO.none _
      | refine LeO.ite ?_ ?_
      | refine LeO.bind ?_ (fun _ => ?_)
theorem numeraryref11_has.mono : ∀ a0 a1 k, LeO (numeraryref11_has.f k a0 a1) (numeraryref11_has.f (k + 1) a0 a1) := by
  intro a0 a1 k
  have ih0 := numeraryref11_has.mono_l k
  unfold numeraryref11_has.f
  repeat' first
      | (with_reducible exact ih0 _ _ _)
      | (with_reducible exact LeO.refl _)
      | (with_reducible exact LeO.none _)
      | (with_reducible refine LeO.ite ?_ ?_)
      | (with_reducible refine LeO.bind ?_ (fun _ => ?_))
      | exact ih0 _ _ _
      | exact LeO.none _
      | refine LeO.ite ?_ ?_
      | refine LeO.bind ?_ (fun _ => ?_)
set_option maxHeartbeats 8000000 in
set_option maxRecDepth 100000 in
theorem numeraryref11_has.calls (k : Nat) (a0 : ByteArray) (a1 : Int) (r : Bool) (w : World) (h : numeraryref11_has.f k a0 a1 = some r) :
    Calls Tryd.prog 54 #[.string a0, .int .u8 a1] w fun e w' => e = .returned (.bool r) ∧ Drawn0 w w' := by
  have H : (numeraryref11_has.l0 k a0 a1 0) = some r := h
  clear h
  have H' := Aside0.mk H
  clear H
  go_enter Tryd.func54, Tryd.ntmps54
  go_wp2
  go_loopg [5] k (fun kq v5 w' => ∃ (x5_1 : Int), v5 = .int .i64 x5_1 ∧ Aside0 (numeraryref11_has.l0 kq a0 a1 x5_1 = some r) ∧ Aside0 (kq ≤ k) ∧ Drawn0 w w')
  case atStart => exact ⟨(0), (by first | rfl | (simp; done) | (simp [*]; done)), H', ⟨Nat.le_refl _⟩, by repeat (first | exact Drawn0.refl _ | apply Drawn0.step)⟩
  case round =>
    clear H'
    try clear p2
    obtain ⟨x5_1, rfl, HA, HK1, ⟨m1, rfl⟩⟩ := hrel
    cases gk with
    | zero => exact absurd HA.out (by simp [numeraryref11_has.l0])
    | succ k1 =>
      have H := HA.out
      clear HA
      simp only [numeraryref11_has.l0] at H
      by_cases c3 : x5_1 < (a0.size : Int)
      · rw [if_pos c3] at H
        have c3b0 : decide (x5_1 < (a0.size : Int)) = true := decide_eq_true c3
        clear c3
        by_cases c4 : 0 ≤ x5_1
        · rw [if_pos c4] at H
          have c4b0 : decide (0 ≤ x5_1) = true := decide_eq_true c4
          clear c4
          by_cases c6 : (bt a0 x5_1) = a1
          · rw [if_pos c6] at H
            have c6b0 : ((bt a0 x5_1) == a1) = true := beq_iff_eq.mpr c6
            have c6b1 : ((bt a0 x5_1) != a1) = false := bne_eq_false_iff_eq.mpr c6
            clear c6
            obtain rfl := Option.some.inj H
            have p5 : 0 ≤ (x5_1 : Int) := ode
            have q5 : x5_1 < (a0.size : Int) := ode
            have hx5 := bt_at a0 x5_1
            replace p5 := eq_true p5
            replace q5 := eq_true q5
            go_wp2
            go_ret
            exact ⟨by first | rfl | (simp; done) | (simp [*]; done), by repeat (first | exact Drawn0.refl _ | apply Drawn0.step)⟩
          · rw [if_neg c6] at H
            have c6b0 : ((bt a0 x5_1) == a1) = false := beq_eq_false_iff_ne.mpr c6
            have c6b1 : ((bt a0 x5_1) != a1) = true := bne_iff_ne.mpr c6
            have H' := Aside0.mk H
            clear H
            have p5 : 0 ≤ (x5_1 : Int) := ode
            have q5 : x5_1 < (a0.size : Int) := ode
            have hx5 := bt_at a0 x5_1
            replace p5 := eq_true p5
            replace q5 := eq_true q5
            go_wp2
            go_roundg k1
            case measure => have := HK1.out; omega
            case rel => exact ⟨(wrap64 (x5_1 + 1)), (by first | rfl | (simp; done) | (simp [*]; done)), H', ⟨by have := HK1.out; omega⟩, by repeat (first | exact Drawn0.refl _ | apply Drawn0.step)⟩
        · rw [if_neg c4] at H
          exact absurd H (by simp)
      · rw [if_neg c3] at H
        have c3b0 : decide (x5_1 < (a0.size : Int)) = false := decide_eq_false c3
        clear c3
        obtain rfl := Option.some.inj H
        go_wp2
        go_ret
        exact ⟨by first | rfl | (simp; done) | (simp [*]; done), by repeat (first | exact Drawn0.refl _ | apply Drawn0.step)⟩

/-- THE ONE PURE STATEMENT of numeraryref11_has: yours. -/
def numeraryref11_has.Pure : Prop := ∀ (a0 : ByteArray) (a1 : Int), a0.size ≤ 140737488351232 → (Lit.int .u8 a1).wf = true → ∃ k, numeraryref11_has.f k a0 a1 = some true
theorem numeraryref11_has.walk (P : numeraryref11_has.Pure) (a0 : ByteArray) (a1 : Int) (w : World) (w0 : a0.size ≤ 140737488351232) (w1 : (Lit.int .u8 a1).wf = true) :
    Calls Tryd.prog 54 #[.string a0, .int .u8 a1] w fun e w' => e = .returned (.bool true) ∧ Below w.heap.size w w' := by
  obtain ⟨k, h⟩ := P a0 a1 w0 w1
  refine (numeraryref11_has.calls k a0 a1 true w h).mono ?_
  rintro e w' ⟨rfl, hd⟩
  exact ⟨rfl, hd.below⟩

end Go.Proofs.YtpefkehcibdjgaaDoor.ARfa
