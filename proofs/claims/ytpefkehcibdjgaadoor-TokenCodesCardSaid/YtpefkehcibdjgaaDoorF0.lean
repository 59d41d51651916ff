/- Proved here: the reference's sign at a text's beginning is the plain facts' (the same proof as in R4, over another print). -/
import Derived.Test.YtpefkehcibdjgaaDoorARfax2
import Derived.Test.YtpefkehcibdjgaaDoorR1
import Derived.Laws.BitsLemmas
set_option linter.unusedVariables false
namespace Go.Proofs.YtpefkehcibdjgaaDoor.F
open Go.RowKit Go.Proofs.YtpefkehcibdjgaaDoor.ARfa Go.Proofs.YtpefkehcibdjgaaDoorW.PrintLast Go.Proofs.YtpefkehcibdjgaaDoorW.PrintMore Go.Proofs.YtpefkehcibdjgaaDoor.H Go.Proofs.YtpefkehcibdjgaaDoor.R Go.Lib
open Go.Proofs.YtpefkehcibdjgaaDoorW.PrintWords hiding encs
theorem w64 (n : Int) (h1 : -9223372036854775808 ≤ n) (h2 : n ≤ 9223372036854775807) : wrap64 n = n := by unfold wrap64; omega
theorem ref_is (v : Int) : numeraryref01_Is.f v = some (isB v) := by
  unfold numeraryref01_Is.f isB
  by_cases h1 : v ≥ 0
  · rw [if_pos h1]
    by_cases h2 : v ≤ 1114111
    · rw [if_pos h2]
      by_cases h3 : v < 55296
      · rw [if_pos h3]; congr 1; symm; rw [decide_eq_true_eq]; omega
      · rw [if_neg h3]; congr 1; rw [decide_eq_decide]; omega
    · rw [if_neg h2]; congr 1; symm; rw [decide_eq_false_iff_not]; omega
  · rw [if_neg h1]; congr 1; symm; rw [decide_eq_false_iff_not]; omega
theorem ref_text (v : Int) (h0 : 0 ≤ v) (h1 : v ≤ 1114111) : numeraryref01_Text.f v = some (strOfNums (encB v)) := by
  unfold numeraryref01_Text.f encB
  have d1 : Int.tdiv v 64 = v / 64 := Int.tdiv_eq_ediv_of_nonneg h0
  have d2 : Int.tdiv v 4096 = v / 4096 := Int.tdiv_eq_ediv_of_nonneg h0
  have d3 : Int.tdiv v 262144 = v / 262144 := Int.tdiv_eq_ediv_of_nonneg h0
  have m1 : Int.tmod v 64 = v % 64 := Int.tmod_eq_emod_of_nonneg h0
  have m2 : Int.tmod (v / 64) 64 = v / 64 % 64 := Int.tmod_eq_emod_of_nonneg (by omega)
  have m3 : Int.tmod (v / 4096) 64 = v / 4096 % 64 := Int.tmod_eq_emod_of_nonneg (by omega)
  split
  · have : v % 256 = v := by omega
    rw [this]
  · split
    · rw [d1, m1, w64 (v / 64) (by omega) (by omega), w64 _ (by omega) (by omega), w64 _ (by omega) (by omega)]
      have e1 : (192 + v / 64) % 256 = 192 + v / 64 := by omega
      have e2 : (128 + v % 64) % 256 = 128 + v % 64 := by omega
      rw [e1, e2]
    · split
      · rw [d1, d2, m1, w64 (v / 64) (by omega) (by omega), w64 (v / 4096) (by omega) (by omega), m2, w64 _ (by omega) (by omega), w64 _ (by omega) (by omega), w64 _ (by omega) (by omega)]
        have e1 : (224 + v / 4096) % 256 = 224 + v / 4096 := by omega
        have e2 : (128 + v / 64 % 64) % 256 = 128 + v / 64 % 64 := by omega
        have e3 : (128 + v % 64) % 256 = 128 + v % 64 := by omega
        rw [e1, e2, e3]
      · rw [d1, d2, d3, m1, w64 (v / 64) (by omega) (by omega), w64 (v / 4096) (by omega) (by omega), w64 (v / 262144) (by omega) (by omega), m2, m3, w64 _ (by omega) (by omega), w64 _ (by omega) (by omega), w64 _ (by omega) (by omega), w64 _ (by omega) (by omega)]
        have e1 : (240 + v / 262144) % 256 = 240 + v / 262144 := by omega
        have e2 : (128 + v / 4096 % 64) % 256 = 128 + v / 4096 % 64 := by omega
        have e3 : (128 + v / 64 % 64) % 256 = 128 + v / 64 % 64 := by omega
        have e4 : (128 + v % 64) % 256 = 128 + v % 64 := by omega
        rw [e1, e2, e3, e4]
/-- what the reference makes of so many first bytes -/
def refn (b0 b1 b2 b3 : Int) : Nat → Int
  | 1 => b0
  | 2 => 64 * (b0 - 192) + b1 - 128
  | 3 => 64 * (64 * (b0 - 224) + b1 - 128) + b2 - 128
  | 4 => 64 * (64 * (64 * (b0 - 240) + b1 - 128) + b2 - 128) + b3 - 128
  | _ => 0
def refs (l : List UInt8) (w : Nat) : Int := refn (l.getD 0 0).toNat (l.getD 1 0).toNat (l.getD 2 0).toNat (l.getD 3 0).toNat w
theorem refs_enc (v : Int) (h : isB v = true) (r : List UInt8) : refs (encU v ++ r) (encU v).length = v := by
  have hb := (isB_iff v).1 h
  rcases widthI_cases v with ⟨c, e⟩ | ⟨c1, c2, e⟩ | ⟨c1, c2, e⟩ | ⟨c1, e⟩
  · rw [enc_1 v c]
    exact u8_nat v (by omega) (by omega)
  · rw [enc_2 v c1 c2]
    have e0 := u8_nat (192 + v / 64) (by omega) (by omega)
    have e1 := u8_nat (128 + v % 64) (by omega) (by omega)
    show 64 * (((u8 (192 + v / 64)).toNat : Int) - 192) + ((u8 (128 + v % 64)).toNat : Int) - 128 = v
    rw [e0, e1]; omega
  · rw [enc_3 v c1 c2]
    have e0 := u8_nat (224 + v / 4096) (by omega) (by omega)
    have e1 := u8_nat (128 + v / 64 % 64) (by omega) (by omega)
    have e2 := u8_nat (128 + v % 64) (by omega) (by omega)
    show 64 * (64 * (((u8 (224 + v / 4096)).toNat : Int) - 224) + ((u8 (128 + v / 64 % 64)).toNat : Int) - 128) + ((u8 (128 + v % 64)).toNat : Int) - 128 = v
    rw [e0, e1, e2]; omega
  · rw [enc_4 v c1]
    have e0 := u8_nat (240 + v / 262144) (by omega) (by omega)
    have e1 := u8_nat (128 + v / 4096 % 64) (by omega) (by omega)
    have e2 := u8_nat (128 + v / 64 % 64) (by omega) (by omega)
    have e3 := u8_nat (128 + v % 64) (by omega) (by omega)
    show 64 * (64 * (64 * (((u8 (240 + v / 262144)).toNat : Int) - 240) + ((u8 (128 + v / 4096 % 64)).toNat : Int) - 128) + ((u8 (128 + v / 64 % 64)).toNat : Int) - 128) + ((u8 (128 + v % 64)).toNat : Int) - 128 = v
    rw [e0, e1, e2, e3]; omega
/-- none of the widths below w fits -/
def NoFit (l : List UInt8) (w : Nat) : Prop := ∀ k, 1 ≤ k → k < w → ¬ (isB (refs l k) = true ∧ encU (refs l k) = l.take k)
theorem nofit_end (l : List UInt8) (w : Nat) (h : NoFit l w) (hw : 4 < w ∨ l.length < w) : fL l = (0, 0, false) := by
  rcases fL_cases l with ⟨v, r, hv, hr, -⟩ | h0
  · have hb := enc_len_bd v
    have hl := congrArg List.length hr
    rw [List.length_append] at hl
    have hk := refs_enc v hv r
    rw [← hr] at hk
    exact absurd ⟨by rw [hk]; exact hv, by rw [hk, hr, List.take_left]⟩ (h (encU v).length hb.1 (by omega))
  · exact h0
theorem fit (l : List UInt8) (w : Nat) (hw : w ≤ l.length) (n : Int) (hb : isB n = true) (he : encU n = l.take w) : fL l = (n, (w : Int), true) := by
  have hl : (encU n).length = w := by rw [he, List.length_take]; omega
  have e : l = encU n ++ l.drop w := by rw [he, List.take_append_drop]
  have hw2 := enc_len n
  rw [hl] at hw2
  rw [e, fL_enc n hb, hw2]
theorem bt_at (s : ByteArray) (j : Nat) : bt s (j : Nat) = ((s.data.toList.getD j 0).toNat : Int) := bt_list s.data.toList j
theorem bt0 (s : ByteArray) : bt s 0 = ((s.data.toList.getD 0 0).toNat : Int) := bt_at s 0
theorem bt1 (s : ByteArray) : bt s 1 = ((s.data.toList.getD 1 0).toNat : Int) := bt_at s 1
theorem bt2 (s : ByteArray) : bt s 2 = ((s.data.toList.getD 2 0).toNat : Int) := bt_at s 2
theorem bt3 (s : ByteArray) : bt s 3 = ((s.data.toList.getD 3 0).toNat : Int) := bt_at s 3
theorem firstP_fL (s : ByteArray) : firstP s = fL s.data.toList := rfl
theorem tail_ev (s : ByteArray) (hs : s.size ≤ 1000000) (w : Nat) (h1 : 1 ≤ w) (h4 : w ≤ 4) (hw : w ≤ s.size) (n : Int) (hn : n = refs s.data.toList w) (hF : NoFit s.data.toList w)
    (h : NoFit s.data.toList (w + 1) → Ev (fun k => numeraryref01_First.l0 k s ((w : Int) + 1)) (firstP s)) : Ev (fun k => numeraryref01_First.l1 k s w n w) (firstP s) := by
  have hl : s.data.toList.length = s.size := (Lib.size_eq s).symm
  refine Ev.step (f := fun k => (numeraryref01_Is.f n).bind fun t155 => (if t155 = true then ((numeraryref01_Text.f n).bind fun t156 => (if 0 ≤ (w : Int) then (if (w : Int) ≤ (s.size : Int) then (if t156.toList = (s.extract 0 (w : Int).toNat).toList then (some (n, (w : Int), true)) else (numeraryref01_First.l0 k s ((w : Int) + 1))) else (none)) else (none))) else (numeraryref01_First.l0 k s ((w : Int) + 1)))) (fun k => ?_) ?_
  · show numeraryref01_First.l1 (k + 1) s w n w = _
    rw [numeraryref01_First.l1, if_neg (by omega), w64 ((w : Int) + 1) (by omega) (by omega)]
  · rw [ref_is]
    cases hb : isB n with
    | false =>
      have hF2 : NoFit s.data.toList (w + 1) := fun k hk1 hk2 => by
        by_cases e : k = w
        · subst e; rw [← hn, hb]; simp
        · exact hF k hk1 (by omega)
      exact Ev.congr (fun k => by simp) (h hF2)
    | true =>
      have hv := (isB_iff n).1 hb
      rw [ref_text n hv.1 hv.2.1]
      have e1 : (strOfNums (encB n)).toList = encU n := by rw [Lib.toList_data]; rfl
      have e2 : (s.extract 0 (w : Int).toNat).toList = s.data.toList.take w := by rw [Lib.toList_data, Lib.extract_data]; simp
      by_cases he : encU n = s.data.toList.take w
      · have hfit := fit s.data.toList w (by omega) n hb he
        refine Ev.congr (f := fun _ => some (n, (w : Int), true)) (fun k => ?_) ?_
        · rw [Option.bind_some, if_pos rfl, Option.bind_some, if_pos (by omega), if_pos (by omega), if_pos (by rw [e1, e2]; exact he)]
        · rw [firstP_fL, hfit]; exact Ev.now _
      · have hF2 : NoFit s.data.toList (w + 1) := fun k hk1 hk2 => by
          by_cases e : k = w
          · subst e; rw [← hn]; exact fun hh => he hh.2
          · exact hF k hk1 (by omega)
        refine Ev.congr (fun k => ?_) (h hF2)
        rw [Option.bind_some, if_pos rfl, Option.bind_some, if_pos (by omega), if_pos (by omega), if_neg (by rw [e1, e2]; exact he)]
theorem stop_ev (s : ByteArray) (w : Int) (hw : 4 < w ∨ (s.size : Int) < w) (h : fL s.data.toList = (0, 0, false)) : Ev (fun k => numeraryref01_First.l0 k s w) (firstP s) := by
  rw [firstP_fL, h]
  by_cases h4 : w ≤ 4
  · refine Ev.step (f := fun k => numeraryref01_First.j1 k s w false) (fun k => ?_) ?_
    · show numeraryref01_First.l0 (k + 1) s w = _
      rw [numeraryref01_First.l0, if_pos h4]
      congr 1; rw [decide_eq_false_iff_not]; omega
    · refine Ev.step (f := fun _ => some (0, 0, false)) (fun k => ?_) (Ev.now _)
      show numeraryref01_First.j1 (k + 1) s w false = _
      rw [numeraryref01_First.j1, if_neg (by simp)]
  · refine Ev.step (f := fun k => numeraryref01_First.j1 k s w false) (fun k => ?_) ?_
    · show numeraryref01_First.l0 (k + 1) s w = _
      rw [numeraryref01_First.l0, if_neg h4]
    · refine Ev.step (f := fun _ => some (0, 0, false)) (fun k => ?_) (Ev.now _)
      show numeraryref01_First.j1 (k + 1) s w false = _
      rw [numeraryref01_First.j1, if_neg (by simp)]
/-- the first bytes' own number, at the width w -/
def sub0 (w : Int) (b : Int) : Int := if w = 2 then b - 192 else if w = 3 then b - 224 else if w = 4 then b - 240 else b
theorem head_ev (s : ByteArray) (w : Int) (h1 : 1 ≤ w) (h4 : w ≤ 4) (hw : w ≤ s.size) (r : Int × Int × Bool) (h : Ev (fun k => numeraryref01_First.l1 k s w (sub0 w (bt s 0)) 1) r) : Ev (fun k => numeraryref01_First.l0 k s w) r := by
  have hb := bt_nn s 0
  refine Ev.step (f := fun k => numeraryref01_First.j1 k s w true) (fun k => ?_) ?_
  · show numeraryref01_First.l0 (k + 1) s w = _
    rw [numeraryref01_First.l0, if_pos h4]
    congr 1; rw [decide_eq_true_eq]; omega
  refine Ev.step (f := fun k => numeraryref01_First.j2 k s w (if w = 2 then bt s 0 - 192 else bt s 0)) (fun k => ?_) ?_
  · show numeraryref01_First.j1 (k + 1) s w true = _
    rw [numeraryref01_First.j1, if_pos rfl, if_pos (by omega), w64 (bt s 0) (by omega) (by omega), w64 (bt s 0 - 192) (by omega) (by omega)]
    split <;> rfl
  refine Ev.step (f := fun k => numeraryref01_First.j3 k s w (if w = 3 then bt s 0 - 224 else if w = 2 then bt s 0 - 192 else bt s 0)) (fun k => ?_) ?_
  · show numeraryref01_First.j2 (k + 1) s w _ = _
    rw [numeraryref01_First.j2]
    by_cases h3 : w = 3
    · rw [if_pos h3, if_pos h3, if_neg (by omega), w64 (bt s 0 - 224) (by omega) (by omega)]
    · rw [if_neg h3, if_neg h3]
  refine Ev.step (f := fun k => numeraryref01_First.j4 k s w (sub0 w (bt s 0))) (fun k => ?_) ?_
  · show numeraryref01_First.j3 (k + 1) s w _ = _
    rw [numeraryref01_First.j3]
    unfold sub0
    by_cases h4 : w = 4
    · rw [if_pos h4, if_neg (by omega), if_neg (by omega), w64 (bt s 0 - 240) (by omega) (by omega), if_neg (by omega), if_neg (by omega), if_pos h4]
    · rw [if_neg h4]
      by_cases h3 : w = 3
      · rw [if_pos h3, if_neg (by omega), if_pos h3]
      · rw [if_neg h3]
        by_cases h2 : w = 2
        · rw [if_pos h2, if_pos h2]
        · rw [if_neg h2, if_neg h2, if_neg h3, if_neg h4]
  exact Ev.step (fun k => by show numeraryref01_First.j4 (k + 1) s w _ = _; rw [numeraryref01_First.j4]) h
theorem one_ev (s : ByteArray) (w n i : Int) (hi0 : 1 ≤ i) (hi : i < w) (h4 : w ≤ 4) (hw : w ≤ s.size) (hn0 : -100000000000 ≤ n) (hn1 : n ≤ 100000000000) (r : Int × Int × Bool)
    (h : Ev (fun k => numeraryref01_First.l1 k s w (64 * n + bt s i - 128) (i + 1)) r) : Ev (fun k => numeraryref01_First.l1 k s w n i) r := by
  have hb := bt_nn s i
  refine Ev.step (fun k => ?_) h
  show numeraryref01_First.l1 (k + 1) s w n i = _
  rw [numeraryref01_First.l1, if_pos hi, if_pos (by omega), if_pos (by omega), w64 (64 * n) (by omega) (by omega), w64 (bt s i) (by omega) (by omega), w64 (64 * n + bt s i) (by omega) (by omega), w64 _ (by omega) (by omega), w64 (i + 1) (by omega) (by omega)]
theorem ref_first (s : ByteArray) (hs : s.size ≤ 1000000) : Ev (fun k => numeraryref01_First.f k s) (firstP s) := by
  have n0 := bt_nn s 0; have n1 := bt_nn s 1; have n2 := bt_nn s 2; have n3 := bt_nn s 3
  have hlen : s.data.toList.length = s.size := (Lib.size_eq s).symm
  by_cases h0 : s.size = 0
  · refine Ev.congr (f := fun _ => some (0, 0, false)) (fun k => ?_) ?_
    · show (if (s.size : Int) = 0 then _ else _) = _
      rw [if_pos (by omega)]
    · have : firstP s = (0, 0, false) := by unfold firstP; dsimp only; rw [if_pos h0]
      rw [this]; exact Ev.now _
  · refine Ev.congr (f := fun k => numeraryref01_First.l0 k s 1) (fun k => ?_) ?_
    · show (if (s.size : Int) = 0 then _ else _) = _
      rw [if_neg (by omega)]
    have F1 : NoFit s.data.toList 1 := fun k h1 h2 => by omega
    refine head_ev s 1 (by omega) (by omega) (by omega) _ ?_
    refine tail_ev s hs 1 (by omega) (by omega) (by omega) _ (by show bt s 0 = _; rw [bt0]; rfl) F1 (fun F2 => ?_)
    by_cases s2 : 2 ≤ s.size
    · refine head_ev s 2 (by omega) (by omega) (by omega) _ ?_
      refine one_ev s 2 (bt s 0 - 192) 1 (by omega) (by omega) (by omega) (by omega) (by omega) (by omega) _ ?_
      refine tail_ev s hs 2 (by omega) (by omega) (by omega) _ (by rw [bt0, bt1]; rfl) F2 (fun F3 => ?_)
      by_cases s3 : 3 ≤ s.size
      · refine head_ev s 3 (by omega) (by omega) (by omega) _ ?_
        refine one_ev s 3 (bt s 0 - 224) 1 (by omega) (by omega) (by omega) (by omega) (by omega) (by omega) _ ?_
        refine one_ev s 3 _ 2 (by omega) (by omega) (by omega) (by omega) (by omega) (by omega) _ ?_
        refine tail_ev s hs 3 (by omega) (by omega) (by omega) _ (by rw [bt0, bt1, bt2]; rfl) F3 (fun F4 => ?_)
        by_cases s4 : 4 ≤ s.size
        · refine head_ev s 4 (by omega) (by omega) (by omega) _ ?_
          refine one_ev s 4 (bt s 0 - 240) 1 (by omega) (by omega) (by omega) (by omega) (by omega) (by omega) _ ?_
          refine one_ev s 4 _ 2 (by omega) (by omega) (by omega) (by omega) (by omega) (by omega) _ ?_
          refine one_ev s 4 _ 3 (by omega) (by omega) (by omega) (by omega) (by omega) (by omega) _ ?_
          refine tail_ev s hs 4 (by omega) (by omega) (by omega) _ (by rw [bt0, bt1, bt2, bt3]; rfl) F4 (fun F5 => ?_)
          exact stop_ev s 5 (by omega) (nofit_end _ 5 F5 (by omega))
        · exact stop_ev s 4 (by omega) (nofit_end _ 4 F4 (by omega))
      · exact stop_ev s 3 (by omega) (nofit_end _ 3 F3 (by omega))
    · exact stop_ev s 2 (by omega) (nofit_end _ 2 F2 (by omega))
end Go.Proofs.YtpefkehcibdjgaaDoor.F
