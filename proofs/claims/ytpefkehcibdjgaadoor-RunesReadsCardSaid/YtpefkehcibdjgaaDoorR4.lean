/- Proved here: the reference's sign at a text's beginning and all its signs are the plain facts'; the printed form of the law RunesReads answers true at every input of its kinds; no further condition. -/
import Derived.Test.YtpefkehcibdjgaaDoorQRunx3
import Derived.Test.YtpefkehcibdjgaaDoorR2
namespace Go.Proofs.YtpefkehcibdjgaaDoor.R
open Go.RowKit Go.Proofs.YtpefkehcibdjgaaDoor.QRun Go.Proofs.YtpefkehcibdjgaaDoorW.PrintWords Go.Proofs.YtpefkehcibdjgaaDoorW.PrintLast Go.Proofs.YtpefkehcibdjgaaDoorW.PrintMore Go.Proofs.YtpefkehcibdjgaaDoor.H Go.Lib
/-- what the reference makes of so many first bytes -/
def refn (b0 b1 b2 b3 : Int) : Nat → Int
  | 1 => b0
  | 2 => 64 * (b0 - 192) + b1 - 128
  | 3 => 64 * (64 * (b0 - 224) + b1 - 128) + b2 - 128
  | 4 => 64 * (64 * (64 * (b0 - 240) + b1 - 128) + b2 - 128) + b3 - 128
  | _ => 0
def refs (l : List UInt8) (w : Nat) : Int := refn (l.getD 0 0).toNat (l.getD 1 0).toNat (l.getD 2 0).toNat (l.getD 3 0).toNat w
theorem refs_enc (v : Int) (h : isB v = true) (r : List UInt8) : refs (encU v ++ r) (encU v).length = v := by
  have hb := (isB_iff v).1 h
  rcases widthI_cases v with ⟨c, e⟩ | ⟨c1, c2, e⟩ | ⟨c1, c2, e⟩ | ⟨c1, e⟩
  · rw [enc_1 v c]
    exact u8_nat v (by omega) (by omega)
  · rw [enc_2 v c1 c2]
    have e0 := u8_nat (192 + v / 64) (by omega) (by omega)
    have e1 := u8_nat (128 + v % 64) (by omega) (by omega)
    show 64 * (((u8 (192 + v / 64)).toNat : Int) - 192) + ((u8 (128 + v % 64)).toNat : Int) - 128 = v
    rw [e0, e1]; omega
  · rw [enc_3 v c1 c2]
    have e0 := u8_nat (224 + v / 4096) (by omega) (by omega)
    have e1 := u8_nat (128 + v / 64 % 64) (by omega) (by omega)
    have e2 := u8_nat (128 + v % 64) (by omega) (by omega)
    show 64 * (64 * (((u8 (224 + v / 4096)).toNat : Int) - 224) + ((u8 (128 + v / 64 % 64)).toNat : Int) - 128) + ((u8 (128 + v % 64)).toNat : Int) - 128 = v
    rw [e0, e1, e2]; omega
  · rw [enc_4 v c1]
    have e0 := u8_nat (240 + v / 262144) (by omega) (by omega)
    have e1 := u8_nat (128 + v / 4096 % 64) (by omega) (by omega)
    have e2 := u8_nat (128 + v / 64 % 64) (by omega) (by omega)
    have e3 := u8_nat (128 + v % 64) (by omega) (by omega)
    show 64 * (64 * (64 * (((u8 (240 + v / 262144)).toNat : Int) - 240) + ((u8 (128 + v / 4096 % 64)).toNat : Int) - 128) + ((u8 (128 + v / 64 % 64)).toNat : Int) - 128) + ((u8 (128 + v % 64)).toNat : Int) - 128 = v
    rw [e0, e1, e2, e3]; omega
/-- none of the widths below w fits -/
def NoFit (l : List UInt8) (w : Nat) : Prop := ∀ k, 1 ≤ k → k < w → ¬ (isB (refs l k) = true ∧ encU (refs l k) = l.take k)
theorem nofit_end (l : List UInt8) (w : Nat) (h : NoFit l w) (hw : 4 < w ∨ l.length < w) : fL l = (0, 0, false) := by
  rcases fL_cases l with ⟨v, r, hv, hr, -⟩ | h0
  · have hb := enc_len_bd v
    have hl := congrArg List.length hr
    rw [List.length_append] at hl
    have hk := refs_enc v hv r
    rw [← hr] at hk
    exact absurd ⟨by rw [hk]; exact hv, by rw [hk, hr, List.take_left]⟩ (h (encU v).length hb.1 (by omega))
  · exact h0
theorem fit (l : List UInt8) (w : Nat) (hw : w ≤ l.length) (n : Int) (hb : isB n = true) (he : encU n = l.take w) : fL l = (n, (w : Int), true) := by
  have hl : (encU n).length = w := by rw [he, List.length_take]; omega
  have e : l = encU n ++ l.drop w := by rw [he, List.take_append_drop]
  have hw2 := enc_len n
  rw [hl] at hw2
  rw [e, fL_enc n hb, hw2]
theorem bt_at (s : ByteArray) (j : Nat) : bt s (j : Nat) = ((s.data.toList.getD j 0).toNat : Int) := bt_list s.data.toList j
theorem bt0 (s : ByteArray) : bt s 0 = ((s.data.toList.getD 0 0).toNat : Int) := bt_at s 0
theorem bt1 (s : ByteArray) : bt s 1 = ((s.data.toList.getD 1 0).toNat : Int) := bt_at s 1
theorem bt2 (s : ByteArray) : bt s 2 = ((s.data.toList.getD 2 0).toNat : Int) := bt_at s 2
theorem bt3 (s : ByteArray) : bt s 3 = ((s.data.toList.getD 3 0).toNat : Int) := bt_at s 3
theorem firstP_fL (s : ByteArray) : firstP s = fL s.data.toList := rfl
theorem tail_ev (s : ByteArray) (hs : s.size ≤ 1000000) (w : Nat) (h1 : 1 ≤ w) (h4 : w ≤ 4) (hw : w ≤ s.size) (n : Int) (hn : n = refs s.data.toList w) (hF : NoFit s.data.toList w)
    (h : NoFit s.data.toList (w + 1) → Ev (fun k => numeraryref01_First.l0 k s ((w : Int) + 1)) (firstP s)) : Ev (fun k => numeraryref01_First.l1 k s w n w) (firstP s) := by
  have hl : s.data.toList.length = s.size := (Lib.size_eq s).symm
  refine Ev.step (f := fun k => (numeraryref01_Is.f n).bind fun t155 => (if t155 = true then ((numeraryref01_Text.f n).bind fun t156 => (if 0 ≤ (w : Int) then (if (w : Int) ≤ (s.size : Int) then (if t156.toList = (s.extract 0 (w : Int).toNat).toList then (some (n, (w : Int), true)) else (numeraryref01_First.l0 k s ((w : Int) + 1))) else (none)) else (none))) else (numeraryref01_First.l0 k s ((w : Int) + 1)))) (fun k => ?_) ?_
  · show numeraryref01_First.l1 (k + 1) s w n w = _
    rw [numeraryref01_First.l1, if_neg (by omega), w64 ((w : Int) + 1) (by omega) (by omega)]
  · rw [ref_is]
    cases hb : isB n with
    | false =>
      have hF2 : NoFit s.data.toList (w + 1) := fun k hk1 hk2 => by
        by_cases e : k = w
        · subst e; rw [← hn, hb]; simp
        · exact hF k hk1 (by omega)
      exact Ev.congr (fun k => by simp) (h hF2)
    | true =>
      have hv := (isB_iff n).1 hb
      rw [ref_text n hv.1 hv.2.1]
      have e1 : (strOfNums (encB n)).toList = encU n := by rw [Lib.toList_data]; rfl
      have e2 : (s.extract 0 (w : Int).toNat).toList = s.data.toList.take w := by rw [Lib.toList_data, Lib.extract_data]; simp
      by_cases he : encU n = s.data.toList.take w
      · have hfit := fit s.data.toList w (by omega) n hb he
        refine Ev.congr (f := fun _ => some (n, (w : Int), true)) (fun k => ?_) ?_
        · rw [Option.bind_some, if_pos rfl, Option.bind_some, if_pos (by omega), if_pos (by omega), if_pos (by rw [e1, e2]; exact he)]
        · rw [firstP_fL, hfit]; exact Ev.now _
      · have hF2 : NoFit s.data.toList (w + 1) := fun k hk1 hk2 => by
          by_cases e : k = w
          · subst e; rw [← hn]; exact fun hh => he hh.2
          · exact hF k hk1 (by omega)
        refine Ev.congr (fun k => ?_) (h hF2)
        rw [Option.bind_some, if_pos rfl, Option.bind_some, if_pos (by omega), if_pos (by omega), if_neg (by rw [e1, e2]; exact he)]
theorem stop_ev (s : ByteArray) (w : Int) (hw : 4 < w ∨ (s.size : Int) < w) (h : fL s.data.toList = (0, 0, false)) : Ev (fun k => numeraryref01_First.l0 k s w) (firstP s) := by
  rw [firstP_fL, h]
  by_cases h4 : w ≤ 4
  · refine Ev.step (f := fun k => numeraryref01_First.j1 k s w false) (fun k => ?_) ?_
    · show numeraryref01_First.l0 (k + 1) s w = _
      rw [numeraryref01_First.l0, if_pos h4]
      congr 1; rw [decide_eq_false_iff_not]; omega
    · refine Ev.step (f := fun _ => some (0, 0, false)) (fun k => ?_) (Ev.now _)
      show numeraryref01_First.j1 (k + 1) s w false = _
      rw [numeraryref01_First.j1, if_neg (by simp)]
  · refine Ev.step (f := fun k => numeraryref01_First.j1 k s w false) (fun k => ?_) ?_
    · show numeraryref01_First.l0 (k + 1) s w = _
      rw [numeraryref01_First.l0, if_neg h4]
    · refine Ev.step (f := fun _ => some (0, 0, false)) (fun k => ?_) (Ev.now _)
      show numeraryref01_First.j1 (k + 1) s w false = _
      rw [numeraryref01_First.j1, if_neg (by simp)]
/-- the first bytes' own number, at the width w -/
def sub0 (w : Int) (b : Int) : Int := if w = 2 then b - 192 else if w = 3 then b - 224 else if w = 4 then b - 240 else b
theorem head_ev (s : ByteArray) (w : Int) (h1 : 1 ≤ w) (h4 : w ≤ 4) (hw : w ≤ s.size) (r : Int × Int × Bool) (h : Ev (fun k => numeraryref01_First.l1 k s w (sub0 w (bt s 0)) 1) r) : Ev (fun k => numeraryref01_First.l0 k s w) r := by
  have hb := bt_nn s 0
  refine Ev.step (f := fun k => numeraryref01_First.j1 k s w true) (fun k => ?_) ?_
  · show numeraryref01_First.l0 (k + 1) s w = _
    rw [numeraryref01_First.l0, if_pos h4]
    congr 1; rw [decide_eq_true_eq]; omega
  refine Ev.step (f := fun k => numeraryref01_First.j2 k s w (if w = 2 then bt s 0 - 192 else bt s 0)) (fun k => ?_) ?_
  · show numeraryref01_First.j1 (k + 1) s w true = _
    rw [numeraryref01_First.j1, if_pos rfl, if_pos (by omega), w64 (bt s 0) (by omega) (by omega), w64 (bt s 0 - 192) (by omega) (by omega)]
    split <;> rfl
  refine Ev.step (f := fun k => numeraryref01_First.j3 k s w (if w = 3 then bt s 0 - 224 else if w = 2 then bt s 0 - 192 else bt s 0)) (fun k => ?_) ?_
  · show numeraryref01_First.j2 (k + 1) s w _ = _
    rw [numeraryref01_First.j2]
    by_cases h3 : w = 3
    · rw [if_pos h3, if_pos h3, if_neg (by omega), w64 (bt s 0 - 224) (by omega) (by omega)]
    · rw [if_neg h3, if_neg h3]
  refine Ev.step (f := fun k => numeraryref01_First.j4 k s w (sub0 w (bt s 0))) (fun k => ?_) ?_
  · show numeraryref01_First.j3 (k + 1) s w _ = _
    rw [numeraryref01_First.j3]
    unfold sub0
    by_cases h4 : w = 4
    · rw [if_pos h4, if_neg (by omega), if_neg (by omega), w64 (bt s 0 - 240) (by omega) (by omega), if_neg (by omega), if_neg (by omega), if_pos h4]
    · rw [if_neg h4]
      by_cases h3 : w = 3
      · rw [if_pos h3, if_neg (by omega), if_pos h3]
      · rw [if_neg h3]
        by_cases h2 : w = 2
        · rw [if_pos h2, if_pos h2]
        · rw [if_neg h2, if_neg h2, if_neg h3, if_neg h4]
  exact Ev.step (fun k => by show numeraryref01_First.j4 (k + 1) s w _ = _; rw [numeraryref01_First.j4]) h
theorem one_ev (s : ByteArray) (w n i : Int) (hi0 : 1 ≤ i) (hi : i < w) (h4 : w ≤ 4) (hw : w ≤ s.size) (hn0 : -100000000000 ≤ n) (hn1 : n ≤ 100000000000) (r : Int × Int × Bool)
    (h : Ev (fun k => numeraryref01_First.l1 k s w (64 * n + bt s i - 128) (i + 1)) r) : Ev (fun k => numeraryref01_First.l1 k s w n i) r := by
  have hb := bt_nn s i
  refine Ev.step (fun k => ?_) h
  show numeraryref01_First.l1 (k + 1) s w n i = _
  rw [numeraryref01_First.l1, if_pos hi, if_pos (by omega), if_pos (by omega), w64 (64 * n) (by omega) (by omega), w64 (bt s i) (by omega) (by omega), w64 (64 * n + bt s i) (by omega) (by omega), w64 _ (by omega) (by omega), w64 (i + 1) (by omega) (by omega)]
theorem ref_first (s : ByteArray) (hs : s.size ≤ 1000000) : Ev (fun k => numeraryref01_First.f k s) (firstP s) := by
  have n0 := bt_nn s 0; have n1 := bt_nn s 1; have n2 := bt_nn s 2; have n3 := bt_nn s 3
  have hlen : s.data.toList.length = s.size := (Lib.size_eq s).symm
  by_cases h0 : s.size = 0
  · refine Ev.congr (f := fun _ => some (0, 0, false)) (fun k => ?_) ?_
    · show (if (s.size : Int) = 0 then _ else _) = _
      rw [if_pos (by omega)]
    · have : firstP s = (0, 0, false) := by unfold firstP; dsimp only; rw [if_pos h0]
      rw [this]; exact Ev.now _
  · refine Ev.congr (f := fun k => numeraryref01_First.l0 k s 1) (fun k => ?_) ?_
    · show (if (s.size : Int) = 0 then _ else _) = _
      rw [if_neg (by omega)]
    have F1 : NoFit s.data.toList 1 := fun k h1 h2 => by omega
    refine head_ev s 1 (by omega) (by omega) (by omega) _ ?_
    refine tail_ev s hs 1 (by omega) (by omega) (by omega) _ (by show bt s 0 = _; rw [bt0]; rfl) F1 (fun F2 => ?_)
    by_cases s2 : 2 ≤ s.size
    · refine head_ev s 2 (by omega) (by omega) (by omega) _ ?_
      refine one_ev s 2 (bt s 0 - 192) 1 (by omega) (by omega) (by omega) (by omega) (by omega) (by omega) _ ?_
      refine tail_ev s hs 2 (by omega) (by omega) (by omega) _ (by rw [bt0, bt1]; rfl) F2 (fun F3 => ?_)
      by_cases s3 : 3 ≤ s.size
      · refine head_ev s 3 (by omega) (by omega) (by omega) _ ?_
        refine one_ev s 3 (bt s 0 - 224) 1 (by omega) (by omega) (by omega) (by omega) (by omega) (by omega) _ ?_
        refine one_ev s 3 _ 2 (by omega) (by omega) (by omega) (by omega) (by omega) (by omega) _ ?_
        refine tail_ev s hs 3 (by omega) (by omega) (by omega) _ (by rw [bt0, bt1, bt2]; rfl) F3 (fun F4 => ?_)
        by_cases s4 : 4 ≤ s.size
        · refine head_ev s 4 (by omega) (by omega) (by omega) _ ?_
          refine one_ev s 4 (bt s 0 - 240) 1 (by omega) (by omega) (by omega) (by omega) (by omega) (by omega) _ ?_
          refine one_ev s 4 _ 2 (by omega) (by omega) (by omega) (by omega) (by omega) (by omega) _ ?_
          refine one_ev s 4 _ 3 (by omega) (by omega) (by omega) (by omega) (by omega) (by omega) _ ?_
          refine tail_ev s hs 4 (by omega) (by omega) (by omega) _ (by rw [bt0, bt1, bt2, bt3]; rfl) F4 (fun F5 => ?_)
          exact stop_ev s 5 (by omega) (nofit_end _ 5 F5 (by omega))
        · exact stop_ev s 4 (by omega) (nofit_end _ 4 F4 (by omega))
      · exact stop_ev s 3 (by omega) (nofit_end _ 3 F3 (by omega))
    · exact stop_ev s 2 (by omega) (nofit_end _ 2 F2 (by omega))
theorem ref_all_ev (s : ByteArray) (hs : s.size ≤ 1000000) (r : List UInt8) (hr : r = [] ∨ fL r = (0, 0, false)) :
    ∀ (vs acc : List Int) (p : Nat), (∀ v ∈ vs, isB v = true) → s.data.toList.drop p = encs vs ++ r → p ≤ s.size → acc.length + vs.length ≤ 2000000 →
      Ev (fun k => numeraryref01_All.l0 k s acc p) (told (acc ++ vs) r s.size)
  | [], acc, p, _, hd, hp, _ => by
    have hl : s.size - p = r.length := by
      have := congrArg List.length hd
      rw [List.length_drop, ← Lib.size_eq] at this
      exact this
    by_cases hr0 : r = []
    · subst hr0
      have hpe : p = s.size := by simp at hl; omega
      subst hpe
      refine Ev.step (f := fun _ => some (acc, (s.size : Int), true)) (fun k => ?_) ?_
      · show (if (s.size : Int) < (s.size : Int) then _ else _) = _
        rw [if_neg (by omega)]
      · unfold told; rw [if_pos rfl, List.append_nil]; exact Ev.now _
    · have hf : fL r = (0, 0, false) := hr.resolve_left hr0
      have hpos : 0 < r.length := List.length_pos_iff.2 hr0
      have he : s.extract p s.size = ⟨r.toArray⟩ := left_eq s p r hd
      have hF := ref_first (s.extract p s.size) (by rw [ByteArray.size_extract]; omega)
      have hP : firstP (s.extract p s.size) = (0, 0, false) := by rw [he]; exact hf
      rw [hP] at hF
      refine Ev.step (f := fun k => (numeraryref01_First.f k (s.extract p s.size)).bind fun bt157 => (if bt157.2.2 = true then (if acc.length < 17592186044416 then (numeraryref01_All.l0 k s (acc ++ [bt157.1]) (wrap64 ((p : Int) + bt157.2.1))) else (none)) else (some (([] : List Int), (p : Int), false)))) (fun k => ?_) ?_
      · show (if (p : Int) < (s.size : Int) then _ else _) = _
        rw [if_pos (by omega), if_pos (by omega), if_pos (by omega)]; rfl
      · refine Ev.bind hF ?_
        unfold told; rw [if_neg hr0]
        have : (s.size : Int) - r.length = p := by omega
        rw [this]; exact Ev.congr (fun k => if_neg (by simp)) (Ev.now _)
  | v :: vs, acc, p, hv, hd, hp, hc => by
    have hvb := hv v (by simp)
    have hl := enc_len v
    have hlb := enc_len_bd v
    have hd2 : s.data.toList.drop p = encU v ++ (encs vs ++ r) := by rw [hd]; show (encU v ++ encs vs) ++ r = _; rw [List.append_assoc]
    have hsz : s.size - p = (encU v).length + (encs vs ++ r).length := by
      have := congrArg List.length hd2
      rw [List.length_drop, ← Lib.size_eq, List.length_append] at this
      exact this
    have hd3 : s.data.toList.drop (p + (encU v).length) = encs vs ++ r := by
      rw [← List.drop_drop, hd2, List.drop_left]
    have ih := ref_all_ev s hs r hr vs (acc ++ [v]) (p + (encU v).length) (fun x hx => hv x (by simp [hx])) hd3 (by omega) (by rw [List.length_append]; simp at hc ⊢; omega)
    rw [List.append_assoc] at ih
    have he : s.extract p s.size = ⟨(encU v ++ (encs vs ++ r)).toArray⟩ := left_eq s p _ hd2
    have hF := ref_first (s.extract p s.size) (by rw [ByteArray.size_extract]; omega)
    have hP : firstP (s.extract p s.size) = (v, widthI v, true) := by rw [he]; exact fL_enc v hvb _
    rw [hP] at hF
    refine Ev.step (f := fun k => (numeraryref01_First.f k (s.extract p s.size)).bind fun bt157 => (if bt157.2.2 = true then (if acc.length < 17592186044416 then (numeraryref01_All.l0 k s (acc ++ [bt157.1]) (wrap64 ((p : Int) + bt157.2.1))) else (none)) else (some (([] : List Int), (p : Int), false)))) (fun k => ?_) ?_
    · show (if (p : Int) < (s.size : Int) then _ else _) = _
      rw [if_pos (by omega), if_pos (by omega), if_pos (by omega)]; rfl
    · refine Ev.bind hF (Ev.congr (fun k => ?_) ih)
      rw [if_pos rfl, if_pos (by simp at hc; omega)]
      show numeraryref01_All.l0 k s (acc ++ [v]) (wrap64 ((p : Int) + widthI v)) = _
      rw [← hl, w64 _ (by omega) (by omega)]
      rfl
theorem ref_all_parts (s : ByteArray) (hs : s.size ≤ 1000000) (vs : List Int) (r : List UInt8) (h : Parts s.data.toList vs r) : Ev (fun k => numeraryref01_All.f k s) (told vs r s.size) := by
  have hl := encs_len vs
  have hsz : s.size = (encs vs).length + r.length := by
    have := congrArg List.length h.eq
    rw [← Lib.size_eq, List.length_append] at this
    exact this
  exact ref_all_ev s hs r h.stop vs [] 0 h.all (by rw [List.drop_zero]; exact h.eq) (Nat.zero_le _) (by simp; omega)
theorem told_ok (vs : List Int) (r : List UInt8) (n : Int) : (told vs r n).2.2 = decide (r = []) := by
  unfold told; split <;> simp_all
theorem reads_cmp (m : Nat) : ∀ (a : List Int) (i : Nat), a.length ≤ 1000000 → a.length ≤ i + m → i ≤ a.length → Ev (fun k => numerarylaw01_RunesReads.l0 k a a (a.length : Int) i) true := by
  induction m with
  | zero =>
    intro a i hl hm hi
    refine Ev.step (f := fun q => (numerarylaw01_wakes.f q).bind fun t => some t) (fun q => ?_) (Ev.bind wakes_ev (Ev.now true))
    show numerarylaw01_RunesReads.l0 (q + 1) _ _ _ _ = _
    rw [numerarylaw01_RunesReads.l0, if_neg (by omega)]
  | succ m ih =>
    intro a i hl hm hi
    by_cases h : i < a.length
    · refine Ev.step (fun q => ?_) (ih a (i + 1) hl (by omega) (by omega))
      show numerarylaw01_RunesReads.l0 (q + 1) _ _ _ _ = _
      rw [numerarylaw01_RunesReads.l0, if_pos (by omega), if_pos (by omega), if_pos (by omega), if_pos (by omega), if_pos rfl, w64 _ (by omega) (by omega)]; rfl
    · refine Ev.step (f := fun q => (numerarylaw01_wakes.f q).bind fun t => some t) (fun q => ?_) (Ev.bind wakes_ev (Ev.now true))
      show numerarylaw01_RunesReads.l0 (q + 1) _ _ _ _ = _
      rw [numerarylaw01_RunesReads.l0, if_neg (by omega)]
theorem RunesReads : numerarylaw01_RunesReads.Pure := by
  intro a hsz
  refine Ev.rounds ?_
  have hm0 : 0 ≤ mn (a.size : Int) 200 := by unfold mn; split <;> omega
  have hm1 : mn (a.size : Int) 200 ≤ a.size := by unfold mn; split <;> omega
  have hm2 : mn (a.size : Int) 200 ≤ 200 := by unfold mn; split <;> omega
  obtain ⟨s, hs⟩ : ∃ s, a.extract 0 ((mn (a.size : Int) 200) : Int).toNat = s := ⟨_, rfl⟩
  have hsl : s.size ≤ 200 := by rw [← hs, ByteArray.size_extract]; omega
  obtain ⟨vs, r, hp⟩ := parts s.data.toList.length s.data.toList (Nat.le_refl _)
  have hA := all_parts s (by omega) vs r hp
  have hB := ref_all_parts s (by omega) vs r hp
  have hR := right_parts s (by omega) vs r hp
  have hF := ref_first s (by omega)
  have hT := told_ok vs r s.size
  have hTl : (told vs r s.size).1.length ≤ 1000000 := by
    have hl := encs_len vs
    have hsz : s.size = (encs vs).length + r.length := by
      have := congrArg List.length hp.eq
      rw [← Lib.size_eq, List.length_append] at this
      exact this
    unfold told; split
    · simp only []; omega
    · simp
  refine Ev.congr (f := fun k => (runes_First.f s).bind fun bt163 => ((numeraryref01_First.f k s).bind fun bt166 => (if bt163.1 = bt166.1 then (if bt163.2.1 = bt166.2.1 then (numerarylaw01_RunesReads.j0 k s (bt163.2.2 != bt166.2.2)) else (numerarylaw01_RunesReads.j0 k s true)) else (numerarylaw01_RunesReads.j0 k s true)))) (fun k => ?_) ?_
  · show numerarylaw01_RunesReads.f k a = _
    unfold numerarylaw01_RunesReads.f
    rw [if_pos hm0, if_pos hm1, hs]
  rw [First_f s (by omega)]
  refine Ev.bind (Ev.now (firstP s)) (Ev.bind hF ?_)
  refine Ev.congr (f := fun k => numerarylaw01_RunesReads.j0 k s false) (fun k => ?_) ?_
  · rw [if_pos rfl, if_pos rfl]; simp
  refine Ev.step (f := fun k => (runes_All.f k s).bind fun bt169 => ((numeraryref01_All.f k s).bind fun bt174 => (if bt169.2.1 = bt174.2.1 then (if (bt169.2.2 != bt174.2.2) = true then (numerarylaw01_RunesReads.j1 k bt169.1 bt174.1 true) else ((runes_Right.f s).bind fun t179 => (if (t179 != bt174.2.2) = true then (numerarylaw01_RunesReads.j1 k bt169.1 bt174.1 true) else (numerarylaw01_RunesReads.j1 k bt169.1 bt174.1 ((bt169.1.length : Int) != (bt174.1.length : Int)))))) else (numerarylaw01_RunesReads.j1 k bt169.1 bt174.1 true)))) (fun k => ?_) ?_
  · show numerarylaw01_RunesReads.j0 (k + 1) s false = _
    rw [numerarylaw01_RunesReads.j0, if_neg (by simp)]
  refine Ev.bind hA (Ev.bind hB ?_)
  rw [hR]
  refine Ev.congr (f := fun k => numerarylaw01_RunesReads.j1 k (told vs r s.size).1 (told vs r s.size).1 false) (fun k => ?_) ?_
  · rw [if_pos rfl, if_neg (by simp), Option.bind_some, if_neg (by rw [hT]; simp)]; simp
  refine Ev.step (f := fun k => numerarylaw01_RunesReads.l0 k (told vs r s.size).1 (told vs r s.size).1 ((told vs r s.size).1.length : Int) ((0 : Nat) : Int)) (fun k => ?_) (reads_cmp (told vs r s.size).1.length _ 0 hTl (by omega) (Nat.zero_le _))
  show numerarylaw01_RunesReads.j1 (k + 1) _ _ false = _
  rw [numerarylaw01_RunesReads.j1, if_neg (by simp)]; rfl
end Go.Proofs.YtpefkehcibdjgaaDoor.R
