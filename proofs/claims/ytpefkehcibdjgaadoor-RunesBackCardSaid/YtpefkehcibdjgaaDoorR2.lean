/- Proved here: what the printed functions of package runes compute, is what the plain facts on signs say. -/
import Derived.Test.YtpefkehcibdjgaaDoorQRunx1
import Derived.Test.YtpefkehcibdjgaaDoorR1
import Derived.Laws.BitsLemmas
namespace Go.Proofs.YtpefkehcibdjgaaDoor.R
open Go.RowKit Go.Proofs.YtpefkehcibdjgaaDoor.QRun Go.Proofs.YtpefkehcibdjgaaDoorW.PrintWords Go.Proofs.YtpefkehcibdjgaaDoorW.PrintLast Go.Proofs.YtpefkehcibdjgaaDoorW.PrintMore Go.Proofs.YtpefkehcibdjgaaDoor.H Go.Lib
theorem w64 (n : Int) (h1 : -9223372036854775808 ≤ n) (h2 : n ≤ 9223372036854775807) : wrap64 n = n := by unfold wrap64; omega
theorem is_ev (v : Int) : runes_is.f v = some (isB v) := by
  unfold runes_is.f isB
  by_cases h1 : v ≥ 0
  · rw [if_pos h1]
    by_cases h2 : v ≤ 1114111
    · rw [if_pos h2]
      by_cases h3 : v < 55296
      · rw [if_pos h3]; congr 1; symm; rw [decide_eq_true_eq]; omega
      · rw [if_neg h3]; congr 1; rw [decide_eq_decide]; omega
    · rw [if_neg h2]; congr 1; symm; rw [decide_eq_false_iff_not]; omega
  · rw [if_neg h1]; congr 1; symm; rw [decide_eq_false_iff_not]; omega
theorem ref_is (v : Int) : numeraryref01_Is.f v = some (isB v) := is_ev v
theorem width_q (q : Nat) (v : Int) : runes_width.f (q + 4) v = some (widthI v) := by
  have w2 : wrap64 (1 + 1) = 2 := by unfold wrap64; omega
  have w3 : wrap64 (2 + 1) = 3 := by unfold wrap64; omega
  have w4 : wrap64 (3 + 1) = 4 := by unfold wrap64; omega
  have a1 : wrap64 (0 + 1) = 1 := by unfold wrap64; omega
  have r0 : rd [128, 2048, 65536] 0 = 128 := rfl
  have r1 : rd [128, 2048, 65536] 1 = 2048 := rfl
  have r2 : rd [128, 2048, 65536] 2 = 65536 := rfl
  have e : ∀ (q : Nat) (x i : Int), runes_width.l0 (q + 1) v x [128, 2048, 65536] 3 i = if i < 3 then (if 0 ≤ i then (if i < 3 then (if v ≥ (rd [128, 2048, 65536] i) then (runes_width.l0 q v (wrap64 (x + 1)) [128, 2048, 65536] 3 (wrap64 (i + 1))) else (runes_width.l0 q v x [128, 2048, 65536] 3 (wrap64 (i + 1)))) else (none)) else (none)) else (some x) := fun _ _ _ => rfl
  show runes_width.l0 (q + 4) v 1 [128, 2048, 65536] 3 0 = _
  unfold widthI
  rw [e, if_pos (by omega), if_pos (by omega), if_pos (by omega), r0, a1, w2]
  by_cases h1 : v < 128
  · rw [if_neg (by omega), e, if_pos (by omega), if_pos (by omega), if_pos (by omega), r1, w2, if_neg (by omega), e, if_pos (by omega), if_pos (by omega), if_pos (by omega), r2, w2, w3, if_neg (by omega), e, if_neg (by omega), if_pos h1]
  · rw [if_pos (by omega), e, if_pos (by omega), if_pos (by omega), if_pos (by omega), r1, w2, w3, if_neg h1]
    by_cases h2 : v < 2048
    · rw [if_neg (by omega), e, if_pos (by omega), if_pos (by omega), if_pos (by omega), r2, w3, if_neg (by omega), e, if_neg (by omega), if_pos h2]
    · rw [if_pos (by omega), e, if_pos (by omega), if_pos (by omega), if_pos (by omega), r2, w3, w4, if_neg h2]
      by_cases h3 : v < 65536
      · rw [if_neg (by omega), e, if_neg (by omega), if_pos h3]
      · rw [if_pos (by omega), e, if_neg (by omega), if_neg h3]
theorem and63 (x : Int) (h0 : 0 ≤ x) (h1 : x < 4294967296) : bits .and .i64 x 63 = x % 64 :=
  bits_mask .i64 62 (by decide) (fun n h0 h1 => by rw [IntKind.wrap_i64]; omega) 6 (by decide) x h0 (by omega)
theorem or0 (y : Int) (h0 : 0 ≤ y) (h1 : y < 128) : bits .or .u8 0 y = y := by
  have := bits_join .u8 8 (by decide) wraps_u8 7 0 y (by omega) (by omega) (by omega) h0 (by omega) (by omega)
  omega
theorem text_step (q : Nat) (x n : Int) (xs : List Int) (i : Int) (h0 : 0 < i) (h1 : i < (xs.length : Int)) (hx : 0 ≤ x) (hx2 : x < 4294967296) (hl : xs.length ≤ 4) :
    runes_Text.l0 (q + 1) x n xs i = runes_Text.l0 q (x / 64) n (xs.set i.toNat (128 + x % 64)) (i - 1) := by
  have e : (128 + x % 64 : Int) = bits .or .u8 128 ((bits .and .i64 x 63) % 256) := by
    have e2 : x % 64 % 256 = x % 64 := by omega
    rw [and63 x hx hx2, e2]; exact (u8_or128 (y := x % 64) (by omega) (by omega)).symm
  rw [e]
  show (if i > 0 then _ else _) = _
  rw [if_pos h0, if_pos (by omega), if_pos h1, w64 (i - 1) (by omega) (by omega)]
theorem text_end (q : Nat) (x n : Int) (xs : List Int) (hl : 0 < xs.length) (m : Int) (hm : runes_lead.f n = some m) :
    runes_Text.l0 (q + 1) x n xs 0 = some (strOfNums (xs.set 0 (bits .or .u8 m (x % 256))), true) := by
  show (if (0 : Int) > 0 then _ else _) = _
  rw [if_neg (by omega), hm]
  show (if 0 < (xs.length : Int) then _ else _) = _
  rw [if_pos (by omega)]; rfl
theorem text_yes (q : Nat) (v : Int) (h : isB v = true) : runes_Text.f (q + 4) v = some (strOfNums (encB v), true) := by
  have hb := (isB_iff v).1 h
  unfold runes_Text.f
  rw [is_ev, h]
  rw [Option.bind_some, if_pos rfl, width_q, Option.bind_some]
  unfold encB
  rcases widthI_cases v with ⟨c, e⟩ | ⟨c1, c2, e⟩ | ⟨c1, c2, e⟩ | ⟨c1, e⟩
  · rw [e, if_pos (by omega), if_pos (by decide), w64 (1 - 1) (by omega) (by omega), if_pos c]
    refine (text_end (q + 3) v 1 [0] (by simp) 0 rfl).trans ?_
    rw [or0 (v % 256) (by omega) (by omega)]
    have : v % 256 = v := by omega
    rw [this]; rfl
  · rw [e, if_pos (by omega), if_pos (by decide), w64 (2 - 1) (by omega) (by omega), if_neg (by omega), if_pos c2]
    refine (text_step (q + 3) v 2 [0, 0] 1 (by omega) (by simp) (by omega) (by omega) (by simp)).trans ?_
    refine (text_end (q + 2) (v / 64) 2 [0, 128 + v % 64] (by simp) 192 rfl).trans ?_
    have : v / 64 % 256 = v / 64 := by omega
    have e9 := u8_or192 (y := v / 64) (by omega) (by omega)
    rw [this, e9]; rfl
  · rw [e, if_pos (by omega), if_pos (by decide), w64 (3 - 1) (by omega) (by omega), if_neg (by omega), if_neg (by omega), if_pos c2]
    refine (text_step (q + 3) v 3 [0, 0, 0] 2 (by omega) (by simp) (by omega) (by omega) (by simp)).trans ?_
    refine (text_step (q + 2) (v / 64) 3 [0, 0, 128 + v % 64] 1 (by omega) (by simp) (by omega) (by omega) (by simp)).trans ?_
    refine (text_end (q + 1) (v / 64 / 64) 3 [0, 128 + v / 64 % 64, 128 + v % 64] (by simp) 224 rfl).trans ?_
    have : v / 64 / 64 % 256 = v / 4096 := by omega
    have e9 := u8_or224 (y := v / 4096) (by omega) (by omega)
    rw [this, e9]; rfl
  · rw [e, if_pos (by omega), if_pos (by decide), w64 (4 - 1) (by omega) (by omega), if_neg (by omega), if_neg (by omega), if_neg (by omega)]
    refine (text_step (q + 3) v 4 [0, 0, 0, 0] 3 (by omega) (by simp) (by omega) (by omega) (by simp)).trans ?_
    refine (text_step (q + 2) (v / 64) 4 [0, 0, 0, 128 + v % 64] 2 (by omega) (by simp) (by omega) (by omega) (by simp)).trans ?_
    refine (text_step (q + 1) (v / 64 / 64) 4 [0, 0, 128 + v / 64 % 64, 128 + v % 64] 1 (by omega) (by simp) (by omega) (by omega) (by simp)).trans ?_
    refine (text_end q (v / 64 / 64 / 64) 4 [0, 128 + v / 64 / 64 % 64, 128 + v / 64 % 64, 128 + v % 64] (by simp) 240 rfl).trans ?_
    have h1 : v / 64 / 64 / 64 % 256 = v / 262144 := by omega
    have h2 : v / 64 / 64 = v / 4096 := by omega
    have e9 := u8_or240 (y := v / 262144) (by omega) (by omega)
    rw [h1, h2, e9]; rfl
theorem text_no (q : Nat) (v : Int) (h : isB v = false) : runes_Text.f q v = some (⟨#[]⟩, false) := by
  unfold runes_Text.f
  rw [is_ev, h]; rfl
theorem text_ev (v : Int) : Ev (fun k => runes_Text.f k v) (if isB v = true then (strOfNums (encB v), true) else (⟨#[]⟩, false)) := by
  refine ⟨4, fun k hk => ?_⟩
  obtain ⟨q, rfl⟩ : ∃ q, k = q + 4 := ⟨k - 4, by omega⟩
  cases h : isB v with
  | true => rw [if_pos rfl]; exact text_yes q v h
  | false => rw [if_neg (by simp)]; exact text_no _ v h
theorem ref_text (v : Int) (h0 : 0 ≤ v) (h1 : v ≤ 1114111) : numeraryref01_Text.f v = some (strOfNums (encB v)) := by
  unfold numeraryref01_Text.f encB
  have d1 : Int.tdiv v 64 = v / 64 := Int.tdiv_eq_ediv_of_nonneg h0
  have d2 : Int.tdiv v 4096 = v / 4096 := Int.tdiv_eq_ediv_of_nonneg h0
  have d3 : Int.tdiv v 262144 = v / 262144 := Int.tdiv_eq_ediv_of_nonneg h0
  have m1 : Int.tmod v 64 = v % 64 := Int.tmod_eq_emod_of_nonneg h0
  have m2 : Int.tmod (v / 64) 64 = v / 64 % 64 := Int.tmod_eq_emod_of_nonneg (by omega)
  have m3 : Int.tmod (v / 4096) 64 = v / 4096 % 64 := Int.tmod_eq_emod_of_nonneg (by omega)
  split
  · have : v % 256 = v := by omega
    rw [this]
  · split
    · rw [d1, m1, w64 (v / 64) (by omega) (by omega), w64 _ (by omega) (by omega), w64 _ (by omega) (by omega)]
      have e1 : (192 + v / 64) % 256 = 192 + v / 64 := by omega
      have e2 : (128 + v % 64) % 256 = 128 + v % 64 := by omega
      rw [e1, e2]
    · split
      · rw [d1, d2, m1, w64 (v / 64) (by omega) (by omega), w64 (v / 4096) (by omega) (by omega), m2, w64 _ (by omega) (by omega), w64 _ (by omega) (by omega), w64 _ (by omega) (by omega)]
        have e1 : (224 + v / 4096) % 256 = 224 + v / 4096 := by omega
        have e2 : (128 + v / 64 % 64) % 256 = 128 + v / 64 % 64 := by omega
        have e3 : (128 + v % 64) % 256 = 128 + v % 64 := by omega
        rw [e1, e2, e3]
      · rw [d1, d2, d3, m1, w64 (v / 64) (by omega) (by omega), w64 (v / 4096) (by omega) (by omega), w64 (v / 262144) (by omega) (by omega), m2, m3, w64 _ (by omega) (by omega), w64 _ (by omega) (by omega), w64 _ (by omega) (by omega), w64 _ (by omega) (by omega)]
        have e1 : (240 + v / 262144) % 256 = 240 + v / 262144 := by omega
        have e2 : (128 + v / 4096 % 64) % 256 = 128 + v / 4096 % 64 := by omega
        have e3 : (128 + v / 64 % 64) % 256 = 128 + v / 64 % 64 := by omega
        have e4 : (128 + v % 64) % 256 = 128 + v % 64 := by omega
        rw [e1, e2, e3, e4]
/-- what is left of a text -/
theorem left_eq (s : ByteArray) (p : Nat) (l : List UInt8) (h : s.data.toList.drop p = l) : s.extract p s.size = ⟨l.toArray⟩ := by
  apply ByteArray.ext
  apply Array.toList_inj.1
  rw [Lib.extract_data, ← h]
  simp only []
  rw [List.take_of_length_le (by rw [List.length_drop, ← Lib.size_eq]; omega)]
/-- how all of a text is told: signs, where the first byte stands that begins none -/
def told (vs : List Int) (r : List UInt8) (n : Int) : List Int × Int × Bool := if r = [] then (vs, n, true) else ([], n - r.length, false)
theorem all_ev (s : ByteArray) (hs : s.size ≤ 1000000) (r : List UInt8) (hr : r = [] ∨ fL r = (0, 0, false)) :
    ∀ (vs acc : List Int) (p : Nat), (∀ v ∈ vs, isB v = true) → s.data.toList.drop p = encs vs ++ r → p ≤ s.size → acc.length + vs.length ≤ 2000000 →
      Ev (fun k => runes_All.l0 k s acc p) (told (acc ++ vs) r s.size)
  | [], acc, p, _, hd, hp, _ => by
    have hl : s.size - p = r.length := by
      have := congrArg List.length hd
      rw [List.length_drop, ← Lib.size_eq] at this
      exact this
    by_cases hr0 : r = []
    · subst hr0
      have hpe : p = s.size := by simp at hl; omega
      subst hpe
      refine Ev.step (f := fun _ => some (acc, (s.size : Int), true)) (fun k => ?_) ?_
      · show (if (s.size : Int) < (s.size : Int) then _ else _) = _
        rw [if_neg (by omega)]
      · unfold told; rw [if_pos rfl, List.append_nil]; exact Ev.now _
    · have hf : fL r = (0, 0, false) := hr.resolve_left hr0
      have hpos : 0 < r.length := List.length_pos_iff.2 hr0
      refine Ev.step (f := fun _ => some (([] : List Int), (p : Int), false)) (fun k => ?_) ?_
      · show (if (p : Int) < (s.size : Int) then _ else _) = _
        have hF : runes_First.f (s.extract (p : Int).toNat s.size) = some (0, 0, false) := by
          show (if _ ≤ big then _ else _) = _
          rw [if_pos (by rw [ByteArray.size_extract]; unfold big; omega)]
          have : s.extract (p : Int).toNat s.size = ⟨r.toArray⟩ := left_eq s p r hd
          rw [this]; exact congrArg some hf
        rw [if_pos (by omega), if_pos (by omega), if_pos (by omega), hF]
        rfl
      · unfold told; rw [if_neg hr0]
        have : (s.size : Int) - r.length = p := by omega
        rw [this]; exact Ev.now _
  | v :: vs, acc, p, hv, hd, hp, hc => by
    have hvb := hv v (by simp)
    have hl := enc_len v
    have hlb := enc_len_bd v
    have hd2 : s.data.toList.drop p = encU v ++ (encs vs ++ r) := by rw [hd]; show (encU v ++ encs vs) ++ r = _; rw [List.append_assoc]
    have hsz : s.size - p = (encU v).length + (encs vs ++ r).length := by
      have := congrArg List.length hd2
      rw [List.length_drop, ← Lib.size_eq, List.length_append] at this
      exact this
    have hd3 : s.data.toList.drop (p + (encU v).length) = encs vs ++ r := by
      rw [← List.drop_drop, hd2, List.drop_left]
    have ih := all_ev s hs r hr vs (acc ++ [v]) (p + (encU v).length) (fun x hx => hv x (by simp [hx])) hd3 (by omega) (by rw [List.length_append]; simp at hc ⊢; omega)
    rw [List.append_assoc] at ih
    refine Ev.step (fun k => ?_) ih
    show (if (p : Int) < (s.size : Int) then _ else _) = _
    have hF : runes_First.f (s.extract (p : Int).toNat s.size) = some (v, widthI v, true) := by
      show (if _ ≤ big then _ else _) = _
      rw [if_pos (by rw [ByteArray.size_extract]; unfold big; omega)]
      have : s.extract (p : Int).toNat s.size = ⟨(encU v ++ (encs vs ++ r)).toArray⟩ := left_eq s p _ hd2
      rw [this]; exact congrArg some (fL_enc v hvb _)
    rw [if_pos (by omega), if_pos (by omega), if_pos (by omega), hF, Option.bind_some, if_pos rfl, if_pos (by simp at hc; omega)]
    show runes_All.l0 k s (acc ++ [v]) (wrap64 ((p : Int) + widthI v)) = _
    rw [← hl, w64 _ (by omega) (by omega)]
    rfl
theorem all_parts (s : ByteArray) (hs : s.size ≤ 1000000) (vs : List Int) (r : List UInt8) (h : Parts s.data.toList vs r) : Ev (fun k => runes_All.f k s) (told vs r s.size) := by
  have hl := encs_len vs
  have hsz : s.size = (encs vs).length + r.length := by
    have := congrArg List.length h.eq
    rw [← Lib.size_eq, List.length_append] at this
    exact this
  exact all_ev s hs r h.stop vs [] 0 h.all (by rw [List.drop_zero]; exact h.eq) (Nat.zero_le _) (by simp; omega)
theorem right_parts (s : ByteArray) (hs : s.size ≤ 1000000) (vs : List Int) (r : List UInt8) (h : Parts s.data.toList vs r) : runes_Right.f s = some (decide (r = [])) := by
  unfold runes_Right.f
  rw [if_pos (by omega), valid_parts _ vs r h]
theorem First_f (s : ByteArray) (hs : s.size ≤ 1000000) : runes_First.f s = some (firstP s) := by
  unfold runes_First.f big
  rw [if_pos (by omega)]
theorem wakes_ev : Ev (fun k => numerarylaw01_wakes.f k) true := by
  have t := text_ev 8364
  have a := all_parts ⟨#[97, 195, 169]⟩ (by decide) [97, 233] [] ⟨by decide, by decide, .inl rfl⟩
  have r1 := right_parts ⟨#[97]⟩ (by decide) [97] [] ⟨by decide, by decide, .inl rfl⟩
  have r2 := right_parts ⟨#[128]⟩ (by decide) [] [128] ⟨by decide, by decide, .inr (by decide)⟩
  unfold numerarylaw01_wakes.f
  rw [First_f _ (by decide), First_f _ (by decide)]
  have f1 : firstP ⟨#[195, 169, 120]⟩ = (233, 2, true) := by decide
  have f2 : firstP ⟨#[255]⟩ = (0, 0, false) := by decide
  rw [f1, f2]
  refine Ev.bind (f := fun k x => _) (Ev.now _) ?_
  refine Ev.bind (f := fun k x => _) t ?_
  refine Ev.bind (f := fun k x => _) (Ev.now _) ?_
  refine Ev.bind (f := fun k x => _) a ?_
  rw [r1, r2]
  refine Ev.congr (f := fun _ => some true) (fun k => ?_) (Ev.now true)
  have e1 : isB 8364 = true := by decide
  have e2 : encB 8364 = [226, 130, 172] := by decide
  have e3 : (strOfNums [226, 130, 172]).toList = [226, 130, 172] := by rw [Lib.toList_data]; rfl
  simp only [e1, e2, e3, told, if_true]
  rfl
end Go.Proofs.YtpefkehcibdjgaaDoor.R
