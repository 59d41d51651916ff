/- Proved here: the printed form of the law TokenLong answers true at every input of its kinds; no further condition. -/
import Derived.Test.YtpefkehcibdjgaaDoorQTokx7
import Derived.Test.YtpefkehcibdjgaaDoorT1
set_option linter.unusedVariables false
namespace Go.Proofs.YtpefkehcibdjgaaDoor.T
open Go.RowKit Go.Proofs.YtpefkehcibdjgaaDoor.QTok Go.Proofs.YtpefkehcibdjgaaDoorW.PrintWords Go.Proofs.YtpefkehcibdjgaaDoorW.PrintLast Go.Proofs.YtpefkehcibdjgaaDoorW.PrintMore Go.Proofs.YtpefkehcibdjgaaDoor.H Go.Lib
theorem first_zero (k : Nat) (s : ByteArray) (hs : 0 < s.size) (h0 : bt s 0 = 48) : token_first.f k s = some (6, s.extract 0 1, 1, 0, 1, 0, 0) := by
  have hb : token_begun.f k s = some (0, (⟨#[]⟩ : ByteArray), 0, 0, 0, 0, 0, false) := by
    unfold token_begun.f
    rw [if_pos (by omega), if_neg (by omega), if_neg (by omega), if_neg (by omega), if_neg (by omega), if_neg (by omega)]
  have hk : token_single.f (bt s 0) = some (6, true) := by rw [h0]; rfl
  unfold token_first.f
  rw [hb, Option.bind_some, if_neg (by simp), if_pos (by omega), hk, Option.bind_some, if_pos rfl, if_pos (by omega), if_pos (by omega)]
theorem bt_drop (s : ByteArray) (p : Nat) (h : p < s.size) : bt (s.extract p s.size) 0 = bt s p := by
  have h1 := R.bt_list (s.extract p s.size).data.toList 0
  have h2 := R.bt_list s.data.toList p
  have e : (s.extract p s.size).data.toList.getD 0 0 = s.data.toList.getD p 0 := by
    rw [Lib.extract_data, List.take_of_length_le (by rw [List.length_drop, ← Lib.size_eq]; omega)]
    simp [List.getD]
  rw [e] at h1
  exact h1.trans h2.symm
theorem zeros_ev (s : ByteArray) (hz : ∀ j, j < s.size → bt s (j : Nat) = 48) (hs : s.size ≤ 4096) (m : Nat) :
    ∀ (p : Nat) (acc : List S31), s.size ≤ p + m → p ≤ s.size → acc.length ≤ p → ∃ l : List S31, l.length = acc.length + (s.size - p) ∧ Ev (fun k => token_All.l0 k s acc p) (l, (s.size : Int), 0) := by
  have last : ∀ (p : Nat) (acc : List S31), p = s.size → ∃ l : List S31, l.length = acc.length + (s.size - p) ∧ Ev (fun k => token_All.l0 k s acc p) (l, (s.size : Int), 0) := by
    intro p acc hp
    refine ⟨acc, by omega, Ev.step (f := fun _ => some (acc, (s.size : Int), 0)) (fun k => ?_) (Ev.now _)⟩
    show token_All.l0 (k + 1) s acc p = _
    rw [token_All.l0, if_neg (by omega)]
  induction m with
  | zero => intro p acc h1 h2 _; exact last p acc (by omega)
  | succ m ih =>
    intro p acc h1 h2 h3
    by_cases hp : p < s.size
    · have hF : ∀ k, token_first.f k (s.extract p s.size) = some (6, (s.extract p s.size).extract 0 1, 1, 0, 1, 0, 0) := fun k =>
        first_zero k _ (by rw [ByteArray.size_extract]; omega) (by rw [bt_drop s p hp]; exact hz p hp)
      obtain ⟨l, hl, hE⟩ := ih (p + 1) (acc ++ [⟨6, (s.extract p s.size).extract 0 1, 1, p⟩]) (by omega) (by omega) (by rw [List.length_append]; simp; omega)
      refine ⟨l, by rw [hl, List.length_append]; simp; omega, Ev.step (fun k => ?_) hE⟩
      show token_All.l0 (k + 1) s acc p = _
      rw [token_All.l0, if_pos (by omega), if_pos (by omega), if_pos (by omega)]
      show (token_first.f k (s.extract p s.size)).bind _ = _
      rw [hF k, Option.bind_some, if_pos rfl, if_pos (by omega)]
      show token_All.l0 k s (acc ++ [⟨6, (s.extract p s.size).extract 0 1, 1, p⟩]) (wrap64 ((p : Int) + 1)) = _
      rw [w64 _ (by omega) (by omega)]; rfl
    · exact last p acc (by omega)
theorem long_ev (s : ByteArray) (hs : 4096 < s.size) : Ev (fun k => token_All.f k s) ([], 0, 14) := by
  refine Ev.congr (f := fun _ => some ([], 0, 14)) (fun k => ?_) (Ev.now _)
  unfold token_All.f
  rw [if_pos (by omega)]
theorem rep_size (s : ByteArray) (n : Nat) : (repeatP s n).size = n * s.size := by
  show (Lib.repeatL s.data.toList n).toArray.size = _
  rw [List.size_toArray, Lib.repeatL_length, ← Lib.size_eq]
theorem rep_zero (j : Nat) (h : j < 4096) : bt (repeatP ⟨#[48]⟩ 4096) (j : Nat) = 48 := by
  have h1 := R.bt_list (Lib.repeatL [48] 4096) j
  have h2 : Lib.repeatL [48] 4096 = List.replicate 4096 48 := by
    have := Lib.repeatL_replicate 48 1 4096
    rw [Nat.mul_one] at this
    exact this
  have h3 : (List.replicate 4096 (48 : UInt8)).getD j 0 = 48 := by
    rw [List.getD_eq_getElem?_getD, List.getElem?_replicate, if_pos h]; rfl
  rw [h2, h3] at h1
  unfold repeatP
  show bt ⟨(Lib.repeatL [48] 4096).toArray⟩ (j : Nat) = 48
  rw [h2]
  exact h1
theorem TokenLong : numerarylaw11_TokenLong.Pure := by
  intro s n hs hn
  have hn2 : 0 ≤ n ∧ n ≤ 65535 := by simpa [Lit.wf, IntKind.min, IntKind.max, IntKind.signed, IntKind.bits] using hn
  refine Ev.rounds ?_
  have hm0 : 0 ≤ mn (s.size : Int) 4096 := by unfold mn; split <;> omega
  have hm1 : mn (s.size : Int) 4096 ≤ s.size := by unfold mn; split <;> omega
  have hm2 : mn (s.size : Int) 4096 ≤ 4096 := by unfold mn; split <;> omega
  obtain ⟨t, ht⟩ : ∃ t, repeatP ⟨#[48]⟩ 4096 = t := ⟨_, rfl⟩
  have htz : t.size = 4096 := by rw [← ht, rep_size]; rfl
  have hR : strings_Repeat.f (⟨#[48]⟩ : ByteArray) 4096 = some t := by
    rw [← ht]; unfold strings_Repeat.f; rw [if_pos (by decide)]; rfl
  obtain ⟨l, hl, hE⟩ := zeros_ev t (fun j hj => by rw [← ht]; exact rep_zero j (by omega)) (by omega) t.size 0 [] (by omega) (Nat.zero_le _) (Nat.le_refl _)
  have hA : Ev (fun k => token_All.f k t) (l, (t.size : Int), 0) := by
    refine Ev.congr (fun k => ?_) hE
    unfold token_All.f
    rw [if_neg (by omega)]; rfl
  have hmod : Int.tmod n 500 = n % 500 := Int.tmod_eq_emod_of_nonneg hn2.1
  obtain ⟨q, hq⟩ : ∃ q : Nat, 1 + n % 500 = (q : Int) := ⟨(1 + n % 500).toNat, by omega⟩
  have hw : wrap64 (1 + wrap64 (Int.tmod n 500)) = (q : Int) := by rw [hmod, w64 (n % 500) (by omega) (by omega), w64 (1 + n % 500) (by omega) (by omega)]; exact hq
  obtain ⟨h, hh⟩ : ∃ h, repeatP ⟨#[35]⟩ q = h := ⟨_, rfl⟩
  have hhz : h.size = q := by rw [← hh, rep_size]; show q * 1 = q; omega
  have hR2 : strings_Repeat.f (⟨#[35]⟩ : ByteArray) (q : Int) = some h := by
    rw [← hh]; unfold strings_Repeat.f; rw [if_pos ⟨by omega, by omega, by decide⟩]; rfl
  obtain ⟨u, hu⟩ : ∃ u, t.extract 0 ((4096 - (mn (s.size : Int) 4096)) : Int).toNat = u := ⟨_, rfl⟩
  have huz : (u.size : Int) = 4096 - mn (s.size : Int) 4096 := by rw [← hu, ByteArray.size_extract]; omega
  have hbig : 4096 < ((u ++ s) ++ h).size := by rw [ByteArray.size_append, ByteArray.size_append]; omega
  refine Ev.congr (f := fun k => (token_All.f k t).bind fun bt270 => ((token_All.f k ((u ++ s) ++ h)).bind fun bt276 => ((numerarylaw11_wakes.f k).bind fun t281 => (if t281 = true then (if bt270.2.2 = 0 then (if (bt270.1.length : Int) = 4096 then (if bt270.2.1 = 4096 then (if bt276.2.2 = 14 then (if bt276.2.1 = 0 then (some ((bt276.1.length : Int) == 0)) else (some false)) else (some false)) else (some false)) else (some false)) else (some false)) else (some false))))) (fun k => ?_) ?_
  · show numerarylaw11_TokenLong.f k s n = _
    unfold numerarylaw11_TokenLong.f
    rw [hR, Option.bind_some, hu, hw, hR2]
    have c1 : (0 : Int) ≤ 4096 - mn (s.size : Int) 4096 := by omega
    have c2 : 4096 - mn (s.size : Int) 4096 ≤ (t.size : Int) := by omega
    have c3 : u.size + s.size ≤ 9223372036854775807 := by omega
    have c4 : u.size + s.size + h.size ≤ 9223372036854775807 := by omega
    simp only [if_pos c1, if_pos c2, if_pos c3, if_pos c4, Option.bind_some]
  refine Ev.bind hA (Ev.bind (long_ev _ hbig) (Ev.bind wakes_ev ?_))
  refine Ev.congr (f := fun _ => some true) (fun k => ?_) (Ev.now _)
  rw [if_pos rfl, if_pos rfl, if_pos (by show (l.length : Int) = 4096; simp at hl; omega), if_pos (by show (t.size : Int) = 4096; omega), if_pos rfl, if_pos rfl]
  rfl
end Go.Proofs.YtpefkehcibdjgaaDoor.T
