/- Proved here: the printed form of the law RunesBack answers true at every input of its kinds; no further condition. -/
import Derived.Test.YtpefkehcibdjgaaDoorQRunx4
import Derived.Test.YtpefkehcibdjgaaDoorR2
namespace Go.Proofs.YtpefkehcibdjgaaDoor.R
open Go.RowKit Go.Proofs.YtpefkehcibdjgaaDoor.QRun Go.Proofs.YtpefkehcibdjgaaDoorW.PrintWords Go.Proofs.YtpefkehcibdjgaaDoorW.PrintLast Go.Proofs.YtpefkehcibdjgaaDoorW.PrintMore Go.Proofs.YtpefkehcibdjgaaDoor.H Go.Lib
theorem app_list (a b : ByteArray) : (a ++ b).data.toList = a.data.toList ++ b.data.toList := by simp
theorem encs_max (vs : List Int) : (encs vs).length ≤ 4 * vs.length := by
  induction vs with
  | nil => exact Nat.le_refl _
  | cons v vs ih =>
    have := (enc_len_bd v).2
    show (encU v ++ encs vs).length ≤ 4 * (vs.length + 1)
    rw [List.length_append]; omega
theorem back_end (x1 : Int) (hx0 : 0 ≤ x1) (hx1 : x1 ≤ 255) (s : ByteArray) (want : List Int) (hs : s.data.toList = encs want) (ha : ∀ v ∈ want, isB v = true) (hl : want.length ≤ 60) (m : Nat) :
    ∀ i : Nat, want.length ≤ i + m → i ≤ want.length → Ev (fun k => numerarylaw01_RunesBack.l1 k x1 s want want (want.length : Int) i) true := by
  have hsz : s.size ≤ 240 := by rw [Lib.size_eq, hs]; have := encs_max want; omega
  have last : ∀ i : Nat, ¬ i < want.length → Ev (fun k => numerarylaw01_RunesBack.l1 k x1 s want want (want.length : Int) i) true := by
    intro i hi
    have e1 : Int.tmod x1 64 = x1 % 64 := Int.tmod_eq_emod_of_nonneg hx0
    have e2 := u8_or128 (y := x1 % 64) (by omega) (by omega)
    obtain ⟨b, hb⟩ : ∃ b, 128 + x1 % 64 = b := ⟨_, rfl⟩
    have hbb : 128 ≤ b ∧ b ≤ 191 := by omega
    rw [hb] at e2
    obtain ⟨t, ht⟩ : ∃ t, (s ++ (strOfNums [b])) ++ (⟨#[97]⟩ : ByteArray) = t := ⟨_, rfl⟩
    have htl : t.data.toList = encs want ++ [u8 b, 97] := by
      rw [← ht, app_list, app_list, hs, List.append_assoc]; rfl
    have htz : t.size = s.size + 2 := by
      rw [Lib.size_eq, htl, List.length_append, Lib.size_eq s, hs]; rfl
    have hn := u8_nat b (by omega) (by omega)
    have hF : fL [u8 b, 97] = (0, 0, false) := by
      rw [fL_fI]
      show fI 2 ((u8 b).toNat : Int) 97 0 0 = _
      rw [hn]
      unfold fI
      rw [if_neg (by omega), if_neg (by omega), if_neg (by omega), if_neg (by omega), if_neg (by omega)]
    have hA := all_parts t (by omega) want [u8 b, 97] ⟨htl, ha, .inr hF⟩
    have hT : told want [u8 b, 97] (t.size : Int) = ([], (s.size : Int), false) := by
      unfold told
      rw [if_neg (by simp)]
      show ([], (t.size : Int) - ((2 : Nat) : Int), false) = _
      rw [htz]
      have : ((s.size + 2 : Nat) : Int) - ((2 : Nat) : Int) = s.size := by omega
      rw [this]
    rw [hT] at hA
    have hz1 : (strOfNums [b]).size = 1 := rfl
    refine Ev.step (f := fun k => (runes_All.f k t).bind fun bt202 => (if bt202.2.2 = true then (some false) else (some (bt202.2.1 == (s.size : Int))))) (fun k => ?_) ?_
    · show numerarylaw01_RunesBack.l1 (k + 1) x1 s want want (want.length : Int) i = _
      rw [numerarylaw01_RunesBack.l1, if_neg (by omega), Option.bind_some, e1, e2, if_pos (by rw [hz1]; omega), if_pos (by rw [hz1]; omega), ht]
    · refine Ev.bind hA (Ev.congr (f := fun _ => some true) (fun k => ?_) (Ev.now true))
      rw [if_neg (by simp)]; simp
  induction m with
  | zero => intro i hm hi; exact last i (by omega)
  | succ m ih =>
    intro i hm hi
    by_cases h : i < want.length
    · refine Ev.step (fun k => ?_) (ih (i + 1) (by omega) (by omega))
      show numerarylaw01_RunesBack.l1 (k + 1) x1 s want want (want.length : Int) i = _
      rw [numerarylaw01_RunesBack.l1, if_pos (by omega), if_pos (by omega), if_pos (by omega), if_pos (by omega), if_pos rfl, w64 _ (by omega) (by omega)]; rfl
    · exact last i h
theorem back_loop (x1 : Int) (hx0 : 0 ≤ x1) (hx1 : x1 ≤ 255) (l : List Int) (hl : l.length ≤ 60) (m : Nat) :
    ∀ (i : Nat) (s : ByteArray) (want : List Int), l.length ≤ i + m → i ≤ l.length → s.data.toList = encs want → (∀ v ∈ want, isB v = true) → want.length ≤ i →
      Ev (fun k => numerarylaw01_RunesBack.l0 k x1 s want l (l.length : Int) i) true := by
  have last : ∀ (i : Nat) (s : ByteArray) (want : List Int), ¬ i < l.length → i ≤ l.length → s.data.toList = encs want → (∀ v ∈ want, isB v = true) → want.length ≤ i →
      Ev (fun k => numerarylaw01_RunesBack.l0 k x1 s want l (l.length : Int) i) true := by
    intro i s want hi hi2 hs ha hw
    have hsz : s.size ≤ 240 := by rw [Lib.size_eq, hs]; have := encs_max want; omega
    have hP : Parts s.data.toList want [] := ⟨by rw [hs, List.append_nil], ha, .inl rfl⟩
    have hA := all_parts s (by omega) want [] hP
    have hT : told want [] (s.size : Int) = (want, (s.size : Int), true) := rfl
    rw [hT] at hA
    have hR := right_parts s (by omega) want [] hP
    refine Ev.step (f := fun k => (runes_All.f k s).bind fun bt190 => ((numerarylaw01_wakes.f k).bind fun t195 => (if t195 = true then (if bt190.2.2 = true then (if bt190.2.1 = (s.size : Int) then (if (bt190.1.length : Int) = (want.length : Int) then ((runes_Right.f s).bind fun t196 => (numerarylaw01_RunesBack.j1 k x1 s want bt190.1 (!t196))) else (numerarylaw01_RunesBack.j1 k x1 s want bt190.1 true)) else (numerarylaw01_RunesBack.j1 k x1 s want bt190.1 true)) else (numerarylaw01_RunesBack.j1 k x1 s want bt190.1 true)) else (numerarylaw01_RunesBack.j1 k x1 s want bt190.1 true)))) (fun k => ?_) ?_
    · show numerarylaw01_RunesBack.l0 (k + 1) x1 s want l (l.length : Int) i = _
      rw [numerarylaw01_RunesBack.l0, if_neg (by omega)]
    · refine Ev.bind hA (Ev.bind wakes_ev ?_)
      rw [hR]
      refine Ev.congr (f := fun k => numerarylaw01_RunesBack.j1 k x1 s want want false) (fun k => ?_) ?_
      · rw [if_pos rfl, if_pos rfl, if_pos rfl, if_pos rfl]; rfl
      · refine Ev.step (f := fun k => numerarylaw01_RunesBack.l1 k x1 s want want (want.length : Int) ((0 : Nat) : Int)) (fun k => ?_) (back_end x1 hx0 hx1 s want hs ha (by omega) want.length 0 (by omega) (Nat.zero_le _))
        show numerarylaw01_RunesBack.j1 (k + 1) x1 s want want false = _
        rw [numerarylaw01_RunesBack.j1, if_neg (by simp)]; rfl
  induction m with
  | zero => intro i s want hm hi hs ha hw; exact last i s want (by omega) hi hs ha hw
  | succ m ih =>
    intro i s want hm hi hs ha hw
    by_cases h : i < l.length
    · have hsz : s.size ≤ 240 := by rw [Lib.size_eq, hs]; have := encs_max want; omega
      obtain ⟨v, hv⟩ : ∃ v, (mx 0 (rd l i)) % 1114112 = v := ⟨_, rfl⟩
      have hT := text_ev v
      refine Ev.step (f := fun k => (runes_Text.f k v).bind fun bt185 => (if bt185.2 = true then (if s.size + bt185.1.size ≤ 9223372036854775807 then (if want.length < 17592186044416 then (numerarylaw01_RunesBack.l0 k x1 (s ++ bt185.1) (want ++ [v]) l (l.length : Int) ((i : Int) + 1)) else (none)) else (none)) else (numerarylaw01_RunesBack.l0 k x1 s want l (l.length : Int) ((i : Int) + 1)))) (fun k => ?_) ?_
      · show numerarylaw01_RunesBack.l0 (k + 1) x1 s want l (l.length : Int) i = _
        rw [numerarylaw01_RunesBack.l0, if_pos (by omega), if_pos (by omega), if_pos (by omega), hv, w64 _ (by omega) (by omega)]
      · refine Ev.bind hT ?_
        cases hb : isB v with
        | true =>
          have hz : (strOfNums (encB v)).size ≤ 4 := (enc_len_bd v).2
          refine Ev.congr (fun k => ?_) (ih (i + 1) (s ++ strOfNums (encB v)) (want ++ [v]) (by omega) (by omega) ?_ ?_ (by rw [List.length_append]; simp; omega))
          · rw [if_pos rfl, if_pos rfl, if_pos (by show s.size + (strOfNums (encB v)).size ≤ _; omega), if_pos (by omega)]; rfl
          · rw [app_list, hs, encs_append]
            show encs want ++ encU v = encs want ++ (encU v ++ [])
            rw [List.append_nil]
          · intro x hx
            rcases List.mem_append.1 hx with hx | hx
            · exact ha x hx
            · rw [List.mem_singleton.1 hx]; exact hb
        | false =>
          refine Ev.congr (fun k => ?_) (ih (i + 1) s want (by omega) (by omega) hs ha (by omega))
          rw [if_neg (by simp)]; rfl
    · exact last i s want h hi hs ha hw
theorem RunesBack : numerarylaw01_RunesBack.Pure := by
  intro l x _ _ _ hx
  have hx2 : 0 ≤ x ∧ x ≤ 255 := by simpa [Lit.wf, IntKind.min, IntKind.max, IntKind.signed, IntKind.bits] using hx
  refine Ev.rounds ?_
  have hm0 : 0 ≤ mn (l.length : Int) 60 := by unfold mn; split <;> omega
  have hm1 : mn (l.length : Int) 60 ≤ l.length := by unfold mn; split <;> omega
  have hm2 : mn (l.length : Int) 60 ≤ 60 := by unfold mn; split <;> omega
  obtain ⟨t, ht⟩ : ∃ t, l.take ((mn (l.length : Int) 60) : Int).toNat = t := ⟨_, rfl⟩
  have htl : t.length ≤ 60 := by rw [← ht, List.length_take]; omega
  refine Ev.congr (f := fun k => numerarylaw01_RunesBack.l0 k x (⟨#[]⟩ : ByteArray) ([] : List Int) t (t.length : Int) ((0 : Nat) : Int)) (fun k => ?_) (back_loop x hx2.1 hx2.2 t htl t.length 0 _ _ (by omega) (Nat.zero_le _) rfl (by simp) (by simp))
  show numerarylaw01_RunesBack.f k l x = _
  unfold numerarylaw01_RunesBack.f
  rw [if_pos hm0, if_pos hm1, ht]; rfl
end Go.Proofs.YtpefkehcibdjgaaDoor.R
