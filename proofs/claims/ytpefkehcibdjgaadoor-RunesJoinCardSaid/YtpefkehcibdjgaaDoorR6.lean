/- Proved here: the printed form of the law RunesJoin answers true at every input of its kinds; no further condition. -/
import Derived.Test.YtpefkehcibdjgaaDoorQRunx5
import Derived.Test.YtpefkehcibdjgaaDoorR2
namespace Go.Proofs.YtpefkehcibdjgaaDoor.R
open Go.RowKit Go.Proofs.YtpefkehcibdjgaaDoor.QRun Go.Proofs.YtpefkehcibdjgaaDoorW.PrintWords Go.Proofs.YtpefkehcibdjgaaDoorW.PrintLast Go.Proofs.YtpefkehcibdjgaaDoorW.PrintMore Go.Proofs.YtpefkehcibdjgaaDoor.H Go.Lib
theorem app_list2 (a b : ByteArray) : (a ++ b).data.toList = a.data.toList ++ b.data.toList := by simp
theorem rd_left (a b : List Int) (i : Nat) (h : i < a.length) : rd (a ++ b) i = rd a i := by
  unfold rd
  simp only [Int.toNat_natCast, List.getD_eq_getElem?_getD]
  rw [List.getElem?_append_left h]
theorem rd_right (a b : List Int) (i : Nat) (h : a.length ≤ i) : rd (a ++ b) i = rd b ((i : Int) - a.length) := by
  unfold rd
  have e : ((i : Int) - a.length).toNat = i - a.length := by omega
  rw [e]
  simp only [Int.toNat_natCast, List.getD_eq_getElem?_getD]
  rw [List.getElem?_append_right h]
theorem join_cmp (a b : List Int) (hl : a.length + b.length ≤ 1000000) (m : Nat) :
    ∀ i : Nat, a.length + b.length ≤ i + m → i ≤ a.length + b.length → Ev (fun k => numerarylaw01_RunesJoin.l0 k a b (a ++ b) ((a ++ b).length : Int) i) true := by
  have hlen : ((a ++ b).length : Int) = a.length + b.length := by rw [List.length_append]; omega
  have last : ∀ i : Nat, ¬ i < a.length + b.length → Ev (fun k => numerarylaw01_RunesJoin.l0 k a b (a ++ b) ((a ++ b).length : Int) i) true := by
    intro i hi
    refine Ev.step (f := fun _ => some true) (fun k => ?_) (Ev.now true)
    show numerarylaw01_RunesJoin.l0 (k + 1) a b (a ++ b) ((a ++ b).length : Int) i = _
    rw [numerarylaw01_RunesJoin.l0, if_neg (by rw [hlen]; omega)]
  induction m with
  | zero => intro i hm hi; exact last i (by omega)
  | succ m ih =>
    intro i hm hi
    by_cases h : i < a.length + b.length
    · refine Ev.step (fun k => ?_) (ih (i + 1) (by omega) (by omega))
      show numerarylaw01_RunesJoin.l0 (k + 1) a b (a ++ b) ((a ++ b).length : Int) i = _
      rw [numerarylaw01_RunesJoin.l0, if_pos (by rw [hlen]; omega), if_pos (by omega), if_pos (by rw [hlen]; omega), w64 ((i : Int) + 1) (by omega) (by omega)]
      by_cases ha : i < a.length
      · rw [if_pos (by omega), if_pos (rd_left a b i ha), if_neg (by omega)]; rfl
      · rw [if_neg (by omega), if_pos (by omega), w64 ((i : Int) - a.length) (by omega) (by omega), if_pos (by omega), if_pos (by omega), if_pos (rd_right a b i (by omega))]; rfl
    · exact last i h
theorem RunesJoin : numerarylaw01_RunesJoin.Pure := by
  intro a0 a1 hz0 hz1
  refine Ev.rounds ?_
  have hm0 : 0 ≤ mn (a0.size : Int) 100 := by unfold mn; split <;> omega
  have hm1 : mn (a0.size : Int) 100 ≤ a0.size := by unfold mn; split <;> omega
  have hm2 : mn (a0.size : Int) 100 ≤ 100 := by unfold mn; split <;> omega
  have hn0 : 0 ≤ mn (a1.size : Int) 100 := by unfold mn; split <;> omega
  have hn1 : mn (a1.size : Int) 100 ≤ a1.size := by unfold mn; split <;> omega
  have hn2 : mn (a1.size : Int) 100 ≤ 100 := by unfold mn; split <;> omega
  obtain ⟨s, hs⟩ : ∃ s, a0.extract 0 ((mn (a0.size : Int) 100) : Int).toNat = s := ⟨_, rfl⟩
  obtain ⟨t, ht⟩ : ∃ t, a1.extract 0 ((mn (a1.size : Int) 100) : Int).toNat = t := ⟨_, rfl⟩
  have hsl : s.size ≤ 100 := by rw [← hs, ByteArray.size_extract]; omega
  have htl : t.size ≤ 100 := by rw [← ht, ByteArray.size_extract]; omega
  obtain ⟨u, hu⟩ : ∃ u, s ++ t = u := ⟨_, rfl⟩
  have hul : u.data.toList = s.data.toList ++ t.data.toList := by rw [← hu, app_list2]
  have huz : u.size = s.size + t.size := by rw [Lib.size_eq, hul, List.length_append, ← Lib.size_eq, ← Lib.size_eq]
  obtain ⟨vs, r, hp⟩ := parts s.data.toList.length s.data.toList (Nat.le_refl _)
  obtain ⟨ws, q, hq⟩ := parts t.data.toList.length t.data.toList (Nat.le_refl _)
  have hA := all_parts s (by omega) vs r hp
  have hB := all_parts t (by omega) ws q hq
  have hvl : vs.length ≤ 100 := by
    have hl := encs_len vs
    have := congrArg List.length hp.eq
    rw [← Lib.size_eq, List.length_append] at this; omega
  have hwl : ws.length ≤ 100 := by
    have hl := encs_len ws
    have := congrArg List.length hq.eq
    rw [← Lib.size_eq, List.length_append] at this; omega
  have hql : q.length ≤ t.size := by
    have := congrArg List.length hq.eq
    rw [← Lib.size_eq, List.length_append] at this; omega
  refine Ev.congr (f := fun k => (runes_All.f k s).bind fun bt207 => ((runes_All.f k t).bind fun bt212 => ((runes_All.f k u).bind fun bt217 => (if bt207.2.2 = true then (if bt212.2.2 = true then ((numerarylaw01_wakes.f k).bind fun t225 => (if t225 = true then (if bt217.2.2 = true then (numerarylaw01_RunesJoin.j0 k bt207.1 bt212.1 bt217.1 ((bt217.1.length : Int) != (wrap64 ((bt207.1.length : Int) + (bt212.1.length : Int))))) else (numerarylaw01_RunesJoin.j0 k bt207.1 bt212.1 bt217.1 true)) else (numerarylaw01_RunesJoin.j0 k bt207.1 bt212.1 bt217.1 true))) else ((numerarylaw01_wakes.f k).bind fun t224 => (if t224 = true then (if bt217.2.2 = true then (some false) else (some (bt217.2.1 == (wrap64 ((s.size : Int) + bt212.2.1))))) else (some false)))) else ((numerarylaw01_wakes.f k).bind fun t222 => (if t222 = true then ((runes_Right.f s).bind fun t223 => (some (t223 == bt207.2.2))) else (some false))))))) (fun k => ?_) ?_
  · show numerarylaw01_RunesJoin.f k a0 a1 = _
    unfold numerarylaw01_RunesJoin.f
    have hle : s.size + t.size ≤ 9223372036854775807 := by omega
    rw [if_pos hm0, if_pos hm1, if_pos hn0, if_pos hn1, hs, ht]
    simp only [if_pos hle, hu]
  refine Ev.bind hA (Ev.bind hB ?_)
  by_cases hr : r = []
  · subst hr
    have hpu : Parts u.data.toList (vs ++ ws) q := ⟨by rw [hul, hp.eq, hq.eq, encs_append, List.append_nil, List.append_assoc], fun v hv => by
      rcases List.mem_append.1 hv with h | h
      · exact hp.all v h
      · exact hq.all v h, hq.stop⟩
    refine Ev.bind (all_parts u (by omega) _ q hpu) ?_
    have e1 : told vs [] (s.size : Int) = (vs, (s.size : Int), true) := rfl
    rw [e1]
    by_cases hq0 : q = []
    · subst hq0
      have e2 : told ws [] (t.size : Int) = (ws, (t.size : Int), true) := rfl
      have e3 : told (vs ++ ws) [] (u.size : Int) = (vs ++ ws, (u.size : Int), true) := rfl
      rw [e2, e3]
      refine Ev.congr (f := fun k => (numerarylaw01_wakes.f k).bind fun t225 => (if t225 = true then (numerarylaw01_RunesJoin.j0 k vs ws (vs ++ ws) false) else (numerarylaw01_RunesJoin.j0 k vs ws (vs ++ ws) true))) (fun k => ?_) ?_
      · rw [if_pos rfl, if_pos rfl]
        have : (((vs ++ ws).length : Int) != (wrap64 ((vs.length : Int) + (ws.length : Int)))) = false := by
          rw [w64 _ (by omega) (by omega), bne_eq_false_iff_eq, List.length_append]; omega
        simp only [this, if_true]
      · refine Ev.bind wakes_ev (Ev.congr (fun k => if_pos rfl) ?_)
        refine Ev.step (f := fun k => numerarylaw01_RunesJoin.l0 k vs ws (vs ++ ws) ((vs ++ ws).length : Int) ((0 : Nat) : Int)) (fun k => ?_) (join_cmp vs ws (by omega) (vs.length + ws.length) 0 (by omega) (Nat.zero_le _))
        show numerarylaw01_RunesJoin.j0 (k + 1) vs ws (vs ++ ws) false = _
        rw [numerarylaw01_RunesJoin.j0, if_neg (by simp)]; rfl
    · have e2 : told ws q (t.size : Int) = ([], (t.size : Int) - q.length, false) := by unfold told; rw [if_neg hq0]
      have e3 : told (vs ++ ws) q (u.size : Int) = ([], (u.size : Int) - q.length, false) := by unfold told; rw [if_neg hq0]
      rw [e2, e3]
      refine Ev.congr (f := fun k => (numerarylaw01_wakes.f k).bind fun t224 => (if t224 = true then (some true) else (some false))) (fun k => ?_) ?_
      · rw [if_pos rfl, if_neg (by simp)]
        have : (((u.size : Int) - q.length) == (wrap64 ((s.size : Int) + ((t.size : Int) - q.length)))) = true := by
          rw [w64 _ (by omega) (by omega), beq_iff_eq]; omega
        simp only [this]
        rfl
      · exact Ev.bind wakes_ev (Ev.congr (fun k => if_pos rfl) (Ev.now true))
  · obtain ⟨xs, z, hx⟩ := parts u.data.toList.length u.data.toList (Nat.le_refl _)
    refine Ev.bind (all_parts u (by omega) xs z hx) ?_
    have e1 : told vs r (s.size : Int) = ([], (s.size : Int) - r.length, false) := by unfold told; rw [if_neg hr]
    rw [e1, right_parts s (by omega) vs r hp]
    refine Ev.congr (f := fun k => (numerarylaw01_wakes.f k).bind fun t222 => (if t222 = true then (some true) else (some false))) (fun k => ?_) ?_
    · rw [if_neg (by simp)]
      have : decide (r = []) = false := by simp [hr]
      simp only [this]
      rfl
    · exact Ev.bind wakes_ev (Ev.congr (fun k => if_pos rfl) (Ev.now true))
end Go.Proofs.YtpefkehcibdjgaaDoor.R
