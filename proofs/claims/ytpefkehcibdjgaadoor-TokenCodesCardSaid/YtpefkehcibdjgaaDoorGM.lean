/- Proved here: the document's token at a text's beginning (numeraryref11.First) is the plain relations'. Proved here: the document's token at a text's beginning (numeraryref11.First), at each token and where there is none. Proved here: numeraryref11.All tells all tokens of a code, or where it is wrong, as the plain relations do; no program but the printed functions in sight. Proved here: what Token.Code hands back is empty, or the bytes of just this token; the printed form of the law TokenCodes answers true at every input of its kinds; no further condition. -/
import Derived.Test.YtpefkehcibdjgaaDoorCM
import Derived.Test.YtpefkehcibdjgaaDoorF0
import Derived.Test.YtpefkehcibdjgaaDoorF1
import Derived.Test.YtpefkehcibdjgaaDoorQTcdx6
import Derived.Test.YtpefkehcibdjgaaDoorC8
import Derived.Test.YtpefkehcibdjgaaDoorQTcdx7
import Derived.Test.YtpefkehcibdjgaaDoorC1
set_option linter.unusedVariables false
namespace Go.Proofs.YtpefkehcibdjgaaDoor.T
open Go.RowKit Go.Proofs.YtpefkehcibdjgaaDoor.ARfa Go.Proofs.YtpefkehcibdjgaaDoorW.PrintLast Go.Proofs.YtpefkehcibdjgaaDoorW.PrintMore Go.Proofs.YtpefkehcibdjgaaDoor.H Go.Proofs.YtpefkehcibdjgaaDoor.R Go.Lib
open Go.Proofs.YtpefkehcibdjgaaDoorW.PrintWords hiding encs
theorem rF (l : List UInt8) (hl : l.length ≤ 4096) : Ev (fun k => numeraryref01_First.f k (bs l)) (fL l) := F.ref_first (bs l) (by rw [bs_size]; omega)
/-- up to a last byte: a sign more -/
theorem rclosed_loop (l : List UInt8) (hl : l.length ≤ 4096) (z : UInt8) (hz : z.toNat < 128) (kd wrong : Int) (r : List UInt8) (res : R7) :
    ∀ (vs : List Int) (p : Nat), l.drop p = encs vs ++ r → Sgs z.toNat vs → (l.drop (p + (encs vs).length) = r → Ev (fun k => numeraryref11_closed.l0 k (bs l) kd z.toNat wrong ((p + (encs vs).length : Nat) : Int) 0 (⟨#[]⟩ : ByteArray) 0 0) res) → Ev (fun k => numeraryref11_closed.l0 k (bs l) kd z.toNat wrong p 0 (⟨#[]⟩ : ByteArray) 0 0) res
  | [], p, hd, _, hb => hb hd
  | v :: vs, p, hd, hs, hb => by
    obtain ⟨hv, hvz⟩ := hs v (by simp)
    have hlb := enc_len_bd v
    have hel := enc_len v
    have hd2 : l.drop p = encU v ++ (encs vs ++ r) := by rw [hd]; show (encU v ++ encs vs) ++ r = _; rw [List.append_assoc]
    have hsz : l.length - p = (encU v).length + (encs vs ++ r).length := by
      have := congrArg List.length hd2
      rw [List.length_drop, List.length_append] at this; exact this
    have hd3 : l.drop (p + (encU v).length) = encs vs ++ r := by rw [← List.drop_drop, hd2, List.drop_left]
    obtain ⟨b, t, hbt, hc⟩ := encU_head v hv
    have hg : l.getD p 0 = b := by rw [getD_drop, hd2, hbt]; rfl
    have hne : ¬ (b.toNat : Int) = (z.toNat : Int) := by rcases hc with ⟨_, h2, _⟩ | ⟨_, h2⟩ <;> omega
    have e2 : p + (encs (v :: vs)).length = p + (encU v).length + (encs vs).length := by
      show p + (encU v ++ encs vs).length = _
      rw [List.length_append]; omega
    rw [e2] at hb
    have ih := rclosed_loop l hl z hz kd wrong r res vs (p + (encU v).length) hd3 (fun x hx => hs x (by simp [hx])) hb
    refine Ev.step (f := fun k => (numeraryref01_First.f k (bs (l.drop p))).bind fun b => (if b.2.2 = true then (numeraryref11_closed.l0 k (bs l) kd z.toNat wrong (wrap64 ((p : Int) + b.2.1)) 0 (⟨#[]⟩ : ByteArray) 0 0) else (some (0, (⟨#[]⟩ : ByteArray), 0, 0, 0, (p : Int), 4)))) (fun k => ?_) ?_
    · show numeraryref11_closed.l0 (k + 1) (bs l) kd z.toNat wrong p 0 _ 0 0 = _
      rw [numeraryref11_closed.l0, if_pos (by rw [bs_size]; omega), if_pos (by omega), bt_bs, hg, if_neg hne, if_pos (by rw [bs_size]; omega), Int.toNat_natCast, bs_from]
    · refine Ev.bind (rF _ (by rw [List.length_drop]; omega)) ?_
      rw [hd2, fL_enc v hv]
      refine Ev.congr (fun k => ?_) ih
      rw [if_pos rfl]
      show numeraryref11_closed.l0 k (bs l) kd z.toNat wrong (wrap64 ((p : Int) + widthI v)) 0 _ 0 0 = _
      rw [← hel, w64q _ (by omega) (by omega)]; rfl
theorem rclosed_good (a z : UInt8) (hz : z.toNat < 128) (kd wrong : Int) (vs : List Int) (r : List UInt8) (hs : Sgs z.toNat vs) (hl : (a :: (encs vs ++ [z]) ++ r).length ≤ 4096) :
    Ev (fun k => numeraryref11_closed.f k (bs (a :: (encs vs ++ [z]) ++ r)) kd z.toNat wrong) (kd, bs (encs vs), 0, 0, ((encs vs).length : Int) + 2, 0, 0) := by
  obtain ⟨l, hle⟩ : ∃ l, a :: (encs vs ++ [z]) ++ r = l := ⟨_, rfl⟩
  rw [hle] at hl ⊢
  have hd1 : l.drop 1 = encs vs ++ (z :: r) := by rw [← hle]; simp
  have hlen : l.length = 1 + (encs vs).length + 1 + r.length := by rw [← hle]; simp; omega
  refine rclosed_loop l hl z hz kd wrong (z :: r) _ vs 1 hd1 hs (fun hd => ?_)
  have hg : l.getD (1 + (encs vs).length) 0 = z := by rw [getD_drop, hd]; rfl
  refine Ev.step (f := fun _ => some (kd, bs (encs vs), 0, 0, ((encs vs).length : Int) + 2, 0, 0)) (fun k => ?_) (Ev.now _)
  show numeraryref11_closed.l0 (k + 1) (bs l) kd z.toNat wrong _ 0 _ 0 0 = _
  rw [numeraryref11_closed.l0, if_pos (by rw [bs_size]; omega), if_pos (by omega), bt_bs, hg, if_pos rfl, if_pos (by omega), if_pos (by rw [bs_size]; omega), Int.toNat_natCast, bs_ext, hd1, w64q _ (by omega) (by omega)]
  have e1 : 1 + (encs vs).length - 1 = (encs vs).length := by omega
  have e2 : ((1 + (encs vs).length : Nat) : Int) + 1 = ((encs vs).length : Int) + 2 := by omega
  rw [e1, List.take_left, e2]
theorem rclosed_end (a z : UInt8) (hz : z.toNat < 128) (kd wrong : Int) (vs : List Int) (hs : Sgs z.toNat vs) (hl : (a :: encs vs).length ≤ 4096) :
    Ev (fun k => numeraryref11_closed.f k (bs (a :: encs vs)) kd z.toNat wrong) (bad7 (1 + (encs vs).length : Nat) wrong) := by
  obtain ⟨l, hle⟩ : ∃ l, a :: encs vs = l := ⟨_, rfl⟩
  rw [hle] at hl ⊢
  have hd1 : l.drop 1 = encs vs ++ [] := by rw [← hle]; simp
  have hlen : l.length = 1 + (encs vs).length := by rw [← hle]; simp; omega
  refine rclosed_loop l hl z hz kd wrong [] _ vs 1 hd1 hs (fun hd => ?_)
  refine Ev.step (f := fun _ => some (bad7 (1 + (encs vs).length : Nat) wrong)) (fun k => ?_) (Ev.now _)
  show numeraryref11_closed.l0 (k + 1) (bs l) kd z.toNat wrong _ 0 _ 0 0 = _
  rw [numeraryref11_closed.l0, if_neg (by rw [bs_size]; omega)]; rfl
theorem rclosed_utf (a z : UInt8) (hz : z.toNat < 128) (kd wrong : Int) (vs : List Int) (r : List UInt8) (hs : Sgs z.toNat vs) (hr : r ≠ []) (hf : fL r = (0, 0, false)) (hl : (a :: (encs vs ++ r)).length ≤ 4096) :
    Ev (fun k => numeraryref11_closed.f k (bs (a :: (encs vs ++ r))) kd z.toNat wrong) (bad7 (1 + (encs vs).length : Nat) 4) := by
  obtain ⟨l, hle⟩ : ∃ l, a :: (encs vs ++ r) = l := ⟨_, rfl⟩
  rw [hle] at hl ⊢
  have hd1 : l.drop 1 = encs vs ++ r := by rw [← hle]; simp
  have hpos : 0 < r.length := List.length_pos_iff.2 hr
  have hlen : l.length = 1 + (encs vs).length + r.length := by rw [← hle]; simp; omega
  refine rclosed_loop l hl z hz kd wrong r _ vs 1 hd1 hs (fun hd => ?_)
  obtain ⟨b, q, rfl⟩ : ∃ b q, r = b :: q := by cases r with | nil => exact absurd rfl hr | cons b q => exact ⟨b, q, rfl⟩
  have hb := fL_bad_head b q hf
  have hg : l.getD (1 + (encs vs).length) 0 = b := by rw [getD_drop, hd]; rfl
  refine Ev.step (f := fun k => (numeraryref01_First.f k (bs (b :: q))).bind fun x => (if x.2.2 = true then (numeraryref11_closed.l0 k (bs l) kd z.toNat wrong (wrap64 (((1 + (encs vs).length : Nat) : Int) + x.2.1)) 0 (⟨#[]⟩ : ByteArray) 0 0) else (some (0, (⟨#[]⟩ : ByteArray), 0, 0, 0, ((1 + (encs vs).length : Nat) : Int), 4)))) (fun k => ?_) ?_
  · show numeraryref11_closed.l0 (k + 1) (bs l) kd z.toNat wrong _ 0 _ 0 0 = _
    rw [numeraryref11_closed.l0, if_pos (by rw [bs_size]; omega), if_pos (by omega), bt_bs, hg, if_neg (by omega), if_pos (by rw [bs_size]; omega), Int.toNat_natCast, bs_from, hd]
  · refine Ev.bind (rF _ (by omega)) ?_
    rw [hf]
    exact Ev.congr (f := fun _ => some (bad7 (1 + (encs vs).length : Nat) 4)) (fun k => by rw [if_neg (by simp)]; rfl) (Ev.now _)
theorem rmarked_good (b : UInt8) (v : Int) (hv : isB v = true) (r : List UInt8) (k e : Int) (hl : (b :: encU v ++ r).length ≤ 4096) :
    Ev (fun j => numeraryref11_marked.f j (bs (b :: encU v ++ r)) k e) (k, bs (encU v), 0, 0, ((encU v).length : Int) + 1, 0, 0) := by
  have hlb := enc_len_bd v
  have hel := enc_len v
  obtain ⟨l, hle⟩ : ∃ l, b :: encU v ++ r = l := ⟨_, rfl⟩
  rw [hle] at hl ⊢
  have hd1 : l.drop 1 = encU v ++ r := by rw [← hle]; simp
  have hlen : l.length = 1 + (encU v).length + r.length := by rw [← hle]; simp; omega
  refine Ev.congr (f := fun j => (numeraryref01_First.f j (bs (l.drop 1))).bind fun x => (if x.2.2 = true then (if 1 ≤ (wrap64 (1 + x.2.1)) then (if (wrap64 (1 + x.2.1)) ≤ ((bs l).size : Int) then (some (k, (bs l).extract 1 ((wrap64 (1 + x.2.1)) : Int).toNat, 0, 0, wrap64 (1 + x.2.1), 0, 0)) else (none)) else (none)) else (some (0, (⟨#[]⟩ : ByteArray), 0, 0, 0, 1, 4)))) (fun j => ?_) ?_
  · unfold numeraryref11_marked.f
    rw [if_neg (by rw [bs_size]; omega), if_pos (by rw [bs_size]; omega), bs_from]
  · refine Ev.bind (rF _ (by rw [List.length_drop]; omega)) ?_
    rw [hd1, fL_enc v hv]
    refine Ev.congr (f := fun _ => some (k, bs (encU v), 0, 0, ((encU v).length : Int) + 1, 0, 0)) (fun j => ?_) (Ev.now _)
    rw [if_pos rfl]
    show (if 1 ≤ wrap64 (1 + widthI v) then _ else _) = _
    rw [← hel, w64q _ (by omega) (by omega), if_pos (by omega), if_pos (by rw [bs_size]; omega)]
    have e1 : (1 + ((encU v).length : Int)).toNat = 1 + (encU v).length := by omega
    rw [e1, bs_ext, hd1]
    have e2 : 1 + (encU v).length - 1 = (encU v).length := by omega
    rw [e2, List.take_left, Int.add_comm]
theorem rmarked_end (b : UInt8) (k e : Int) : Ev (fun j => numeraryref11_marked.f j (bs [b]) k e) (bad7 1 e) := by
  refine Ev.congr (f := fun _ => some (bad7 1 e)) (fun j => ?_) (Ev.now _)
  unfold numeraryref11_marked.f
  rw [if_pos (by rw [bs_size, List.length_singleton]; omega)]; rfl
theorem rmarked_utf (b : UInt8) (r : List UInt8) (k e : Int) (hr : r ≠ []) (hf : fL r = (0, 0, false)) (hl : (b :: r).length ≤ 4096) : Ev (fun j => numeraryref11_marked.f j (bs (b :: r)) k e) (bad7 1 4) := by
  have hpos : 0 < r.length := List.length_pos_iff.2 hr
  rw [List.length_cons] at hl
  refine Ev.congr (f := fun j => (numeraryref01_First.f j (bs r)).bind fun x => (if x.2.2 = true then (if 1 ≤ (wrap64 (1 + x.2.1)) then (if (wrap64 (1 + x.2.1)) ≤ ((bs (b :: r)).size : Int) then (some (k, (bs (b :: r)).extract 1 ((wrap64 (1 + x.2.1)) : Int).toNat, 0, 0, wrap64 (1 + x.2.1), 0, 0)) else (none)) else (none)) else (some (0, (⟨#[]⟩ : ByteArray), 0, 0, 0, 1, 4)))) (fun j => ?_) ?_
  · unfold numeraryref11_marked.f
    rw [if_neg (by rw [bs_size, List.length_cons]; omega), if_pos (by rw [bs_size, List.length_cons]; omega), bs_from]; rfl
  · refine Ev.bind (rF _ (by omega)) ?_
    rw [hf]
    exact Ev.congr (f := fun _ => some (bad7 1 4)) (fun j => by rw [if_neg (by simp)]; rfl) (Ev.now _)
theorem has_loop (s : List UInt8) (hs : s.length ≤ 1000) (c : Int) : ∀ (q : List UInt8) (i : Nat), s.drop i = q → i ≤ s.length → Ev (fun k => numeraryref11_has.l0 k (bs s) c i) (q.any fun x => (x.toNat : Int) == c)
  | [], i, hd, hi => by
    have : s.length - i = 0 := by rw [← List.length_drop, hd]; rfl
    refine Ev.step (f := fun _ => some false) (fun k => ?_) (Ev.now _)
    show numeraryref11_has.l0 (k + 1) (bs s) c i = _
    rw [numeraryref11_has.l0, if_neg (by rw [bs_size]; omega)]
  | x :: q, i, hd, hi => by
    have hlen : s.length - i = q.length + 1 := by rw [← List.length_drop, hd]; rfl
    have hg : s.getD i 0 = x := by rw [getD_drop, hd]; rfl
    have hd2 : s.drop (i + 1) = q := by rw [← List.drop_drop, hd]; rfl
    by_cases h : (x.toNat : Int) = c
    · refine Ev.step (f := fun _ => some true) (fun k => ?_) ?_
      · show numeraryref11_has.l0 (k + 1) (bs s) c i = _
        rw [numeraryref11_has.l0, if_pos (by rw [bs_size]; omega), if_pos (by omega), bt_bs, hg, if_pos h]
      · rw [List.any_cons, beq_iff_eq.2 h, Bool.true_or]; exact Ev.now _
    · refine Ev.step (fun k => ?_) (by rw [List.any_cons, beq_eq_false_iff_ne.2 h, Bool.false_or]; exact has_loop s hs c q (i + 1) hd2 (by omega))
      show numeraryref11_has.l0 (k + 1) (bs s) c i = _
      rw [numeraryref11_has.l0, if_pos (by rw [bs_size]; omega), if_pos (by omega), bt_bs, hg, if_neg h, w64q _ (by omega) (by omega)]; rfl
theorem has_ev (s : List UInt8) (hs : s.length ≤ 1000) (c : Int) : Ev (fun k => numeraryref11_has.f k (bs s) c) (s.any fun x => (x.toNat : Int) == c) := has_loop s hs c s 0 (by simp) (by omega)
theorem has_let (c : Nat) (hc : c < 256) : (letB.data.toList.any fun x => (x.toNat : Int) == (c : Int)) = decide (isLet c) := by
  have key : ∀ c : Nat, c < 256 → (letB.data.toList.any fun x => (x.toNat : Int) == (c : Int)) = decide (isLet c) := by decide +kernel
  exact key c hc
theorem has_plain (b : UInt8) : (plainB.data.toList.any fun x => (x.toNat : Int) == (b.toNat : Int)) = decide (b ∈ plainsL) := by
  have key : ∀ c : Nat, c < 256 → (plainB.data.toList.any fun x => (x.toNat : Int) == (c : Int)) = decide (UInt8.ofNat c ∈ plainsL) := by decide +kernel
  have := key b.toNat b.toNat_lt
  rwa [UInt8.ofNat_toNat] at this
def lowB (b : UInt8) : UInt8 := if 65 ≤ b.toNat ∧ b.toNat ≤ 90 then b + 32 else b
theorem lowB_nat (b : UInt8) : (lowB b).toNat = smallN b.toNat := by
  have key : ∀ c : Nat, c < 256 → (lowB (UInt8.ofNat c)).toNat = smallN (UInt8.ofNat c).toNat := by decide +kernel
  have := key b.toNat b.toNat_lt
  rwa [UInt8.ofNat_toNat] at this
theorem lowP_bs (l : List UInt8) : lowP (bs l) = bs (l.map lowB) := rfl
theorem low_bs (l : List UInt8) (hl : l.length ≤ 4096) : numeraryref11_low.f (bs l) = some (bs (l.map lowB)) := by
  unfold numeraryref11_low.f
  rw [if_pos (by unfold big; rw [bs_size]; omega), lowP_bs]
theorem bs_list (l : List UInt8) : (bs l).toList = l := by rw [Lib.toList_data]; rfl
theorem begins_bs (w w0 : ByteArray) (h1 : w0.size = w.size) (h2 : sm w.data.toList = w0.data.toList.map UInt8.toNat) (l : List UInt8) (hl : l.length ≤ 4096) :
    numeraryref11_begins.f (bs l) w0 = some (decide (sm (l.take w.size) = sm w.data.toList)) := by
  unfold numeraryref11_begins.f
  by_cases hs : l.length < w.size
  · rw [if_pos (by rw [bs_size, h1]; omega)]
    congr 1; symm
    rw [decide_eq_false_iff_not]
    intro h
    have := congrArg List.length h
    unfold sm at this
    rw [List.length_map, List.length_map, List.length_take, ← Lib.size_eq] at this
    omega
  · rw [if_neg (by rw [bs_size, h1]; omega), if_pos (by omega), if_pos (by rw [bs_size, h1]; omega), Int.toNat_natCast, bs_ext, List.drop_zero, Nat.sub_zero, h1, low_bs _ (by rw [List.length_take]; omega), Option.bind_some, bs_list, Lib.toList_data]
    congr 1
    rw [Bool.eq_iff_iff, beq_iff_eq, decide_eq_true_eq, h2]
    have e : (l.take w.size).map lowB = w0.data.toList ↔ ((l.take w.size).map lowB).map UInt8.toNat = w0.data.toList.map UInt8.toNat :=
      ⟨fun h => by rw [h], fun h => (List.map_inj_right (fun a b h => UInt8.toNat_inj.1 h)).1 h⟩
    rw [e, List.map_map]
    have e2 : (UInt8.toNat ∘ lowB) = fun b : UInt8 => smallN b.toNat := by funext b; exact lowB_nat b
    rw [e2]; rfl
end Go.Proofs.YtpefkehcibdjgaaDoor.T
set_option linter.unusedVariables false
namespace Go.Proofs.YtpefkehcibdjgaaDoor.T
open Go.RowKit Go.Proofs.YtpefkehcibdjgaaDoor.ARfa Go.Proofs.YtpefkehcibdjgaaDoorW.PrintLast Go.Proofs.YtpefkehcibdjgaaDoorW.PrintMore Go.Proofs.YtpefkehcibdjgaaDoor.H Go.Proofs.YtpefkehcibdjgaaDoor.R Go.Lib
open Go.Proofs.YtpefkehcibdjgaaDoorW.PrintWords hiding encs
theorem rf_pos (b : UInt8) (q : List UInt8) (hl : (b :: q).length ≤ 4096) : 0 < (bs (b :: q)).size ∧ (bs (b :: q)).size ≤ big := by
  rw [bs_size]; unfold big; rw [List.length_cons] at hl ⊢; omega
theorem rf_ends (a z : UInt8) (kd e : Int) (he : isEnds a z kd e) (q : List UInt8) (hl : (a :: q).length ≤ 4096) (x : R7) (h : Ev (fun k => numeraryref11_closed.f k (bs (a :: q)) kd z.toNat e) x) : Ev (fun k => refF k (bs (a :: q))) x := by
  have h0 := rf_pos a q hl
  have hb : bt (bs (a :: q)) 0 = (a.toNat : Int) := bt_bs0 _
  rcases he with ⟨rfl, rfl, rfl, rfl⟩ | ⟨rfl, rfl, rfl, rfl⟩
  · have hb2 : bt (bs ((34 : UInt8) :: q)) 0 = 34 := hb
    refine Ev.congr (fun k => ?_) h
    unfold refF
    rw [if_pos h0, hb2, if_pos rfl]; rfl
  · have hb2 : bt (bs ((91 : UInt8) :: q)) 0 = 91 := hb
    refine Ev.congr (fun k => ?_) h
    unfold refF
    rw [if_pos h0, hb2, if_neg (by decide), if_neg (by decide), if_neg (by decide), if_neg (by decide), if_pos rfl]; rfl
theorem rf_mark (b : UInt8) (kd e : Int) (he : isMark b kd e) (q : List UInt8) (hl : (b :: q).length ≤ 4096) (x : R7) (h : Ev (fun k => numeraryref11_marked.f k (bs (b :: q)) kd e) x) : Ev (fun k => refF k (bs (b :: q))) x := by
  have h0 := rf_pos b q hl
  have hb : bt (bs (b :: q)) 0 = (b.toNat : Int) := bt_bs0 _
  rcases he with ⟨rfl, rfl, rfl⟩ | ⟨rfl, rfl, rfl⟩ | ⟨rfl, rfl, rfl⟩
  · have hb2 : bt (bs ((92 : UInt8) :: q)) 0 = 92 := hb
    refine Ev.congr (fun k => ?_) h
    unfold refF
    rw [if_pos h0, hb2, if_neg (by decide), if_pos rfl]
  · have hb2 : bt (bs ((95 : UInt8) :: q)) 0 = 95 := hb
    refine Ev.congr (fun k => ?_) h
    unfold refF
    rw [if_pos h0, hb2, if_neg (by decide), if_neg (by decide), if_pos rfl]
  · have hb2 : bt (bs ((42 : UInt8) :: q)) 0 = 42 := hb
    refine Ev.congr (fun k => ?_) h
    unfold refF
    rw [if_pos h0, hb2, if_neg (by decide), if_neg (by decide), if_neg (by decide), if_pos rfl]
theorem rf_more (k : Nat) (b : UInt8) (q : List UInt8) (hl : (b :: q).length ≤ 4096) (hm : NoMark b) : refF k (bs (b :: q)) =
    if (singleP b.toNat).2 = true then some ((singleP b.toNat).1, bs [b], 1, 0, 1, 0, 0)
    else if 1 < (b :: q).length ∧ ((b.toNat : Int) = 69 ∨ (b.toNat : Int) = 101) ∧ ((((b :: q).getD 1 0).toNat : Int) = 43 ∨ (((b :: q).getD 1 0).toNat : Int) = 45) then some (13, (bs (b :: q)).extract 1 2, 1, 0, 2, 0, 0)
    else refL k (bs (b :: q)) := by
  obtain ⟨h1, h2, h3, h4, h5⟩ := hm
  have h0 := rf_pos b q hl
  have hb : bt (bs (b :: q)) 0 = (b.toNat : Int) := bt_bs0 _
  have hb1 : bt (bs (b :: q)) 1 = (((b :: q).getD 1 0).toNat : Int) := bt_bs1 _
  have k1 : ¬ (b.toNat : Int) = 34 := fun h => h1 ((u8_eq b 34 (by omega)).1 h)
  have k2 : ¬ (b.toNat : Int) = 92 := fun h => h2 ((u8_eq b 92 (by omega)).1 h)
  have k3 : ¬ (b.toNat : Int) = 95 := fun h => h3 ((u8_eq b 95 (by omega)).1 h)
  have k4 : ¬ (b.toNat : Int) = 42 := fun h => h4 ((u8_eq b 42 (by omega)).1 h)
  have k5 : ¬ (b.toNat : Int) = 91 := fun h => h5 ((u8_eq b 91 (by omega)).1 h)
  have e1 : (bs (b :: q)).extract 0 1 = bs [b] := by rw [bs_ext]; rfl
  unfold refF
  rw [if_pos h0, hb, hb1, if_neg k1, if_neg k2, if_neg k3, if_neg k4, if_neg k5, e1, bs_size]
/-- behind the words -/
def restL (k : Nat) (b : UInt8) (q : List UInt8) : Option R7' :=
  (numeraryref11_has.f k letB ((smallN b.toNat : Nat) : Int)).bind fun d => if d = true then some (14, bs [lowB b], H.runN ((b :: q).map lowB), 0, H.runN ((b :: q).map lowB), 0, 0) else
    (numeraryref01_First.f k (bs (b :: q))).bind fun t => if t.2.2 = true then
      (if 0 ≤ t.2.1 ∧ t.2.1 ≤ ((b :: q).length : Int) then (numeraryref11_has.f k plainB (b.toNat : Int)).bind fun p => if p = false ∧ (b.toNat : Int) < 128 then some (0, (⟨#[]⟩ : ByteArray), 0, 0, 0, 0, 9) else some (17, (bs (b :: q)).extract 0 t.2.1.toNat, 1, 0, t.2.1, 0, 0) else none)
      else some (0, (⟨#[]⟩ : ByteArray), 0, 0, 0, 0, 4)
theorem ite_dec {α : Type} (p : Prop) [Decidable p] (x y : α) : (if decide p = true then x else y) = if p then x else y := by by_cases h : p <;> simp [h]
theorem refL_eq (k : Nat) (b : UInt8) (q : List UInt8) (hl : (b :: q).length ≤ 4096) : refL k (bs (b :: q)) =
    if sm ((b :: q).take 5) = sm wAm.data.toList then some (15, wAm, 1, 0, 5, 0, 0)
    else if sm ((b :: q).take 3) = sm wA.data.toList then some (15, wA, 1, 0, 3, 0, 0)
    else if sm ((b :: q).take 7) = sm wGen.data.toList then some (16, wGen, 1, 0, 7, 0, 0) else restL k b q := by
  have hb : bt (bs (b :: q)) 0 = (b.toNat : Int) := bt_bs0 _
  have hb2 : bt (bs ((b :: q).map lowB)) 0 = ((smallN b.toNat : Nat) : Int) := by
    have := bt_bs0 ((b :: q).map lowB)
    rw [this, ← lowB_nat]; rfl
  have e1 : (bs ((b :: q).map lowB)).extract 0 1 = bs [lowB b] := by rw [bs_ext]; rfl
  have e2 : (bs ((b :: q).map lowB)).data.toList = (b :: q).map lowB := rfl
  have hp : 0 < (bs ((b :: q).map lowB)).size ∧ (bs ((b :: q).map lowB)).size ≤ big := by
    rw [bs_size, List.length_map]; unfold big; rw [List.length_cons] at hl ⊢; omega
  have w1 := begins_bs wAm ⟨#[97, 109, 47, 112, 109]⟩ rfl rfl (b :: q) hl
  have w2 := begins_bs wA ⟨#[97, 47, 112]⟩ rfl rfl (b :: q) hl
  have w3 := begins_bs wGen ⟨#[103, 101, 110, 101, 114, 97, 108]⟩ rfl rfl (b :: q) hl
  unfold refL
  rw [w1, Option.bind_some, ite_dec, w2, Option.bind_some, ite_dec, w3, Option.bind_some, ite_dec, low_bs _ hl, Option.bind_some, if_pos hp, hb, hb2, e1, e2, bs_size]
  rfl
theorem rest_letter (b : UInt8) (q : List UInt8) (h : isLet (smallN b.toNat)) : Ev (fun k => restL k b q) (14, bs [lowB b], H.runN ((b :: q).map lowB), 0, H.runN ((b :: q).map lowB), 0, 0) := by
  have hs : smallN b.toNat < 256 := by have := (lowB b).toNat_lt; rw [lowB_nat] at this; exact this
  have hh := has_ev letB.data.toList (by decide) ((smallN b.toNat : Nat) : Int)
  rw [has_let _ hs, decide_eq_true h] at hh
  refine Ev.bind hh (Ev.congr (f := fun _ => some _) (fun k => if_pos rfl) (Ev.now _))
theorem rest_more (b : UInt8) (q : List UInt8) (h : ¬ isLet (smallN b.toNat)) (hl : (b :: q).length ≤ 4096) (res : R7')
    (hm : ∀ (k : Nat) (p : Bool), p = decide (b ∈ plainsL) → (if (fL (b :: q)).2.2 = true then (if 0 ≤ (fL (b :: q)).2.1 ∧ (fL (b :: q)).2.1 ≤ ((b :: q).length : Int) then (if p = false ∧ (b.toNat : Int) < 128 then some (0, (⟨#[]⟩ : ByteArray), 0, 0, 0, 0, 9) else some (17, (bs (b :: q)).extract 0 (fL (b :: q)).2.1.toNat, 1, 0, (fL (b :: q)).2.1, 0, 0)) else none)
      else some (0, (⟨#[]⟩ : ByteArray), 0, 0, 0, 0, 4)) = some res) : Ev (fun k => restL k b q) res := by
  have hs : smallN b.toNat < 256 := by have := (lowB b).toNat_lt; rw [lowB_nat] at this; exact this
  have hh := has_ev letB.data.toList (by decide) ((smallN b.toNat : Nat) : Int)
  rw [has_let _ hs, decide_eq_false h] at hh
  refine Ev.bind hh ?_
  refine Ev.congr (f := fun k => (numeraryref01_First.f k (bs (b :: q))).bind fun t => if t.2.2 = true then
      (if 0 ≤ t.2.1 ∧ t.2.1 ≤ ((b :: q).length : Int) then (numeraryref11_has.f k plainB (b.toNat : Int)).bind fun p => if p = false ∧ (b.toNat : Int) < 128 then some (0, (⟨#[]⟩ : ByteArray), 0, 0, 0, 0, 9) else some (17, (bs (b :: q)).extract 0 t.2.1.toNat, 1, 0, t.2.1, 0, 0) else none)
      else some (0, (⟨#[]⟩ : ByteArray), 0, 0, 0, 0, 4)) (fun k => if_neg (by simp)) ?_
  refine Ev.bind (rF _ hl) ?_
  have hp := has_ev plainB.data.toList (by decide) (b.toNat : Int)
  rw [has_plain] at hp
  have hm := hm 0 _ rfl
  by_cases c1 : (fL (b :: q)).2.2 = true
  · rw [if_pos c1] at hm
    by_cases c2 : 0 ≤ (fL (b :: q)).2.1 ∧ (fL (b :: q)).2.1 ≤ ((b :: q).length : Int)
    · rw [if_pos c2] at hm
      refine Ev.congr (f := fun k => (numeraryref11_has.f k plainB (b.toNat : Int)).bind fun p => if p = false ∧ (b.toNat : Int) < 128 then some (0, (⟨#[]⟩ : ByteArray), 0, 0, 0, 0, 9) else some (17, (bs (b :: q)).extract 0 (fL (b :: q)).2.1.toNat, 1, 0, (fL (b :: q)).2.1, 0, 0)) (fun k => by rw [if_pos c1, if_pos c2]) ?_
      exact Ev.bind hp (Ev.congr (f := fun _ => some res) (fun k => hm) (Ev.now _))
    · rw [if_neg c2] at hm; cases hm
  · rw [if_neg c1] at hm
    exact Ev.congr (f := fun _ => some res) (fun k => by rw [if_neg c1]; exact hm) (Ev.now _)
theorem run_date (x : UInt8) : ∀ (m n : List UInt8), (∀ y ∈ m, y = x) → (∀ y r, n = y :: r → y ≠ x) → ((m ++ n).takeWhile (fun b => b == x)).length = m.length
  | [], [], _, _ => rfl
  | [], y :: r, _, h2 => by
    rw [List.nil_append, List.takeWhile_cons_of_neg (p := fun b => b == x) (by simpa using h2 y r rfl)]
  | y :: m, n, h1, h2 => by
    rw [List.cons_append, List.takeWhile_cons_of_pos (p := fun b => b == x) (by simpa using h1 y (by simp)), List.length_cons, List.length_cons, run_date x m n (fun y hy => h1 y (by simp [hy])) h2]
theorem power_not (b : UInt8) (q : List UInt8) (h : smallN b.toNat = 101 → ∀ x r', q = x :: r' → x ≠ 43 ∧ x ≠ 45) : ¬ (1 < (b :: q).length ∧ ((b.toNat : Int) = 69 ∨ (b.toNat : Int) = 101) ∧ ((((b :: q).getD 1 0).toNat : Int) = 43 ∨ (((b :: q).getD 1 0).toNat : Int) = 45)) := by
  rintro ⟨h1, h2, h3⟩
  cases q with
  | nil => simp at h1
  | cons x r =>
    have hs : smallN b.toNat = 101 := by unfold smallN; split <;> omega
    have hx : ((b :: x :: r).getD 1 0) = x := rfl
    rw [hx] at h3
    obtain ⟨n1, n2⟩ := h hs x r rfl
    rcases h3 with h3 | h3
    · exact n1 ((u8_eq x 43 (by omega)).1 h3)
    · exact n2 ((u8_eq x 45 (by omega)).1 h3)
/-- no mark, no single sign, no power: the words, and what is behind them -/
theorem rf_rest (b : UInt8) (q : List UInt8) (hl : (b :: q).length ≤ 4096) (hm : NoMark b) (hs : (singleP b.toNat).2 = false) (hp : smallN b.toNat = 101 → ∀ x r', q = x :: r' → x ≠ 43 ∧ x ≠ 45) (res : R7')
    (h : Ev (fun k => if sm ((b :: q).take 5) = sm wAm.data.toList then some (15, wAm, 1, 0, 5, 0, 0)
    else if sm ((b :: q).take 3) = sm wA.data.toList then some (15, wA, 1, 0, 3, 0, 0)
    else if sm ((b :: q).take 7) = sm wGen.data.toList then some (16, wGen, 1, 0, 7, 0, 0) else restL k b q) res) : Ev (fun k => refF k (bs (b :: q))) res := by
  refine Ev.congr (fun k => ?_) h
  rw [rf_more k b q hl hm, if_neg (by rw [hs]; simp), if_neg (power_not b q hp), refL_eq k b q hl]
theorem rf_none (b : UInt8) (q : List UInt8) (hl : (b :: q).length ≤ 4096) (hm : NoMark b) (hs : (singleP b.toNat).2 = false) (hp : smallN b.toNat = 101 → ∀ x r', q = x :: r' → x ≠ 43 ∧ x ≠ 45)
    (hw : ∀ w k, isWord w k → ¬ sm ((b :: q).take w.size) = sm w.data.toList) (res : R7') (h : Ev (fun k => restL k b q) res) : Ev (fun k => refF k (bs (b :: q))) res := by
  refine rf_rest b q hl hm hs hp res (Ev.congr (fun k => ?_) h)
  have n1 : ¬ sm ((b :: q).take 5) = sm wAm.data.toList := hw wAm 15 (.inl ⟨rfl, rfl⟩)
  have n2 : ¬ sm ((b :: q).take 3) = sm wA.data.toList := hw wA 15 (.inr (.inl ⟨rfl, rfl⟩))
  have n3 : ¬ sm ((b :: q).take 7) = sm wGen.data.toList := hw wGen 16 (.inr (.inr ⟨rfl, rfl⟩))
  rw [if_neg n1, if_neg n2, if_neg n3]
theorem rfirst_ok (pre r : List UInt8) (k : Int) (t : List UInt8) (c : Int) (h : Tk pre r k t c) (hl : (pre ++ r).length ≤ 4096) : Ev (fun j => refF j (bs (pre ++ r))) (k, bs t, c, 0, (pre.length : Int), 0, 0) := by
  cases h with
  | ends a z _ e vs _ h1 h2 =>
    have hg := rclosed_good a z (ends_z h1) k e vs r h2 hl
    have e1 : ((a :: (encs vs ++ [z])).length : Int) = ((encs vs).length : Int) + 2 := by simp; omega
    rw [e1]
    exact rf_ends a z k e h1 _ hl _ hg
  | mark b _ e v _ h1 h2 =>
    have hg := rmarked_good b v h2 r k e hl
    have e1 : ((b :: encU v).length : Int) = ((encU v).length : Int) + 1 := by simp
    rw [e1]
    exact rf_mark b k e h1 (encU v ++ r) hl _ hg
  | single b _ _ h1 =>
    obtain ⟨hm, -⟩ := single_mark b (by rw [h1])
    refine Ev.congr (f := fun _ => some (k, bs [b], 1, 0, 1, 0, 0)) (fun j => ?_) (Ev.now _)
    show refF j (bs (b :: r)) = _
    rw [rf_more j b r hl hm, h1, if_pos rfl]
  | word w _ _ _ h1 h2 =>
    have hlen : pre.length = w.size := by
      have := congrArg List.length h2
      unfold sm at this
      rw [List.length_map, List.length_map, ← Lib.size_eq] at this; exact this
    obtain ⟨b, q, hq⟩ : ∃ b q, pre = b :: q := by
      cases pre with
      | nil => rcases h1 with ⟨rfl, _⟩ | ⟨rfl, _⟩ | ⟨rfl, _⟩ <;> simp [wAm, wA, wGen, ByteArray.size] at hlen
      | cons b q => exact ⟨b, q, rfl⟩
    have hsb : smallN b.toNat = 97 ∨ smallN b.toNat = 103 := by
      rw [hq] at h2
      rcases h1 with ⟨rfl, _⟩ | ⟨rfl, _⟩ | ⟨rfl, _⟩
      · exact .inl (List.cons.inj h2).1
      · exact .inl (List.cons.inj h2).1
      · exact .inr (List.cons.inj h2).1
    obtain ⟨hm, hs, -⟩ := letter_mark b (by omega)
    have ht : sm ((pre ++ r).take w.size) = sm w.data.toList := by rw [← hlen, List.take_left]; exact h2
    have ebs : bs w.data.toList = w := by unfold bs; simp
    have hcons : pre ++ r = b :: (q ++ r) := by rw [hq]; rfl
    rw [hlen, ebs]
    rw [hcons] at ht hl ⊢
    refine rf_rest b (q ++ r) hl hm hs (fun e => by omega) _ ?_
    rcases h1 with ⟨rfl, rfl⟩ | ⟨rfl, rfl⟩ | ⟨rfl, rfl⟩
    · exact Ev.congr (f := fun _ => some (15, wAm, 1, 0, 5, 0, 0)) (fun j => if_pos ht) (Ev.now _)
    · have n1 : ¬ sm ((b :: (q ++ r)).take 5) = sm wAm.data.toList := fun h => by
        have e1 := congrArg (fun l => l[1]?) h
        have e2 := congrArg (fun l => l[1]?) ht
        have e3 : (sm ((b :: (q ++ r)).take 5))[1]? = (sm ((b :: (q ++ r)).take 3))[1]? := by
          unfold sm
          rw [List.getElem?_map, List.getElem?_map, List.getElem?_take, List.getElem?_take]; rfl
        have e4 : (sm ((b :: (q ++ r)).take 3))[1]? = (sm wA.data.toList)[1]? := e2
        have e5 : (sm ((b :: (q ++ r)).take 5))[1]? = (sm wAm.data.toList)[1]? := e1
        rw [e3, e4] at e5
        exact absurd e5 (by decide)
      exact Ev.congr (f := fun _ => some (15, wA, 1, 0, 3, 0, 0)) (fun j => (if_neg n1).trans (if_pos ht)) (Ev.now _)
    · have hb : smallN b.toNat = 103 := sm_head (n := 6) (w := wGen.data.toList) ht rfl
      have n1 : ¬ sm ((b :: (q ++ r)).take 5) = sm wAm.data.toList := fun h => by
        have := sm_head (n := 4) (w := wAm.data.toList) (c := 97) h rfl
        omega
      have n2 : ¬ sm ((b :: (q ++ r)).take 3) = sm wA.data.toList := fun h => by
        have := sm_head (n := 2) (w := wA.data.toList) (c := 97) h rfl
        omega
      exact Ev.congr (f := fun _ => some (16, wGen, 1, 0, 7, 0, 0)) (fun j => (if_neg n1).trans ((if_neg n2).trans (if_pos ht))) (Ev.now _)
  | power b s _ h1 h2 =>
    obtain ⟨hm, hs, -⟩ := letter_mark b (by omega)
    refine Ev.congr (f := fun _ => some (13, bs [s], 1, 0, 2, 0, 0)) (fun j => ?_) (Ev.now _)
    show refF j (bs (b :: s :: r)) = _
    have hb : b.toNat = 69 ∨ b.toNat = 101 := by unfold smallN at h1; split at h1 <;> omega
    have hs2 : (((b :: s :: r).getD 1 0).toNat : Int) = 43 ∨ (((b :: s :: r).getD 1 0).toNat : Int) = 45 := by
      show (s.toNat : Int) = 43 ∨ (s.toNat : Int) = 45
      rcases h2 with rfl | rfl
      · exact .inl rfl
      · exact .inr rfl
    rw [rf_more j b (s :: r) hl hm, if_neg (by rw [hs]; simp), if_pos ⟨by rw [List.length_cons, List.length_cons]; omega, by omega, hs2⟩, bs_ext]
    rfl
  | date c' b p _ h1 h2 h3 h4 =>
    obtain ⟨hm, hs, -⟩ := letter_mark b (by rw [h2]; exact .inl h1)
    have hls := let_small _ h1
    have hc : lowB b = c' := UInt8.toNat_inj.1 (by rw [lowB_nat, h2])
    have hrun : H.runN ((b :: (p ++ r)).map lowB) = p.length + 1 := by
      unfold H.runN
      have e : (b :: (p ++ r)).map lowB = (c' :: p.map lowB) ++ r.map lowB := by rw [List.map_cons, List.map_append, hc]; rfl
      rw [e]
      show (((c' :: p.map lowB) ++ r.map lowB).takeWhile (fun b => b == c')).length = _
      rw [run_date c' (c' :: p.map lowB) (r.map lowB) ?_ ?_]
      · simp
      · intro y hy
        rcases List.mem_cons.1 hy with rfl | hy
        · rfl
        · obtain ⟨x, hx, rfl⟩ := List.mem_map.1 hy
          exact UInt8.toNat_inj.1 (by rw [lowB_nat, h3 x hx])
      · intro y r' hy hyc
        cases r with
        | nil => simp at hy
        | cons x r'' =>
          rw [List.map_cons] at hy
          have := (List.cons.inj hy).1
          exact h4 x r'' rfl (by rw [← lowB_nat, this, hyc])
    have hr := rest_letter b (p ++ r) (by rw [h2]; exact h1)
    rw [hrun, hc] at hr
    have e1 : ((b :: p).length : Int) = ((p.length + 1 : Nat) : Int) := by simp
    have e2 : (p.length : Int) + 1 = ((p.length + 1 : Nat) : Int) := by omega
    rw [e1, e2]
    refine rf_none b (p ++ r) hl hm hs (fun e => by omega) ?_ _ hr
    obtain ⟨n1, n2, n3⟩ := no_words b (p ++ r) (by omega) (by omega)
    rintro w k (⟨rfl, _⟩ | ⟨rfl, _⟩ | ⟨rfl, _⟩)
    · exact n1
    · exact n2
    · exact n3
  | plain v _ h1 h2 =>
    obtain ⟨b, q, hbq, hc⟩ := encU_head v h1
    have hst : Still b := by
      rcases hc with ⟨c1, c2, c3⟩ | ⟨c1, c2⟩
      · have : u8 v = b := (u8_of b v c2).symm
        exact (plain_still b (by rw [← this]; exact h2.resolve_left (by omega))).1
      · exact big_still b (by omega)
    have hlb := enc_len_bd v
    have hel := enc_len v
    have hcons : encU v ++ r = b :: (q ++ r) := by rw [hbq]; rfl
    have hF : fL (b :: (q ++ r)) = (v, widthI v, true) := by rw [← hcons, fL_enc v h1]
    have hx : (bs (b :: (q ++ r))).extract 0 (widthI v : Int).toNat = bs (encU v) := by
      rw [← hel, Int.toNat_natCast, bs_ext, ← hcons, List.drop_zero, Nat.sub_zero, List.take_left]
    have hsz : widthI v ≤ ((b :: (q ++ r)).length : Int) := by rw [← hcons, List.length_append]; omega
    rw [hcons] at hl ⊢
    rw [hel]
    refine rf_none b (q ++ r) hl hst.1 hst.2.1 (fun e => absurd e hst.2.2.2.2.2) (still_words hst _) _ (rest_more b (q ++ r) hst.2.2.1 hl _ (fun k p hp => ?_))
    rw [hF, if_pos rfl]
    show (if 0 ≤ widthI v ∧ widthI v ≤ ((b :: (q ++ r)).length : Int) then _ else _) = _
    rw [if_pos ⟨by omega, hsz⟩, if_neg]
    · show some (17, (bs (b :: (q ++ r))).extract 0 (widthI v : Int).toNat, 1, 0, widthI v, 0, 0) = _
      rw [hx]
    · rintro ⟨p0, p1⟩
      rcases hc with ⟨c1, c2, c3⟩ | ⟨c1, c2⟩
      · have hu : u8 v = b := (u8_of b v c2).symm
        have hmem : b ∈ plainsL := by rw [← hu]; exact h2.resolve_left (by omega)
        rw [hp, decide_eq_false_iff_not] at p0
        exact p0 hmem
      · omega
theorem rfirst_bad (l : List UInt8) (n : Nat) (e : Int) (h : Bad l n e) (hl : l.length ≤ 4096) : Ev (fun j => refF j (bs l)) (bad7 n e) := by
  cases h with
  | open_ a z k _ vs h1 h2 => exact rf_ends a z k e h1 _ hl _ (rclosed_end a z (ends_z h1) k e vs h2 hl)
  | inUtf a z k e' vs r h1 h2 h3 h4 => exact rf_ends a z k e' h1 _ hl _ (rclosed_utf a z (ends_z h1) k e' vs r h2 h3 h4 hl)
  | markEnd b k _ h1 => exact rf_mark b k e h1 [] hl _ (rmarked_end b k e)
  | markUtf b k e' r h1 h2 h3 => exact rf_mark b k e' h1 r hl _ (rmarked_utf b r k e' h2 h3 hl)
  | utf _ h1 h2 =>
    obtain ⟨b, q, rfl⟩ : ∃ b q, l = b :: q := by cases l with | nil => exact absurd rfl h1 | cons b q => exact ⟨b, q, rfl⟩
    have hst := big_still b (fL_bad_head b q h2)
    refine rf_none b q hl hst.1 hst.2.1 (fun e => absurd e hst.2.2.2.2.2) (still_words hst _) _ (rest_more b q hst.2.2.1 hl _ (fun k p hp => ?_))
    rw [h2, if_neg (by simp)]; rfl
  | sign b r h1 h2 h3 h4 h5 h6 h7 h8 h9 h10 h11 =>
    refine rf_none b r hl ⟨h2, h3, h4, h5, h6⟩ h7 h11 h10 _ (rest_more b r h8 hl _ (fun k p hp => ?_))
    rw [fL_small b r h1, if_pos rfl]
    show (if (0 : Int) ≤ 1 ∧ (1 : Int) ≤ ((b :: r).length : Int) then _ else _) = _
    rw [if_pos ⟨by omega, by rw [List.length_cons]; omega⟩, if_pos ⟨by rw [hp, decide_eq_false h9], by omega⟩]; rfl
end Go.Proofs.YtpefkehcibdjgaaDoor.T
set_option linter.unusedVariables false
namespace Go.Proofs.YtpefkehcibdjgaaDoor.T
open Go.RowKit Go.Proofs.YtpefkehcibdjgaaDoor.QTcd Go.Proofs.YtpefkehcibdjgaaDoorW.PrintLast Go.Proofs.YtpefkehcibdjgaaDoorW.PrintMore Go.Proofs.YtpefkehcibdjgaaDoor.H Go.Proofs.YtpefkehcibdjgaaDoor.R Go.Lib
open Go.Proofs.YtpefkehcibdjgaaDoorW.PrintWords hiding encs
def cv (x : S31) : S55 := ⟨x.f0, x.f1, x.f2, x.f3⟩
theorem rall_loop (l : List UInt8) (hl : l.length ≤ 4096) {p : Nat} {r : List UInt8} {ts : List S31} (h : Code p r ts) : ∀ acc : List S55, l.drop p = r → p ≤ l.length → acc.length ≤ p → Ev (fun k => numeraryref11_All.l0 k (bs l) acc p) (acc ++ ts.map cv, (l.length : Int), 0) := by
  induction h with
  | nil p =>
    intro acc hd hp ha
    have : p = l.length := by
      have := congrArg List.length hd
      rw [List.length_drop] at this
      simp at this; omega
    refine Ev.step (f := fun _ => some (acc, (l.length : Int), 0)) (fun k => ?_) ?_
    · show numeraryref11_All.l0 (k + 1) (bs l) acc p = _
      rw [numeraryref11_All.l0, if_neg (by rw [bs_size]; omega), this]
    · rw [List.map_nil, List.append_nil]; exact Ev.now _
  | cons p pre r k t c ts ht hc ih =>
    intro acc hd hp ha
    have hpos : 0 < pre.length := List.length_pos_iff.2 ht.ne
    have hlen : l.length - p = pre.length + r.length := by
      have := congrArg List.length hd
      rw [List.length_drop, List.length_append] at this; exact this
    have hd2 : l.drop (p + pre.length) = r := by rw [← List.drop_drop, hd, List.drop_left]
    have hE := rfirst_ok pre r k t c ht (by rw [List.length_append]; omega)
    have ih2 := ih (acc ++ [⟨k, bs t, c, p⟩]) hd2 (by omega) (by rw [List.length_append, List.length_singleton]; omega)
    rw [List.append_assoc] at ih2
    refine Ev.step (f := fun j => (numeraryref11_First.f j (bs (pre ++ r))).bind fun x => (if x.2.2.2.2.2.2 = 0 then (if acc.length < 3518437208883 then (numeraryref11_All.l0 j (bs l) (acc ++ [(⟨x.1, x.2.1, x.2.2.1, (p : Int)⟩ : S55)]) (wrap64 ((p : Int) + x.2.2.2.2.1))) else (none)) else (some (([] : List (S55)), wrap64 ((p : Int) + x.2.2.2.2.2.1), x.2.2.2.2.2.2)))) (fun j => ?_) ?_
    · show numeraryref11_All.l0 (j + 1) (bs l) acc p = _
      rw [numeraryref11_All.l0, if_pos (by rw [bs_size]; omega), if_pos (by omega), if_pos (by rw [bs_size]; omega), Int.toNat_natCast, bs_from, hd]
    · refine Ev.bind hE (Ev.congr (fun j => ?_) ih2)
      rw [if_pos rfl, if_pos (by omega)]
      show numeraryref11_All.l0 j (bs l) (acc ++ [⟨k, bs t, c, (p : Int)⟩]) (wrap64 ((p : Int) + (pre.length : Int))) = _
      rw [w64q _ (by omega) (by omega)]; rfl
theorem rbad_loop (l : List UInt8) (hl : l.length ≤ 4096) {p : Nat} {r : List UInt8} {a : Nat} {e : Int} (h : CBad p r a e) : ∀ acc : List S55, l.drop p = r → p ≤ l.length → acc.length ≤ p → Ev (fun k => numeraryref11_All.l0 k (bs l) acc p) ([], (a : Int), e) := by
  induction h with
  | here p r n e hb =>
    intro acc hd hp ha
    have hlen : l.length - p = r.length := by
      have := congrArg List.length hd
      rw [List.length_drop] at this; exact this
    have hpos : 0 < r.length := List.length_pos_iff.2 hb.ne.1
    have hn : n ≤ 4097 := by
      cases hb with
      | open_ a z k _ vs h1 h2 => simp at hlen; omega
      | inUtf a z k e' vs r' h1 h2 h3 h4 => simp at hlen; omega
      | markEnd b k _ h1 => omega
      | markUtf b k e' r' h1 h2 h3 => omega
      | utf _ h1 h2 => omega
      | sign b r' h1 h2 h3 h4 h5 h6 h7 h8 h9 h10 h11 => omega
    have hE := rfirst_bad r n e hb (by omega)
    refine Ev.step (f := fun j => (numeraryref11_First.f j (bs r)).bind fun x => (if x.2.2.2.2.2.2 = 0 then (if acc.length < 3518437208883 then (numeraryref11_All.l0 j (bs l) (acc ++ [(⟨x.1, x.2.1, x.2.2.1, (p : Int)⟩ : S55)]) (wrap64 ((p : Int) + x.2.2.2.2.1))) else (none)) else (some (([] : List (S55)), wrap64 ((p : Int) + x.2.2.2.2.2.1), x.2.2.2.2.2.2)))) (fun j => ?_) ?_
    · show numeraryref11_All.l0 (j + 1) (bs l) acc p = _
      rw [numeraryref11_All.l0, if_pos (by rw [bs_size]; omega), if_pos (by omega), if_pos (by rw [bs_size]; omega), Int.toNat_natCast, bs_from, hd]
    · refine Ev.bind hE (Ev.congr (f := fun _ => some ([], ((p + n : Nat) : Int), e)) (fun j => ?_) (Ev.now _))
      have he := hb.ne.2
      unfold bad7
      rw [if_neg he]
      show some (([] : List S55), wrap64 ((p : Int) + (n : Int)), e) = _
      rw [w64q _ (by omega) (by omega)]; rfl
  | cons p pre r k t c a e ht hc ih =>
    intro acc hd hp ha
    have hpos : 0 < pre.length := List.length_pos_iff.2 ht.ne
    have hlen : l.length - p = pre.length + r.length := by
      have := congrArg List.length hd
      rw [List.length_drop, List.length_append] at this; exact this
    have hd2 : l.drop (p + pre.length) = r := by rw [← List.drop_drop, hd, List.drop_left]
    have hE := rfirst_ok pre r k t c ht (by rw [List.length_append]; omega)
    have ih2 := ih (acc ++ [⟨k, bs t, c, p⟩]) hd2 (by omega) (by rw [List.length_append, List.length_singleton]; omega)
    refine Ev.step (f := fun j => (numeraryref11_First.f j (bs (pre ++ r))).bind fun x => (if x.2.2.2.2.2.2 = 0 then (if acc.length < 3518437208883 then (numeraryref11_All.l0 j (bs l) (acc ++ [(⟨x.1, x.2.1, x.2.2.1, (p : Int)⟩ : S55)]) (wrap64 ((p : Int) + x.2.2.2.2.1))) else (none)) else (some (([] : List (S55)), wrap64 ((p : Int) + x.2.2.2.2.2.1), x.2.2.2.2.2.2)))) (fun j => ?_) ?_
    · show numeraryref11_All.l0 (j + 1) (bs l) acc p = _
      rw [numeraryref11_All.l0, if_pos (by rw [bs_size]; omega), if_pos (by omega), if_pos (by rw [bs_size]; omega), Int.toNat_natCast, bs_from, hd]
    · refine Ev.bind hE (Ev.congr (fun j => ?_) ih2)
      rw [if_pos rfl, if_pos (by omega)]
      show numeraryref11_All.l0 j (bs l) (acc ++ [⟨k, bs t, c, (p : Int)⟩]) (wrap64 ((p : Int) + (pre.length : Int))) = _
      rw [w64q _ (by omega) (by omega)]; rfl
theorem rall_code (l : List UInt8) (hl : l.length ≤ 4096) (ts : List S31) (h : Code 0 l ts) : Ev (fun k => numeraryref11_All.f k (bs l)) (ts.map cv, (l.length : Int), 0) := by
  refine Ev.congr (fun k => ?_) (rall_loop l hl h [] (by rw [List.drop_zero]) (Nat.zero_le _) (Nat.le_refl _))
  unfold numeraryref11_All.f
  rw [if_neg (by rw [bs_size]; omega)]; rfl
theorem rall_bad (l : List UInt8) (hl : l.length ≤ 4096) (a : Nat) (e : Int) (h : CBad 0 l a e) : Ev (fun k => numeraryref11_All.f k (bs l)) ([], (a : Int), e) := by
  refine Ev.congr (fun k => ?_) (rbad_loop l hl h [] (by rw [List.drop_zero]) (Nat.zero_le _) (Nat.le_refl _))
  unfold numeraryref11_All.f
  rw [if_neg (by rw [bs_size]; omega)]; rfl
end Go.Proofs.YtpefkehcibdjgaaDoor.T
set_option linter.unusedVariables false
namespace Go.Proofs.YtpefkehcibdjgaaDoor.T
open Go.RowKit Go.Proofs.YtpefkehcibdjgaaDoor.QTcd Go.Proofs.YtpefkehcibdjgaaDoorW.PrintLast Go.Proofs.YtpefkehcibdjgaaDoorW.PrintMore Go.Proofs.YtpefkehcibdjgaaDoor.H Go.Proofs.YtpefkehcibdjgaaDoor.R Go.Lib
open Go.Proofs.YtpefkehcibdjgaaDoorW.PrintWords hiding encs
theorem bs_of (s : ByteArray) : bs s.data.toList = s := by unfold bs; simp
theorem toList_inj {a b : ByteArray} (h : a.toList = b.toList) : a = b := by
  rw [Lib.toList_data, Lib.toList_data] at h
  rw [← bs_of a, h, bs_of]
/-- what the end of Token.Code hands back: nothing, or a text whose one token this is -/
theorem j0_any (s : ByteArray) (K : Int) (t : ByteArray) (c a : Int) :
    ∃ r, Ev (fun j => token_Token_Code.j0 j s K t c a) r ∧ (r.toList = [] ∨ (s.size ≤ 4096 ∧ r = s ∧ Code 0 s.data.toList [⟨K, t, c, 0⟩])) := by
  have step : ∀ r' r, Ev (fun k => token_All.f k s) r' → (if r'.2.2 = 0 then (if (r'.1.length : Int) = 1 then (if 0 < (r'.1.length : Int) then (if (!(((rd_T31 r'.1 0).f0) == K) || (!((((rd_T31 r'.1 0).f1).toList) == t.toList) || (!(((rd_T31 r'.1 0).f2) == c) || (!(((rd_T31 r'.1 0).f3) == 0))))) = true then (some (⟨#[]⟩ : ByteArray)) else (some s)) else (none)) else (some (⟨#[]⟩ : ByteArray))) else (some (⟨#[]⟩ : ByteArray))) = some r → Ev (fun j => token_Token_Code.j0 j s K t c a) r := by
    intro r' r h hr
    refine Ev.step (f := fun k => (token_All.f k s).bind fun bt197 => (if bt197.2.2 = 0 then (if (bt197.1.length : Int) = 1 then (if 0 < (bt197.1.length : Int) then (if (!(((rd_T31 bt197.1 0).f0) == K) || (!((((rd_T31 bt197.1 0).f1).toList) == t.toList) || (!(((rd_T31 bt197.1 0).f2) == c) || (!(((rd_T31 bt197.1 0).f3) == 0))))) = true then (some (⟨#[]⟩ : ByteArray)) else (some s)) else (none)) else (some (⟨#[]⟩ : ByteArray))) else (some (⟨#[]⟩ : ByteArray)))) (fun k => ?_) ?_
    · show token_Token_Code.j0 (k + 1) s K t c a = _
      rw [token_Token_Code.j0]
    · exact Ev.bind h (Ev.congr (f := fun _ => some r) (fun k => hr) (Ev.now _))
  have hz : s.data.toList.length = s.size := (Lib.size_eq s).symm
  have he : (⟨#[]⟩ : ByteArray).toList = [] := by rw [Lib.toList_data]
  by_cases hl : s.size ≤ 4096
  · rcases code_total s.data.toList.length s.data.toList 0 (Nat.le_refl _) with ⟨ts, h⟩ | ⟨b, e, h⟩
    · have hA := all_code _ (by omega) ts h
      rw [bs_of] at hA
      by_cases h1 : ts.length = 1
      · obtain ⟨x, rfl⟩ : ∃ x, ts = [x] := by
          match ts, h1 with
          | [x], _ => exact ⟨x, rfl⟩
        by_cases hx : x = ⟨K, t, c, 0⟩
        · subst hx
          refine ⟨s, step _ _ hA ?_, .inr ⟨hl, rfl, h⟩⟩
          rw [if_pos rfl, if_pos (by rfl), if_pos (by show (0 : Int) < ((1 : Nat) : Int); omega), if_neg]
          simp [rd_T31]
        · refine ⟨⟨#[]⟩, step _ _ hA ?_, .inl he⟩
          rw [if_pos rfl, if_pos (by rfl), if_pos (by show (0 : Int) < ((1 : Nat) : Int); omega), if_pos]
          show (!(x.f0 == K) || (!(x.f1.toList == t.toList) || (!(x.f2 == c) || !(x.f3 == 0)))) = true
          by_cases q0 : x.f0 = K
          · by_cases q1 : x.f1.toList = t.toList
            · by_cases q2 : x.f2 = c
              · by_cases q3 : x.f3 = 0
                · exfalso
                  apply hx
                  cases x
                  simp only at q0 q1 q2 q3
                  rw [q0, toList_inj q1, q2, q3]
                · simp [q3]
              · simp [q2]
            · simp [q1]
          · simp [q0]
      · refine ⟨⟨#[]⟩, step _ _ hA ?_, .inl he⟩
        rw [if_pos rfl, if_neg (by show ¬ (ts.length : Int) = 1; omega)]
    · have hA := all_bad _ (by omega) b e h
      rw [bs_of] at hA
      refine ⟨⟨#[]⟩, step _ _ hA ?_, .inl he⟩
      rw [if_neg h.ne]
  · have hA : Ev (fun k => token_All.f k s) (([] : List S31), 0, 14) := Ev.congr (f := fun _ => some (([] : List S31), 0, 14)) (fun k => by unfold token_All.f; rw [if_pos (by omega)]) (Ev.now _)
    refine ⟨⟨#[]⟩, step _ _ hA ?_, .inl he⟩
    rw [if_neg (by simp)]
theorem code_any (K : Int) (t : ByteArray) (c a : Int) (ht : t.size ≤ 40) : ∃ s, ∀ j, token_Token_Code.f j K t c a = token_Token_Code.j0 j s K t c a := by
  unfold token_Token_Code.f
  by_cases h1 : K = 1
  · exact ⟨_, fun j => by rw [if_pos h1, if_pos (by omega), if_pos (by omega)]⟩
  by_cases h2 : K = 2
  · exact ⟨_, fun j => by rw [if_neg h1, if_pos h2, if_pos (by omega)]⟩
  by_cases h3 : K = 3
  · exact ⟨_, fun j => by rw [if_neg h1, if_neg h2, if_pos h3, if_pos (by omega)]⟩
  by_cases h4 : K = 4
  · exact ⟨_, fun j => by rw [if_neg h1, if_neg h2, if_neg h3, if_pos h4, if_pos (by omega)]⟩
  by_cases h5 : K = 5
  · exact ⟨_, fun j => by rw [if_neg h1, if_neg h2, if_neg h3, if_neg h4, if_pos h5, if_pos (by omega), if_pos (by omega)]⟩
  by_cases h6 : K = 13
  · exact ⟨_, fun j => by rw [if_neg h1, if_neg h2, if_neg h3, if_neg h4, if_neg h5, if_pos h6, if_pos (by omega)]⟩
  by_cases h7 : K = 14
  · have hR : strings_Repeat.f t (mx 0 (mn c 4096)) = some (repeatP t (mx 0 (mn c 4096)).toNat) := by
      unfold strings_Repeat.f
      rw [if_pos]
      have : 0 ≤ mx 0 (mn c 4096) ∧ mx 0 (mn c 4096) ≤ 4096 := by unfold mx mn; split <;> split <;> omega
      omega
    exact ⟨_, fun j => by rw [if_neg h1, if_neg h2, if_neg h3, if_neg h4, if_neg h5, if_neg h6, if_pos h7, hR, Option.bind_some]⟩
  · exact ⟨t, fun j => by rw [if_neg h1, if_neg h2, if_neg h3, if_neg h4, if_neg h5, if_neg h6, if_neg h7]⟩
theorem codes_ev (K c a : Int) (t : ByteArray) (ht : t.size ≤ 40) :
    Ev (fun k => (token_Token_Code.f k K t c a).bind fun t236 => (if t236.toList = ([] : List UInt8) then ((numerarylaw11_wakes.f k).bind fun t237 => (some t237)) else ((numeraryref11_All.f k t236).bind fun bt238 => ((numerarylaw11_wakes.f k).bind fun t243 => (if t243 = true then (if bt238.2.2 = 0 then (if (bt238.1.length : Int) = 1 then (if 0 < (bt238.1.length : Int) then (some (((rd_T55 bt238.1 0).f0) == K && ((((rd_T55 bt238.1 0).f1).toList) == t.toList && (((rd_T55 bt238.1 0).f2) == c && (((rd_T55 bt238.1 0).f3) == 0))))) else (none)) else (some false)) else (some false)) else (some false)))))) true := by
  obtain ⟨s, hs⟩ := code_any K t c a ht
  obtain ⟨r, hr, hcase⟩ := j0_any s K t c a
  refine Ev.bind (Ev.congr hs hr) ?_
  by_cases h0 : r.toList = []
  · refine Ev.congr (f := fun k => (numerarylaw11_wakes.f k).bind fun t237 => (some t237)) (fun k => by rw [if_pos h0]) ?_
    exact Ev.bind wakes_ev (Ev.now true)
  · obtain ⟨hl, rfl, hc⟩ := hcase.resolve_left h0
    have hz : r.data.toList.length = r.size := (Lib.size_eq r).symm
    have hA := rall_code _ (by omega) _ hc
    rw [bs_of] at hA
    refine Ev.congr (f := fun k => (numeraryref11_All.f k r).bind fun bt238 => ((numerarylaw11_wakes.f k).bind fun t243 => (if t243 = true then (if bt238.2.2 = 0 then (if (bt238.1.length : Int) = 1 then (if 0 < (bt238.1.length : Int) then (some (((rd_T55 bt238.1 0).f0) == K && ((((rd_T55 bt238.1 0).f1).toList) == t.toList && (((rd_T55 bt238.1 0).f2) == c && (((rd_T55 bt238.1 0).f3) == 0))))) else (none)) else (some false)) else (some false)) else (some false)))) (fun k => by rw [if_neg h0]) ?_
    refine Ev.bind hA (Ev.bind (f := fun k x => _) wakes_ev (Ev.congr (f := fun _ => some true) (fun k => ?_) (Ev.now true)))
    rw [if_pos rfl, if_pos rfl, if_pos (by rfl), if_pos (by show (0 : Int) < ((1 : Nat) : Int); omega)]
    simp [rd_T55, cv]
theorem codes_pure (a0 : Int) (a1 : ByteArray) (a2 a3 : Int) : ∃ k, numerarylaw11_TokenCodes.f k a0 a1 a2 a3 = some true := by
  refine Ev.rounds (g := fun k => numerarylaw11_TokenCodes.f k a0 a1 a2 a3) ?_
  have hm : 0 ≤ mn (a1.size : Int) 40 ∧ mn (a1.size : Int) 40 ≤ (a1.size : Int) ∧ mn (a1.size : Int) 40 ≤ 40 := by unfold mn; split <;> omega
  have ht : (a1.extract 0 ((mn (a1.size : Int) 40) : Int).toNat).size ≤ 40 := by rw [ByteArray.size_extract]; omega
  refine Ev.congr (fun k => ?_) (codes_ev (wrap64 (Int.tmod a0 19)) a2 a3 _ ht)
  unfold numerarylaw11_TokenCodes.f
  rw [if_pos hm.1, if_pos hm.2.1]
end Go.Proofs.YtpefkehcibdjgaaDoor.T
