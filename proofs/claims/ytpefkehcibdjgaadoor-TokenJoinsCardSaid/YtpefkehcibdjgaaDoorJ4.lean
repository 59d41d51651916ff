/- Proved here: the printed functions of package token tell a token, or where a code is wrong, as the plain relations do. -/
import Derived.Test.YtpefkehcibdjgaaDoorQTjnx3
import Derived.Test.YtpefkehcibdjgaaDoorT3
set_option linter.unusedVariables false
namespace Go.Proofs.YtpefkehcibdjgaaDoor.T
open Go.RowKit Go.Proofs.YtpefkehcibdjgaaDoor.QTjn Go.Proofs.YtpefkehcibdjgaaDoorW.PrintLast Go.Proofs.YtpefkehcibdjgaaDoorW.PrintMore Go.Proofs.YtpefkehcibdjgaaDoor.H Go.Proofs.YtpefkehcibdjgaaDoor.R Go.Lib
open Go.Proofs.YtpefkehcibdjgaaDoorW.PrintWords hiding encs
theorem w64q (n : Int) (h1 : -9223372036854775808 ≤ n) (h2 : n ≤ 9223372036854775807) : wrap64 n = n := by unfold wrap64; omega
theorem bs_size (l : List UInt8) : (bs l).size = l.length := List.size_toArray
theorem bs_ext (l : List UInt8) (i j : Nat) : (bs l).extract i j = bs ((l.drop i).take (j - i)) := by
  apply ByteArray.ext
  apply Array.toList_inj.1
  rw [Lib.extract_data]
  rfl
theorem bs_from (l : List UInt8) (i : Nat) : (bs l).extract i (bs l).size = bs (l.drop i) := by
  rw [bs_ext, bs_size, List.take_of_length_le (by rw [List.length_drop]; omega)]
theorem bt_bs (l : List UInt8) (j : Nat) : bt (bs l) (j : Nat) = ((l.getD j 0).toNat : Int) := bt_list l j
theorem bt_bs0 (l : List UInt8) : bt (bs l) 0 = ((l.getD 0 0).toNat : Int) := bt_list l 0
theorem bt_bs1 (l : List UInt8) : bt (bs l) 1 = ((l.getD 1 0).toNat : Int) := bt_list l 1
theorem First_bs (l : List UInt8) (h : l.length ≤ 4096) : runes_First.f (bs l) = some (fL l) := by
  unfold runes_First.f big
  rw [if_pos (by rw [bs_size]; omega)]; rfl
theorem getD_drop (l : List UInt8) (p : Nat) : l.getD p 0 = (l.drop p).getD 0 0 := by simp [List.getD]
abbrev R7 := Int × ByteArray × Int × Int × Int × Int × Int
def bad7 (w : Int) (e : Int) : R7 := (0, (⟨#[]⟩ : ByteArray), 0, 0, 0, w, e)
/-- up to a last byte: a sign more -/
theorem closed_loop (l : List UInt8) (hl : l.length ≤ 4096) (z : UInt8) (hz : z.toNat < 128) (kd wrong : Int) (r : List UInt8) (res : R7)
    : ∀ (vs : List Int) (p : Nat), l.drop p = encs vs ++ r → Sgs z.toNat vs → (l.drop (p + (encs vs).length) = r → Ev (fun k => token_closed.l0 k (bs l) kd z.toNat wrong ((p + (encs vs).length : Nat) : Int)) res) → Ev (fun k => token_closed.l0 k (bs l) kd z.toNat wrong p) res
  | [], p, hd, _, hb => hb hd
  | v :: vs, p, hd, hs, hb => by
    obtain ⟨hv, hvz⟩ := hs v (by simp)
    have hlb := enc_len_bd v
    have hel := enc_len v
    have hd2 : l.drop p = encU v ++ (encs vs ++ r) := by rw [hd]; show (encU v ++ encs vs) ++ r = _; rw [List.append_assoc]
    have hsz : l.length - p = (encU v).length + (encs vs ++ r).length := by
      have := congrArg List.length hd2
      rw [List.length_drop, List.length_append] at this; exact this
    have hd3 : l.drop (p + (encU v).length) = encs vs ++ r := by rw [← List.drop_drop, hd2, List.drop_left]
    obtain ⟨b, t, hbt, hc⟩ := encU_head v hv
    have hg : l.getD p 0 = b := by rw [getD_drop, hd2, hbt]; rfl
    have hne : ((b.toNat : Int) != (z.toNat : Int)) = true := by
      rw [bne_iff_ne]
      rcases hc with ⟨_, h2, _⟩ | ⟨_, h2⟩ <;> omega
    have e2 : p + (encs (v :: vs)).length = p + (encU v).length + (encs vs).length := by
      show p + (encU v ++ encs vs).length = _
      rw [List.length_append]; omega
    rw [e2] at hb
    have ih := closed_loop l hl z hz kd wrong r res vs (p + (encU v).length) hd3 (fun x hx => hs x (by simp [hx])) hb
    refine Ev.step (f := fun k => token_closed.j1 k (bs l) kd z.toNat wrong p true) (fun k => ?_) ?_
    · show token_closed.l0 (k + 1) (bs l) kd z.toNat wrong p = _
      rw [token_closed.l0, if_pos (by rw [bs_size]; omega), if_pos (by omega), bt_bs, hg, hne]
    · refine Ev.step (fun k => ?_) ih
      show token_closed.j1 (k + 1) (bs l) kd z.toNat wrong p true = _
      rw [token_closed.j1, if_pos rfl, if_pos (by omega), if_pos (by rw [bs_size]; omega)]
      have hF : runes_First.f ((bs l).extract (p : Int).toNat (bs l).size) = some (v, widthI v, true) := by
        rw [Int.toNat_natCast, bs_from, First_bs _ (by rw [List.length_drop]; omega), hd2, fL_enc v hv]
      rw [hF, Option.bind_some, if_pos rfl]
      show token_closed.l0 k (bs l) kd z.toNat wrong (wrap64 ((p : Int) + widthI v)) = _
      rw [← hel, w64q _ (by omega) (by omega)]; rfl
theorem closed_good (a z : UInt8) (hz : z.toNat < 128) (kd wrong : Int) (vs : List Int) (r : List UInt8) (hs : Sgs z.toNat vs) (hl : (a :: (encs vs ++ [z]) ++ r).length ≤ 4096) :
    Ev (fun k => token_closed.f k (bs (a :: (encs vs ++ [z]) ++ r)) kd z.toNat wrong) (kd, bs (encs vs), 0, 0, ((encs vs).length : Int) + 2, 0, 0) := by
  obtain ⟨l, hle⟩ : ∃ l, a :: (encs vs ++ [z]) ++ r = l := ⟨_, rfl⟩
  rw [hle] at hl ⊢
  have hd1 : l.drop 1 = encs vs ++ (z :: r) := by rw [← hle]; simp
  have hlen : l.length = 1 + (encs vs).length + 1 + r.length := by rw [← hle]; simp; omega
  refine closed_loop l hl z hz kd wrong (z :: r) _ vs 1 hd1 hs (fun hd => ?_)
  have hg : l.getD (1 + (encs vs).length) 0 = z := by rw [getD_drop, hd]; rfl
  refine Ev.step (f := fun k => token_closed.j1 k (bs l) kd z.toNat wrong ((1 + (encs vs).length : Nat) : Int) false) (fun k => ?_) ?_
  · show token_closed.l0 (k + 1) (bs l) kd z.toNat wrong _ = _
    rw [token_closed.l0, if_pos (by rw [bs_size]; omega), if_pos (by omega), bt_bs, hg]
    congr 1; simp
  · refine Ev.step (f := fun _ => some (kd, bs (encs vs), 0, 0, ((encs vs).length : Int) + 2, 0, 0)) (fun k => ?_) (Ev.now _)
    show token_closed.j1 (k + 1) (bs l) kd z.toNat wrong _ false = _
    rw [token_closed.j1, if_neg (by simp), if_neg (by rw [bs_size]; omega), if_pos (by omega), if_pos (by rw [bs_size]; omega), Int.toNat_natCast, bs_ext, hd1, w64q _ (by omega) (by omega)]
    have e1 : 1 + (encs vs).length - 1 = (encs vs).length := by omega
    have e2 : ((1 + (encs vs).length : Nat) : Int) + 1 = ((encs vs).length : Int) + 2 := by omega
    rw [e1, List.take_left, e2]
theorem closed_end (a z : UInt8) (hz : z.toNat < 128) (kd wrong : Int) (vs : List Int) (hs : Sgs z.toNat vs) (hl : (a :: encs vs).length ≤ 4096) :
    Ev (fun k => token_closed.f k (bs (a :: encs vs)) kd z.toNat wrong) (bad7 (1 + (encs vs).length : Nat) wrong) := by
  obtain ⟨l, hle⟩ : ∃ l, a :: encs vs = l := ⟨_, rfl⟩
  rw [hle] at hl ⊢
  have hd1 : l.drop 1 = encs vs ++ [] := by rw [← hle]; simp
  have hlen : l.length = 1 + (encs vs).length := by rw [← hle]; simp; omega
  refine closed_loop l hl z hz kd wrong [] _ vs 1 hd1 hs (fun hd => ?_)
  refine Ev.step (f := fun k => token_closed.j1 k (bs l) kd z.toNat wrong ((1 + (encs vs).length : Nat) : Int) false) (fun k => ?_) ?_
  · show token_closed.l0 (k + 1) (bs l) kd z.toNat wrong _ = _
    rw [token_closed.l0, if_neg (by rw [bs_size]; omega)]
  · refine Ev.step (f := fun _ => some (bad7 (1 + (encs vs).length : Nat) wrong)) (fun k => ?_) (Ev.now _)
    show token_closed.j1 (k + 1) (bs l) kd z.toNat wrong _ false = _
    rw [token_closed.j1, if_neg (by simp), if_pos (by rw [bs_size]; omega)]; rfl
set_option maxRecDepth 100000 in
theorem closed_utf (a z : UInt8) (hz : z.toNat < 128) (kd wrong : Int) (vs : List Int) (r : List UInt8) (hs : Sgs z.toNat vs) (hr : r ≠ []) (hf : fL r = (0, 0, false)) (hl : (a :: (encs vs ++ r)).length ≤ 4096) :
    Ev (fun k => token_closed.f k (bs (a :: (encs vs ++ r))) kd z.toNat wrong) (bad7 (1 + (encs vs).length : Nat) 4) := by
  obtain ⟨l, hle⟩ : ∃ l, a :: (encs vs ++ r) = l := ⟨_, rfl⟩
  rw [hle] at hl ⊢
  have hd1 : l.drop 1 = encs vs ++ r := by rw [← hle]; simp
  have hpos : 0 < r.length := List.length_pos_iff.2 hr
  have hlen : l.length = 1 + (encs vs).length + r.length := by rw [← hle]; simp; omega
  refine closed_loop l hl z hz kd wrong r _ vs 1 hd1 hs (fun hd => ?_)
  obtain ⟨b, q, rfl⟩ : ∃ b q, r = b :: q := by cases r with | nil => exact absurd rfl hr | cons b q => exact ⟨b, q, rfl⟩
  have hb := fL_bad_head b q hf
  have hg : l.getD (1 + (encs vs).length) 0 = b := by rw [getD_drop, hd]; rfl
  refine Ev.step (f := fun k => token_closed.j1 k (bs l) kd z.toNat wrong ((1 + (encs vs).length : Nat) : Int) true) (fun k => ?_) ?_
  · show token_closed.l0 (k + 1) (bs l) kd z.toNat wrong _ = _
    rw [token_closed.l0, if_pos (by rw [bs_size]; omega), if_pos (by omega), bt_bs, hg]
    congr 1; rw [bne_iff_ne]; omega
  · refine Ev.step (f := fun _ => some (bad7 (1 + (encs vs).length : Nat) 4)) (fun k => ?_) (Ev.now _)
    show token_closed.j1 (k + 1) (bs l) kd z.toNat wrong _ true = _
    have hF : runes_First.f ((bs l).extract ((1 + (encs vs).length : Nat) : Int).toNat (bs l).size) = some (0, 0, false) := by
      rw [Int.toNat_natCast, bs_from, First_bs _ (by rw [List.length_drop]; omega), hd, hf]
    unfold bad7
    rw [token_closed.j1, if_pos rfl, if_pos (by omega), if_pos (by rw [bs_size]; omega), hF, Option.bind_some, if_neg (by simp)]
theorem marked_good (b : UInt8) (v : Int) (hv : isB v = true) (r : List UInt8) (k e : Int) (hl : (b :: encU v ++ r).length ≤ 4096) :
    token_marked.f (bs (b :: encU v ++ r)) k e = some (k, bs (encU v), 0, 0, ((encU v).length : Int) + 1, 0, 0) := by
  have hlb := enc_len_bd v
  have hel := enc_len v
  obtain ⟨l, hle⟩ : ∃ l, b :: encU v ++ r = l := ⟨_, rfl⟩
  rw [hle] at hl ⊢
  have hd1 : l.drop 1 = encU v ++ r := by rw [← hle]; simp
  have hlen : l.length = 1 + (encU v).length + r.length := by rw [← hle]; simp; omega
  unfold token_marked.f
  have hF : runes_First.f ((bs l).extract 1 (bs l).size) = some (v, widthI v, true) := by
    rw [bs_from, First_bs _ (by rw [List.length_drop]; omega), hd1, fL_enc v hv]
  rw [if_neg (by rw [bs_size]; omega), if_pos (by rw [bs_size]; omega), hF, Option.bind_some, if_pos rfl]
  show (if 1 ≤ wrap64 (1 + widthI v) then _ else _) = _
  rw [← hel, w64q _ (by omega) (by omega), if_pos (by omega), if_pos (by rw [bs_size]; omega)]
  have e1 : (1 + ((encU v).length : Int)).toNat = 1 + (encU v).length := by omega
  rw [e1, bs_ext, hd1]
  have e2 : 1 + (encU v).length - 1 = (encU v).length := by omega
  rw [e2, List.take_left, Int.add_comm]
theorem marked_end (b : UInt8) (k e : Int) : token_marked.f (bs [b]) k e = some (bad7 1 e) := by
  unfold token_marked.f
  rw [if_pos (by rfl)]; rfl
theorem marked_utf (b : UInt8) (r : List UInt8) (k e : Int) (hr : r ≠ []) (hf : fL r = (0, 0, false)) (hl : (b :: r).length ≤ 4096) : token_marked.f (bs (b :: r)) k e = some (bad7 1 4) := by
  have hpos : 0 < r.length := List.length_pos_iff.2 hr
  unfold token_marked.f
  have hF : runes_First.f ((bs (b :: r)).extract 1 (bs (b :: r)).size) = some (0, 0, false) := by
    rw [bs_from, First_bs _ (by rw [List.length_drop]; omega)]
    show some (fL r) = _
    rw [hf]
  rw [if_neg (by rw [bs_size, List.length_cons]; omega), if_pos (by rw [bs_size, List.length_cons]; omega), hF, Option.bind_some, if_neg (by simp)]; rfl
end Go.Proofs.YtpefkehcibdjgaaDoor.T
