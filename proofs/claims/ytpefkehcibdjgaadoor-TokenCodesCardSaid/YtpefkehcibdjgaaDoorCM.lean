/- Proved here: the printed functions of package token tell a token, or where a code is wrong, as the plain relations do. Proved here: token.first tells a token, or where a code is wrong, as the plain relations do. Proved here: token.first at a token, and where there is none. Proved here: token.first tells each token, and where there is none; each text begins with a token, or with none. -/
import Derived.Test.YtpefkehcibdjgaaDoorQTcdx4
import Derived.Test.YtpefkehcibdjgaaDoorT3
set_option linter.unusedVariables false
namespace Go.Proofs.YtpefkehcibdjgaaDoor.T
open Go.RowKit Go.Proofs.YtpefkehcibdjgaaDoor.QTcd Go.Proofs.YtpefkehcibdjgaaDoorW.PrintLast Go.Proofs.YtpefkehcibdjgaaDoorW.PrintMore Go.Proofs.YtpefkehcibdjgaaDoor.H Go.Proofs.YtpefkehcibdjgaaDoor.R Go.Lib
open Go.Proofs.YtpefkehcibdjgaaDoorW.PrintWords hiding encs
theorem w64q (n : Int) (h1 : -9223372036854775808 ≤ n) (h2 : n ≤ 9223372036854775807) : wrap64 n = n := by unfold wrap64; omega
theorem bs_size (l : List UInt8) : (bs l).size = l.length := List.size_toArray
theorem bs_ext (l : List UInt8) (i j : Nat) : (bs l).extract i j = bs ((l.drop i).take (j - i)) := by
  apply ByteArray.ext
  apply Array.toList_inj.1
  rw [Lib.extract_data]
  rfl
theorem bs_from (l : List UInt8) (i : Nat) : (bs l).extract i (bs l).size = bs (l.drop i) := by
  rw [bs_ext, bs_size, List.take_of_length_le (by rw [List.length_drop]; omega)]
theorem bt_bs (l : List UInt8) (j : Nat) : bt (bs l) (j : Nat) = ((l.getD j 0).toNat : Int) := bt_list l j
theorem bt_bs0 (l : List UInt8) : bt (bs l) 0 = ((l.getD 0 0).toNat : Int) := bt_list l 0
theorem bt_bs1 (l : List UInt8) : bt (bs l) 1 = ((l.getD 1 0).toNat : Int) := bt_list l 1
theorem First_bs (l : List UInt8) (h : l.length ≤ 4096) : runes_First.f (bs l) = some (fL l) := by
  unfold runes_First.f big
  rw [if_pos (by rw [bs_size]; omega)]; rfl
theorem getD_drop (l : List UInt8) (p : Nat) : l.getD p 0 = (l.drop p).getD 0 0 := by simp [List.getD]
abbrev R7 := Int × ByteArray × Int × Int × Int × Int × Int
def bad7 (w : Int) (e : Int) : R7 := (0, (⟨#[]⟩ : ByteArray), 0, 0, 0, w, e)
/-- up to a last byte: a sign more -/
theorem closed_loop (l : List UInt8) (hl : l.length ≤ 4096) (z : UInt8) (hz : z.toNat < 128) (kd wrong : Int) (r : List UInt8) (res : R7)
    : ∀ (vs : List Int) (p : Nat), l.drop p = encs vs ++ r → Sgs z.toNat vs → (l.drop (p + (encs vs).length) = r → Ev (fun k => token_closed.l0 k (bs l) kd z.toNat wrong ((p + (encs vs).length : Nat) : Int)) res) → Ev (fun k => token_closed.l0 k (bs l) kd z.toNat wrong p) res
  | [], p, hd, _, hb => hb hd
  | v :: vs, p, hd, hs, hb => by
    obtain ⟨hv, hvz⟩ := hs v (by simp)
    have hlb := enc_len_bd v
    have hel := enc_len v
    have hd2 : l.drop p = encU v ++ (encs vs ++ r) := by rw [hd]; show (encU v ++ encs vs) ++ r = _; rw [List.append_assoc]
    have hsz : l.length - p = (encU v).length + (encs vs ++ r).length := by
      have := congrArg List.length hd2
      rw [List.length_drop, List.length_append] at this; exact this
    have hd3 : l.drop (p + (encU v).length) = encs vs ++ r := by rw [← List.drop_drop, hd2, List.drop_left]
    obtain ⟨b, t, hbt, hc⟩ := encU_head v hv
    have hg : l.getD p 0 = b := by rw [getD_drop, hd2, hbt]; rfl
    have hne : ((b.toNat : Int) != (z.toNat : Int)) = true := by
      rw [bne_iff_ne]
      rcases hc with ⟨_, h2, _⟩ | ⟨_, h2⟩ <;> omega
    have e2 : p + (encs (v :: vs)).length = p + (encU v).length + (encs vs).length := by
      show p + (encU v ++ encs vs).length = _
      rw [List.length_append]; omega
    rw [e2] at hb
    have ih := closed_loop l hl z hz kd wrong r res vs (p + (encU v).length) hd3 (fun x hx => hs x (by simp [hx])) hb
    refine Ev.step (f := fun k => token_closed.j1 k (bs l) kd z.toNat wrong p true) (fun k => ?_) ?_
    · show token_closed.l0 (k + 1) (bs l) kd z.toNat wrong p = _
      rw [token_closed.l0, if_pos (by rw [bs_size]; omega), if_pos (by omega), bt_bs, hg, hne]
    · refine Ev.step (fun k => ?_) ih
      show token_closed.j1 (k + 1) (bs l) kd z.toNat wrong p true = _
      rw [token_closed.j1, if_pos rfl, if_pos (by omega), if_pos (by rw [bs_size]; omega)]
      have hF : runes_First.f ((bs l).extract (p : Int).toNat (bs l).size) = some (v, widthI v, true) := by
        rw [Int.toNat_natCast, bs_from, First_bs _ (by rw [List.length_drop]; omega), hd2, fL_enc v hv]
      rw [hF, Option.bind_some, if_pos rfl]
      show token_closed.l0 k (bs l) kd z.toNat wrong (wrap64 ((p : Int) + widthI v)) = _
      rw [← hel, w64q _ (by omega) (by omega)]; rfl
theorem closed_good (a z : UInt8) (hz : z.toNat < 128) (kd wrong : Int) (vs : List Int) (r : List UInt8) (hs : Sgs z.toNat vs) (hl : (a :: (encs vs ++ [z]) ++ r).length ≤ 4096) :
    Ev (fun k => token_closed.f k (bs (a :: (encs vs ++ [z]) ++ r)) kd z.toNat wrong) (kd, bs (encs vs), 0, 0, ((encs vs).length : Int) + 2, 0, 0) := by
  obtain ⟨l, hle⟩ : ∃ l, a :: (encs vs ++ [z]) ++ r = l := ⟨_, rfl⟩
  rw [hle] at hl ⊢
  have hd1 : l.drop 1 = encs vs ++ (z :: r) := by rw [← hle]; simp
  have hlen : l.length = 1 + (encs vs).length + 1 + r.length := by rw [← hle]; simp; omega
  refine closed_loop l hl z hz kd wrong (z :: r) _ vs 1 hd1 hs (fun hd => ?_)
  have hg : l.getD (1 + (encs vs).length) 0 = z := by rw [getD_drop, hd]; rfl
  refine Ev.step (f := fun k => token_closed.j1 k (bs l) kd z.toNat wrong ((1 + (encs vs).length : Nat) : Int) false) (fun k => ?_) ?_
  · show token_closed.l0 (k + 1) (bs l) kd z.toNat wrong _ = _
    rw [token_closed.l0, if_pos (by rw [bs_size]; omega), if_pos (by omega), bt_bs, hg]
    congr 1; simp
  · refine Ev.step (f := fun _ => some (kd, bs (encs vs), 0, 0, ((encs vs).length : Int) + 2, 0, 0)) (fun k => ?_) (Ev.now _)
    show token_closed.j1 (k + 1) (bs l) kd z.toNat wrong _ false = _
    rw [token_closed.j1, if_neg (by simp), if_neg (by rw [bs_size]; omega), if_pos (by omega), if_pos (by rw [bs_size]; omega), Int.toNat_natCast, bs_ext, hd1, w64q _ (by omega) (by omega)]
    have e1 : 1 + (encs vs).length - 1 = (encs vs).length := by omega
    have e2 : ((1 + (encs vs).length : Nat) : Int) + 1 = ((encs vs).length : Int) + 2 := by omega
    rw [e1, List.take_left, e2]
theorem closed_end (a z : UInt8) (hz : z.toNat < 128) (kd wrong : Int) (vs : List Int) (hs : Sgs z.toNat vs) (hl : (a :: encs vs).length ≤ 4096) :
    Ev (fun k => token_closed.f k (bs (a :: encs vs)) kd z.toNat wrong) (bad7 (1 + (encs vs).length : Nat) wrong) := by
  obtain ⟨l, hle⟩ : ∃ l, a :: encs vs = l := ⟨_, rfl⟩
  rw [hle] at hl ⊢
  have hd1 : l.drop 1 = encs vs ++ [] := by rw [← hle]; simp
  have hlen : l.length = 1 + (encs vs).length := by rw [← hle]; simp; omega
  refine closed_loop l hl z hz kd wrong [] _ vs 1 hd1 hs (fun hd => ?_)
  refine Ev.step (f := fun k => token_closed.j1 k (bs l) kd z.toNat wrong ((1 + (encs vs).length : Nat) : Int) false) (fun k => ?_) ?_
  · show token_closed.l0 (k + 1) (bs l) kd z.toNat wrong _ = _
    rw [token_closed.l0, if_neg (by rw [bs_size]; omega)]
  · refine Ev.step (f := fun _ => some (bad7 (1 + (encs vs).length : Nat) wrong)) (fun k => ?_) (Ev.now _)
    show token_closed.j1 (k + 1) (bs l) kd z.toNat wrong _ false = _
    rw [token_closed.j1, if_neg (by simp), if_pos (by rw [bs_size]; omega)]; rfl
set_option maxRecDepth 100000 in
theorem closed_utf (a z : UInt8) (hz : z.toNat < 128) (kd wrong : Int) (vs : List Int) (r : List UInt8) (hs : Sgs z.toNat vs) (hr : r ≠ []) (hf : fL r = (0, 0, false)) (hl : (a :: (encs vs ++ r)).length ≤ 4096) :
    Ev (fun k => token_closed.f k (bs (a :: (encs vs ++ r))) kd z.toNat wrong) (bad7 (1 + (encs vs).length : Nat) 4) := by
  obtain ⟨l, hle⟩ : ∃ l, a :: (encs vs ++ r) = l := ⟨_, rfl⟩
  rw [hle] at hl ⊢
  have hd1 : l.drop 1 = encs vs ++ r := by rw [← hle]; simp
  have hpos : 0 < r.length := List.length_pos_iff.2 hr
  have hlen : l.length = 1 + (encs vs).length + r.length := by rw [← hle]; simp; omega
  refine closed_loop l hl z hz kd wrong r _ vs 1 hd1 hs (fun hd => ?_)
  obtain ⟨b, q, rfl⟩ : ∃ b q, r = b :: q := by cases r with | nil => exact absurd rfl hr | cons b q => exact ⟨b, q, rfl⟩
  have hb := fL_bad_head b q hf
  have hg : l.getD (1 + (encs vs).length) 0 = b := by rw [getD_drop, hd]; rfl
  refine Ev.step (f := fun k => token_closed.j1 k (bs l) kd z.toNat wrong ((1 + (encs vs).length : Nat) : Int) true) (fun k => ?_) ?_
  · show token_closed.l0 (k + 1) (bs l) kd z.toNat wrong _ = _
    rw [token_closed.l0, if_pos (by rw [bs_size]; omega), if_pos (by omega), bt_bs, hg]
    congr 1; rw [bne_iff_ne]; omega
  · refine Ev.step (f := fun _ => some (bad7 (1 + (encs vs).length : Nat) 4)) (fun k => ?_) (Ev.now _)
    show token_closed.j1 (k + 1) (bs l) kd z.toNat wrong _ true = _
    have hF : runes_First.f ((bs l).extract ((1 + (encs vs).length : Nat) : Int).toNat (bs l).size) = some (0, 0, false) := by
      rw [Int.toNat_natCast, bs_from, First_bs _ (by rw [List.length_drop]; omega), hd, hf]
    unfold bad7
    rw [token_closed.j1, if_pos rfl, if_pos (by omega), if_pos (by rw [bs_size]; omega), hF, Option.bind_some, if_neg (by simp)]
theorem marked_good (b : UInt8) (v : Int) (hv : isB v = true) (r : List UInt8) (k e : Int) (hl : (b :: encU v ++ r).length ≤ 4096) :
    token_marked.f (bs (b :: encU v ++ r)) k e = some (k, bs (encU v), 0, 0, ((encU v).length : Int) + 1, 0, 0) := by
  have hlb := enc_len_bd v
  have hel := enc_len v
  obtain ⟨l, hle⟩ : ∃ l, b :: encU v ++ r = l := ⟨_, rfl⟩
  rw [hle] at hl ⊢
  have hd1 : l.drop 1 = encU v ++ r := by rw [← hle]; simp
  have hlen : l.length = 1 + (encU v).length + r.length := by rw [← hle]; simp; omega
  unfold token_marked.f
  have hF : runes_First.f ((bs l).extract 1 (bs l).size) = some (v, widthI v, true) := by
    rw [bs_from, First_bs _ (by rw [List.length_drop]; omega), hd1, fL_enc v hv]
  rw [if_neg (by rw [bs_size]; omega), if_pos (by rw [bs_size]; omega), hF, Option.bind_some, if_pos rfl]
  show (if 1 ≤ wrap64 (1 + widthI v) then _ else _) = _
  rw [← hel, w64q _ (by omega) (by omega), if_pos (by omega), if_pos (by rw [bs_size]; omega)]
  have e1 : (1 + ((encU v).length : Int)).toNat = 1 + (encU v).length := by omega
  rw [e1, bs_ext, hd1]
  have e2 : 1 + (encU v).length - 1 = (encU v).length := by omega
  rw [e2, List.take_left, Int.add_comm]
theorem marked_end (b : UInt8) (k e : Int) : token_marked.f (bs [b]) k e = some (bad7 1 e) := by
  unfold token_marked.f
  rw [if_pos (by rfl)]; rfl
theorem marked_utf (b : UInt8) (r : List UInt8) (k e : Int) (hr : r ≠ []) (hf : fL r = (0, 0, false)) (hl : (b :: r).length ≤ 4096) : token_marked.f (bs (b :: r)) k e = some (bad7 1 4) := by
  have hpos : 0 < r.length := List.length_pos_iff.2 hr
  unfold token_marked.f
  have hF : runes_First.f ((bs (b :: r)).extract 1 (bs (b :: r)).size) = some (0, 0, false) := by
    rw [bs_from, First_bs _ (by rw [List.length_drop]; omega)]
    show some (fL r) = _
    rw [hf]
  rw [if_neg (by rw [bs_size, List.length_cons]; omega), if_pos (by rw [bs_size, List.length_cons]; omega), hF, Option.bind_some, if_neg (by simp)]; rfl
end Go.Proofs.YtpefkehcibdjgaaDoor.T
set_option linter.unusedVariables false
namespace Go.Proofs.YtpefkehcibdjgaaDoor.T
open Go.RowKit Go.Proofs.YtpefkehcibdjgaaDoor.QTcd Go.Proofs.YtpefkehcibdjgaaDoorW.PrintLast Go.Proofs.YtpefkehcibdjgaaDoorW.PrintMore Go.Proofs.YtpefkehcibdjgaaDoor.H Go.Proofs.YtpefkehcibdjgaaDoor.R Go.Lib
open Go.Proofs.YtpefkehcibdjgaaDoorW.PrintWords hiding encs
/-- no sign of its own begins here -/
def NoMark (b : UInt8) : Prop := b ≠ 34 ∧ b ≠ 92 ∧ b ≠ 95 ∧ b ≠ 42 ∧ b ≠ 91
theorem u8_eq (b : UInt8) (n : Nat) (hn : n < 256) : ((b.toNat : Int) = (n : Int)) ↔ b = UInt8.ofNat n := by
  constructor
  · intro h
    apply UInt8.toNat_inj.1
    rw [UInt8.toNat_ofNat']; omega
  · intro h
    subst h
    rw [UInt8.toNat_ofNat']; omega
theorem begun_none (k : Nat) (b : UInt8) (r : List UInt8) (h : NoMark b) : token_begun.f k (bs (b :: r)) = some (0, (⟨#[]⟩ : ByteArray), 0, 0, 0, 0, 0, false) := by
  obtain ⟨h1, h2, h3, h4, h5⟩ := h
  have hb : bt (bs (b :: r)) 0 = (b.toNat : Int) := bt_bs0 _
  have k1 : ¬ (b.toNat : Int) = 34 := fun h => h1 ((u8_eq b 34 (by omega)).1 h)
  have k2 : ¬ (b.toNat : Int) = 92 := fun h => h2 ((u8_eq b 92 (by omega)).1 h)
  have k3 : ¬ (b.toNat : Int) = 95 := fun h => h3 ((u8_eq b 95 (by omega)).1 h)
  have k4 : ¬ (b.toNat : Int) = 42 := fun h => h4 ((u8_eq b 42 (by omega)).1 h)
  have k5 : ¬ (b.toNat : Int) = 91 := fun h => h5 ((u8_eq b 91 (by omega)).1 h)
  unfold token_begun.f
  rw [hb, if_pos (by rw [bs_size, List.length_cons]; omega), if_neg k1, if_neg k2, if_neg k3, if_neg k4, if_neg k5]
/-- what begun makes of a seven -/
def w8 (x : R7) : Int × ByteArray × Int × Int × Int × Int × Int × Bool := (x.1, x.2.1, x.2.2.1, x.2.2.2.1, x.2.2.2.2.1, x.2.2.2.2.2.1, x.2.2.2.2.2.2, true)
theorem begun_ends (a z : UInt8) (kd e : Int) (he : isEnds a z kd e) (q : List UInt8) (x : R7) (h : Ev (fun k => token_closed.f k (bs (a :: q)) kd z.toNat e) x) : Ev (fun k => token_begun.f k (bs (a :: q))) (w8 x) := by
  have h0 : (0 : Int) < ((bs (a :: q)).size : Int) := by rw [bs_size, List.length_cons]; omega
  have hb : bt (bs (a :: q)) 0 = (a.toNat : Int) := bt_bs0 _
  rcases he with ⟨rfl, rfl, rfl, rfl⟩ | ⟨rfl, rfl, rfl, rfl⟩
  · have hb2 : bt (bs ((34 : UInt8) :: q)) 0 = 34 := hb
    refine Ev.congr (f := fun k => (token_closed.f k (bs ((34 : UInt8) :: q)) 1 34 5).bind fun bt111 => (some (w8 bt111))) (fun k => ?_) (Ev.bind h (Ev.now _))
    unfold token_begun.f
    rw [if_pos h0, hb2, if_pos rfl]; rfl
  · have hb2 : bt (bs ((91 : UInt8) :: q)) 0 = 91 := hb
    refine Ev.congr (f := fun k => (token_closed.f k (bs ((91 : UInt8) :: q)) 5 93 7).bind fun bt111 => (some (w8 bt111))) (fun k => ?_) (Ev.bind h (Ev.now _))
    unfold token_begun.f
    rw [if_pos h0, hb2, if_neg (by decide), if_neg (by decide), if_neg (by decide), if_neg (by decide), if_pos rfl]; rfl
theorem begun_mark (b : UInt8) (kd e : Int) (he : isMark b kd e) (q : List UInt8) (x : R7) (h : token_marked.f (bs (b :: q)) kd e = some x) (k : Nat) : token_begun.f k (bs (b :: q)) = some (w8 x) := by
  have h0 : (0 : Int) < ((bs (b :: q)).size : Int) := by rw [bs_size, List.length_cons]; omega
  have hb : bt (bs (b :: q)) 0 = (b.toNat : Int) := bt_bs0 _
  rcases he with ⟨rfl, rfl, rfl⟩ | ⟨rfl, rfl, rfl⟩ | ⟨rfl, rfl, rfl⟩
  · have hb2 : bt (bs ((92 : UInt8) :: q)) 0 = 92 := hb
    unfold token_begun.f
    rw [if_pos h0, hb2, if_neg (by decide), if_pos rfl, h]; rfl
  · have hb2 : bt (bs ((95 : UInt8) :: q)) 0 = 95 := hb
    unfold token_begun.f
    rw [if_pos h0, hb2, if_neg (by decide), if_neg (by decide), if_pos rfl, h]; rfl
  · have hb2 : bt (bs ((42 : UInt8) :: q)) 0 = 42 := hb
    unfold token_begun.f
    rw [if_pos h0, hb2, if_neg (by decide), if_neg (by decide), if_neg (by decide), if_pos rfl, h]; rfl
theorem first_begun {s : ByteArray} {x : R7} (h : Ev (fun k => token_begun.f k s) (w8 x)) : Ev (fun k => token_first.f k s) x := by
  unfold token_first.f
  refine Ev.bind (f := fun k x => _) h ?_
  exact Ev.congr (f := fun _ => some x) (fun k => by rw [if_pos (by rfl)]; rfl) (Ev.now _)
theorem word_bs (w : ByteArray) (k : Int) (hw : isWord w k) (l : List UInt8) (hl : l.length ≤ 4096) : token_word.f (bs l) w = some (decide (sm (l.take w.size) = sm w.data.toList)) := by
  have hw2 : w = wAm ∨ w = wA ∨ w = wGen := by rcases hw with ⟨h, _⟩ | ⟨h, _⟩ | ⟨h, _⟩ <;> simp [h]
  unfold token_word.f
  rw [if_pos ⟨by rw [bs_size]; unfold big; omega, hw2⟩]
  congr 1
  unfold beginsP
  rw [bs_size]
  show (decide (w.size ≤ l.length) && (sm (l.take w.size) == sm w.data.toList)) = _
  rw [Bool.eq_iff_iff]
  simp only [Bool.and_eq_true, decide_eq_true_eq, beq_iff_eq]
  constructor
  · exact fun h => h.2
  · intro h
    refine ⟨?_, h⟩
    have := congrArg List.length h
    unfold sm at this
    rw [List.length_map, List.length_map, List.length_take, ← Lib.size_eq] at this
    omega
theorem small_f (c : Nat) (hc : c < 256) : token_small.f (c : Int) = some ((smallN c : Nat) : Int) := by
  unfold token_small.f smallN
  by_cases h1 : (c : Int) ≥ 65
  · rw [if_pos h1]
    by_cases h2 : (c : Int) ≤ 90
    · rw [if_pos h2, if_pos (by omega)]; congr 1; omega
    · rw [if_neg h2, if_neg (by omega)]
  · rw [if_neg h1, if_neg (by omega)]
/-- which word, if any -/
theorem lettered_go (l : List UInt8) (hl : l.length ≤ 4096) (b : UInt8) (q : List UInt8) (hq : l = b :: q) (res : Int × ByteArray × Int × Int × Int)
    (hE : Ev (fun k => if sm (l.take 5) = sm wAm.data.toList then some (15, wAm, 1, 0, 5) else if sm (l.take 3) = sm wA.data.toList then some (15, wA, 1, 0, 3) else if sm (l.take 7) = sm wGen.data.toList then some (16, wGen, 1, 0, 7)
      else if smallN b.toNat = 101 ∧ 1 < l.length ∧ (l.getD 1 0 = 43 ∨ l.getD 1 0 = 45) then token_lettered.j1 k (bs l) ((smallN b.toNat : Nat) : Int) true else token_lettered.j1 k (bs l) ((smallN b.toNat : Nat) : Int) false) res) : Ev (fun k => token_lettered.f k (bs l)) res := by
  have h0 : (0 : Int) < ((bs l).size : Int) := by rw [bs_size, hq, List.length_cons]; omega
  have hb : bt (bs l) 0 = (b.toNat : Int) := by rw [bt_bs0, hq]; rfl
  have w1 := word_bs wAm 15 (.inl ⟨rfl, rfl⟩) l hl
  have w2 := word_bs wA 15 (.inr (.inl ⟨rfl, rfl⟩)) l hl
  have w3 := word_bs wGen 16 (.inr (.inr ⟨rfl, rfl⟩)) l hl
  have z1 : wAm.size = 5 := rfl
  have z2 : wA.size = 3 := rfl
  have z3 : wGen.size = 7 := rfl
  rw [z1] at w1; rw [z2] at w2; rw [z3] at w3
  obtain ⟨K, hK⟩ := hE
  refine ⟨K + 3, fun k hk => ?_⟩
  obtain ⟨m, rfl⟩ : ∃ m, k = m + 3 := ⟨k - 3, by omega⟩
  have hm := hK m (by omega)
  change (if sm (l.take 5) = sm wAm.data.toList then _ else _) = _ at hm
  show token_lettered.l0 (m + 3) (bs l) [wAm, wA] 2 0 = some res
  rw [token_lettered.l0, if_pos (by omega), if_pos (by omega), if_pos (by decide)]
  have r0 : rdOf ByteArray.empty [wAm, wA] 0 = wAm := rfl
  have r1 : rdOf ByteArray.empty [wAm, wA] 1 = wA := rfl
  rw [r0, w1, Option.bind_some]
  by_cases c1 : sm (l.take 5) = sm wAm.data.toList
  · rw [if_pos c1] at hm
    rw [if_pos (decide_eq_true c1)]; exact hm
  · rw [if_neg c1] at hm
    rw [if_neg (by simp [c1]), w64q (0 + 1) (by omega) (by omega)]
    show token_lettered.l0 (m + 2) (bs l) [wAm, wA] 2 1 = some res
    rw [token_lettered.l0, if_pos (by omega), if_pos (by omega), if_pos (by decide), r1, w2, Option.bind_some]
    by_cases c2 : sm (l.take 3) = sm wA.data.toList
    · rw [if_pos c2] at hm
      rw [if_pos (decide_eq_true c2)]; exact hm
    · rw [if_neg c2] at hm
      rw [if_neg (by simp [c2]), w64q (1 + 1) (by omega) (by omega)]
      show token_lettered.l0 (m + 1) (bs l) [wAm, wA] 2 2 = some res
      rw [token_lettered.l0, if_neg (by omega)]
      show (token_word.f (bs l) wGen).bind _ = some res
      rw [w3, Option.bind_some]
      by_cases c3 : sm (l.take 7) = sm wGen.data.toList
      · rw [if_pos c3] at hm
        rw [if_pos (decide_eq_true c3)]; exact hm
      · rw [if_neg c3] at hm
        rw [if_neg (by simp [c3]), if_pos h0, hb, small_f _ b.toNat_lt, Option.bind_some]
        by_cases c4 : smallN b.toNat = 101
        · rw [if_pos (by omega)]
          by_cases c5 : 1 < l.length
          · rw [if_pos (by rw [bs_size]; omega), if_pos (by rw [bs_size]; omega), bt_bs1]
            by_cases c6 : l.getD 1 0 = 43
            · rw [if_pos ⟨c4, c5, .inl c6⟩] at hm
              rw [if_pos (by rw [c6]; rfl)]; exact hm
            · have k6 : ¬ ((l.getD 1 0).toNat : Int) = 43 := fun h => c6 ((u8_eq _ 43 (by omega)).1 h)
              rw [if_neg k6]
              by_cases c7 : l.getD 1 0 = 45
              · rw [if_pos ⟨c4, c5, .inr c7⟩] at hm
                rw [c7]; exact hm
              · rw [if_neg (fun h => h.2.2.elim c6 c7)] at hm
                have : (((l.getD 1 0).toNat : Int) == 45) = false := by rw [beq_eq_false_iff_ne]; exact fun h => c7 ((u8_eq _ 45 (by omega)).1 h)
                rw [this]; exact hm
          · rw [if_neg (fun h => c5 h.2.1)] at hm
            rw [if_neg (by rw [bs_size]; omega)]; exact hm
        · rw [if_neg (fun h => c4 h.1)] at hm
          rw [if_neg (by omega)]; exact hm
def letB : ByteArray := ⟨#[121, 109, 100, 104, 115]⟩
theorem let_index (c : Nat) (hc : c < 256) : ∃ i, strings_IndexByte.f letB (c : Int) = some i ∧ (i < 0 ↔ ¬ isLet c) := by
  refine ⟨indexP letB.data.toList (c : Int), ?_, ?_⟩
  · unfold strings_IndexByte.f
    rw [if_pos ⟨by unfold big; decide, by omega, by omega⟩]
  · unfold isLet
    have key : ∀ c : Nat, c < 256 → (indexP letB.data.toList (c : Int) < 0 ↔ ¬ (c = 121 ∨ c = 109 ∨ c = 100 ∨ c = 104 ∨ c = 115)) := by decide +kernel
    exact key c hc
def plainB : ByteArray := ⟨#[36, 45, 43, 40, 41, 58, 33, 94, 38, 39, 126, 123, 125, 60, 62, 61, 32, 49, 50, 51, 52, 53, 54, 55, 56, 57]⟩
theorem plain_index (b : UInt8) : ∃ i, strings_IndexByte.f plainB (b.toNat : Int) = some i ∧ (i < 0 ↔ b ∉ plainsL) := by
  have hb := b.toNat_lt
  refine ⟨indexP plainB.data.toList (b.toNat : Int), ?_, ?_⟩
  · unfold strings_IndexByte.f
    rw [if_pos ⟨by unfold big; decide, by omega, by omega⟩]
  · have key : ∀ c : Nat, c < 256 → (indexP plainB.data.toList (c : Int) < 0 ↔ UInt8.ofNat c ∉ plainsL) := by decide +kernel
    have := key b.toNat b.toNat_lt
    rwa [UInt8.ofNat_toNat] at this
end Go.Proofs.YtpefkehcibdjgaaDoor.T
set_option linter.unusedVariables false
namespace Go.Proofs.YtpefkehcibdjgaaDoor.T
open Go.RowKit Go.Proofs.YtpefkehcibdjgaaDoor.QTcd Go.Proofs.YtpefkehcibdjgaaDoorW.PrintLast Go.Proofs.YtpefkehcibdjgaaDoorW.PrintMore Go.Proofs.YtpefkehcibdjgaaDoor.H Go.Proofs.YtpefkehcibdjgaaDoor.R Go.Lib
open Go.Proofs.YtpefkehcibdjgaaDoorW.PrintWords hiding encs
theorem sm_head {b : UInt8} {q : List UInt8} {n : Nat} {w : List UInt8} {c : Nat} {t : List Nat} (h : sm ((b :: q).take (n + 1)) = sm w) (hw : sm w = c :: t) : smallN b.toNat = c := by
  rw [List.take_succ_cons, hw] at h
  exact (List.cons.inj h).1
theorem no_words (b : UInt8) (q : List UInt8) (h1 : smallN b.toNat ≠ 97) (h2 : smallN b.toNat ≠ 103) : ¬ sm ((b :: q).take 5) = sm wAm.data.toList ∧ ¬ sm ((b :: q).take 3) = sm wA.data.toList ∧ ¬ sm ((b :: q).take 7) = sm wGen.data.toList :=
  ⟨fun h => h1 (sm_head h rfl), fun h => h1 (sm_head h rfl), fun h => h2 (sm_head h rfl)⟩
theorem lettered_word (w : ByteArray) (k : Int) (pre r : List UInt8) (hw : isWord w k) (hp : sm pre = sm w.data.toList) (hl : (pre ++ r).length ≤ 4096) :
    Ev (fun j => token_lettered.f j (bs (pre ++ r))) (k, w, 1, 0, (w.size : Int)) := by
  have hlen : pre.length = w.size := by
    have := congrArg List.length hp
    unfold sm at this
    rw [List.length_map, List.length_map, ← Lib.size_eq] at this; exact this
  obtain ⟨b, q, hq⟩ : ∃ b q, pre = b :: q := by
    cases pre with
    | nil => rcases hw with ⟨rfl, _⟩ | ⟨rfl, _⟩ | ⟨rfl, _⟩ <;> simp [wAm, wA, wGen, ByteArray.size] at hlen
    | cons b q => exact ⟨b, q, rfl⟩
  have ht : sm ((pre ++ r).take w.size) = sm w.data.toList := by rw [← hlen, List.take_left]; exact hp
  refine lettered_go (pre ++ r) hl b (q ++ r) (by rw [hq]; rfl) _ ?_
  rcases hw with ⟨rfl, rfl⟩ | ⟨rfl, rfl⟩ | ⟨rfl, rfl⟩
  · exact Ev.congr (f := fun _ => some (15, wAm, 1, 0, 5)) (fun j => if_pos ht) (Ev.now _)
  · have n1 : ¬ sm ((pre ++ r).take 5) = sm wAm.data.toList := fun h => by
      have e1 := congrArg (fun l => l[1]?) h
      have e2 := congrArg (fun l => l[1]?) ht
      have e3 : (sm ((pre ++ r).take 5))[1]? = (sm ((pre ++ r).take 3))[1]? := by
        unfold sm
        rw [List.getElem?_map, List.getElem?_map, List.getElem?_take, List.getElem?_take]; rfl
      have e4 : (sm ((pre ++ r).take 3))[1]? = (sm wA.data.toList)[1]? := e2
      have e5 : (sm ((pre ++ r).take 5))[1]? = (sm wAm.data.toList)[1]? := e1
      rw [e3, e4] at e5
      exact absurd e5 (by decide)
    exact Ev.congr (f := fun _ => some (15, wA, 1, 0, 3)) (fun j => (if_neg n1).trans (if_pos ht)) (Ev.now _)
  · have hb : smallN b.toNat = 103 := by
      rw [hq] at ht
      exact sm_head (n := 6) (w := wGen.data.toList) ht rfl
    have hn : (pre ++ r) = b :: (q ++ r) := by rw [hq]; rfl
    have n1 : ¬ sm ((pre ++ r).take 5) = sm wAm.data.toList := fun h => by
      rw [hn] at h
      have := sm_head (n := 4) (w := wAm.data.toList) (c := 97) h rfl
      omega
    have n2 : ¬ sm ((pre ++ r).take 3) = sm wA.data.toList := fun h => by
      rw [hn] at h
      have := sm_head (n := 2) (w := wA.data.toList) (c := 97) h rfl
      omega
    exact Ev.congr (f := fun _ => some (16, wGen, 1, 0, 7)) (fun j => (if_neg n1).trans ((if_neg n2).trans (if_pos ht))) (Ev.now _)
theorem lettered_power (b s : UInt8) (r : List UInt8) (hb : smallN b.toNat = 101) (hs : s = 43 ∨ s = 45) (hl : (b :: s :: r).length ≤ 4096) :
    Ev (fun j => token_lettered.f j (bs (b :: s :: r))) (13, bs [s], 1, 0, 2) := by
  obtain ⟨n1, n2, n3⟩ := no_words b (s :: r) (by omega) (by omega)
  refine lettered_go _ hl b (s :: r) rfl _ ?_
  refine Ev.congr (f := fun j => token_lettered.j1 j (bs (b :: s :: r)) ((smallN b.toNat : Nat) : Int) true) (fun j => (if_neg n1).trans ((if_neg n2).trans ((if_neg n3).trans (if_pos ⟨hb, by simp, hs⟩)))) ?_
  refine Ev.step (f := fun _ => some (13, bs [s], 1, 0, 2)) (fun j => ?_) (Ev.now _)
  show token_lettered.j1 (j + 1) (bs (b :: s :: r)) _ true = _
  rw [token_lettered.j1, if_pos rfl, if_pos (by omega), if_pos (by rw [bs_size, List.length_cons, List.length_cons]; omega), bs_ext]; rfl
theorem let_small (c : Nat) (h : isLet c) : c ≠ 97 ∧ c ≠ 103 ∧ c ≠ 101 := by unfold isLet at h; omega
theorem date_loop (l : List UInt8) (hl : l.length ≤ 4096) (c : UInt8) (r : List UInt8) (hr : ∀ x r', r = x :: r' → smallN x.toNat ≠ c.toNat) :
    ∀ (pre : List UInt8) (p : Nat), l.drop p = pre ++ r → p ≤ l.length → (∀ x ∈ pre, smallN x.toNat = c.toNat) → Ev (fun j => token_lettered.l1 j (bs l) (c.toNat : Int) p) (14, bs [c], ((p + pre.length : Nat) : Int), 0, ((p + pre.length : Nat) : Int))
  | [], p, hd, hp, _ => by
    have hc := c.toNat_lt
    have hst : strOfNums (([(c.toNat : Int)] : List Int)) = bs [c] := by
      show (⟨[UInt8.ofNat ((c.toNat : Int)).toNat].toArray⟩ : ByteArray) = _
      rw [Int.toNat_natCast, UInt8.ofNat_toNat]; rfl
    refine Ev.step (f := fun _ => some (14, bs [c], (p : Int), 0, (p : Int))) (fun j => ?_) (Ev.now _)
    show token_lettered.l1 (j + 1) (bs l) (c.toNat : Int) p = _
    rw [token_lettered.l1, hst]
    by_cases h : p < l.length
    · obtain ⟨x, q, hx⟩ : ∃ x q, r = x :: q := by
        cases r with
        | nil => have := congrArg List.length hd; rw [List.length_drop] at this; simp at this; omega
        | cons x q => exact ⟨x, q, rfl⟩
      have hg : l.getD p 0 = x := by rw [getD_drop, hd, hx]; rfl
      have hne := hr x q hx
      rw [if_pos (by rw [bs_size]; omega), if_pos (by omega), bt_bs, hg, small_f _ x.toNat_lt, Option.bind_some, if_neg (by omega)]
    · rw [if_neg (by rw [bs_size]; omega)]
  | x :: pre, p, hd, hp, ha => by
    have hx := ha x (by simp)
    have hlen : p < l.length := by
      have := congrArg List.length hd; rw [List.length_drop, List.length_append, List.length_cons] at this; omega
    have hg : l.getD p 0 = x := by rw [getD_drop, hd]; rfl
    have hd2 : l.drop (p + 1) = pre ++ r := by rw [← List.drop_drop, hd]; rfl
    have ih := date_loop l hl c r hr pre (p + 1) hd2 (by omega) (fun y hy => ha y (by simp [hy]))
    have e : p + (x :: pre).length = p + 1 + pre.length := by rw [List.length_cons]; omega
    rw [e]
    refine Ev.step (fun j => ?_) ih
    show token_lettered.l1 (j + 1) (bs l) (c.toNat : Int) p = _
    rw [token_lettered.l1, if_pos (by rw [bs_size]; omega), if_pos (by omega), bt_bs, hg, small_f _ x.toNat_lt, Option.bind_some, if_pos (by omega), w64q _ (by omega) (by omega)]; rfl
theorem lettered_date (c b : UInt8) (pre r : List UInt8) (hc : isLet c.toNat) (hb : smallN b.toNat = c.toNat) (ha : ∀ x ∈ pre, smallN x.toNat = c.toNat) (hr : ∀ x r', r = x :: r' → smallN x.toNat ≠ c.toNat) (hl : (b :: pre ++ r).length ≤ 4096) :
    Ev (fun j => token_lettered.f j (bs (b :: pre ++ r))) (14, bs [c], (pre.length : Int) + 1, 0, (pre.length : Int) + 1) := by
  obtain ⟨x1, x2, x3⟩ := let_small _ hc
  obtain ⟨n1, n2, n3⟩ := no_words b (pre ++ r) (by omega) (by omega)
  obtain ⟨i, hi, hneg⟩ := let_index c.toNat c.toNat_lt
  refine lettered_go _ hl b (pre ++ r) rfl _ ?_
  refine Ev.congr (f := fun j => token_lettered.j1 j (bs (b :: pre ++ r)) (c.toNat : Int) false) (fun j => (if_neg n1).trans ((if_neg n2).trans ((if_neg n3).trans ((if_neg (fun h => by omega)).trans (by rw [hb]))))) ?_
  have h := date_loop (b :: pre ++ r) hl c r hr pre 1 rfl (by simp) ha
  have e : ((1 + pre.length : Nat) : Int) = (pre.length : Int) + 1 := by omega
  rw [e] at h
  refine Ev.step (fun j => ?_) h
  show token_lettered.j1 (j + 1) (bs (b :: pre ++ r)) (c.toNat : Int) false = _
  rw [token_lettered.j1, if_neg (by simp)]
  show (strings_IndexByte.f letB (c.toNat : Int)).bind _ = _
  rw [hi, Option.bind_some, if_neg (fun h => (hneg.1 h) hc)]; rfl
theorem lettered_none (b : UInt8) (q : List UInt8) (hw : ∀ w k, isWord w k → ¬ sm ((b :: q).take w.size) = sm w.data.toList) (hp : smallN b.toNat = 101 → ∀ x r', q = x :: r' → x ≠ 43 ∧ x ≠ 45) (hn : ¬ isLet (smallN b.toNat)) (hl : (b :: q).length ≤ 4096) :
    Ev (fun j => token_lettered.f j (bs (b :: q))) (0, (⟨#[]⟩ : ByteArray), 0, 0, 0) := by
  have n1 : ¬ sm ((b :: q).take 5) = sm wAm.data.toList := hw wAm 15 (.inl ⟨rfl, rfl⟩)
  have n2 : ¬ sm ((b :: q).take 3) = sm wA.data.toList := hw wA 15 (.inr (.inl ⟨rfl, rfl⟩))
  have n3 : ¬ sm ((b :: q).take 7) = sm wGen.data.toList := hw wGen 16 (.inr (.inr ⟨rfl, rfl⟩))
  have n4 : ¬ (smallN b.toNat = 101 ∧ 1 < (b :: q).length ∧ ((b :: q).getD 1 0 = 43 ∨ (b :: q).getD 1 0 = 45)) := fun h => by
    cases q with
    | nil => simp at h
    | cons x r' =>
      have := hp h.1 x r' rfl
      rcases h.2.2 with h | h
      · exact this.1 h
      · exact this.2 h
  have hlt : smallN b.toNat < 256 := by have := b.toNat_lt; unfold smallN; split <;> omega
  obtain ⟨i, hi, hneg⟩ := let_index (smallN b.toNat) hlt
  refine lettered_go _ hl b q rfl _ ?_
  refine Ev.congr (f := fun j => token_lettered.j1 j (bs (b :: q)) ((smallN b.toNat : Nat) : Int) false) (fun j => (if_neg n1).trans ((if_neg n2).trans ((if_neg n3).trans (if_neg n4)))) ?_
  refine Ev.step (f := fun _ => some (0, (⟨#[]⟩ : ByteArray), 0, 0, 0)) (fun j => ?_) (Ev.now _)
  show token_lettered.j1 (j + 1) (bs (b :: q)) _ false = _
  rw [token_lettered.j1, if_neg (by simp)]
  show (strings_IndexByte.f letB ((smallN b.toNat : Nat) : Int)).bind _ = _
  rw [hi, Option.bind_some, if_pos (hneg.2 hn)]
/-- behind the marks and the single signs -/
theorem first_more (b : UInt8) (q : List UInt8) (hm : NoMark b) (hs : (singleP b.toNat).2 = false) (x : Int × ByteArray × Int × Int × Int) (res : R7) (hx : Ev (fun k => token_lettered.f k (bs (b :: q))) x)
    (h : (if x.2.2.2.2 > 0 then some (x.1, x.2.1, x.2.2.1, x.2.2.2.1, x.2.2.2.2, 0, 0) else ((runes_First.f (bs (b :: q))).bind fun bt180 => (if bt180.2.2 = true then (if (bt (bs (b :: q)) 0) < 128 then ((strings_IndexByte.f plainB (bt (bs (b :: q)) 0)).bind fun t183 => (if t183 < 0 then (some (0, (⟨#[]⟩ : ByteArray), 0, 0, 0, 0, 9)) else (if 0 ≤ bt180.2.1 then (if bt180.2.1 ≤ ((bs (b :: q)).size : Int) then (some (17, (bs (b :: q)).extract 0 (bt180.2.1 : Int).toNat, 1, 0, bt180.2.1, 0, 0)) else (none)) else (none)))) else (if 0 ≤ bt180.2.1 then (if bt180.2.1 ≤ ((bs (b :: q)).size : Int) then (some (17, (bs (b :: q)).extract 0 (bt180.2.1 : Int).toNat, 1, 0, bt180.2.1, 0, 0)) else (none)) else (none))) else (some (0, (⟨#[]⟩ : ByteArray), 0, 0, 0, 0, 4))))) = some res) :
    Ev (fun k => token_first.f k (bs (b :: q))) res := by
  have h0 : (0 : Int) < ((bs (b :: q)).size : Int) := by rw [bs_size, List.length_cons]; omega
  have hb : bt (bs (b :: q)) 0 = (b.toNat : Int) := bt_bs0 _
  have hb2 := b.toNat_lt
  obtain ⟨sk, hsk⟩ : ∃ sk, token_single.f (b.toNat : Int) = some (sk, false) := by
    refine ⟨(singleP b.toNat).1, ?_⟩
    unfold token_single.f
    rw [if_pos (by omega)]
    congr 1
    rw [← hs]
  refine Ev.congr (f := fun k => (token_lettered.f k (bs (b :: q))).bind fun x => (if x.2.2.2.2 > 0 then some (x.1, x.2.1, x.2.2.1, x.2.2.2.1, x.2.2.2.2, 0, 0) else ((runes_First.f (bs (b :: q))).bind fun bt180 => (if bt180.2.2 = true then (if (bt (bs (b :: q)) 0) < 128 then ((strings_IndexByte.f plainB (bt (bs (b :: q)) 0)).bind fun t183 => (if t183 < 0 then (some (0, (⟨#[]⟩ : ByteArray), 0, 0, 0, 0, 9)) else (if 0 ≤ bt180.2.1 then (if bt180.2.1 ≤ ((bs (b :: q)).size : Int) then (some (17, (bs (b :: q)).extract 0 (bt180.2.1 : Int).toNat, 1, 0, bt180.2.1, 0, 0)) else (none)) else (none)))) else (if 0 ≤ bt180.2.1 then (if bt180.2.1 ≤ ((bs (b :: q)).size : Int) then (some (17, (bs (b :: q)).extract 0 (bt180.2.1 : Int).toNat, 1, 0, bt180.2.1, 0, 0)) else (none)) else (none))) else (some (0, (⟨#[]⟩ : ByteArray), 0, 0, 0, 0, 4)))))) (fun k => ?_) ?_
  · unfold token_first.f
    rw [begun_none k b q hm, Option.bind_some, if_neg (by simp), if_pos h0, hb, hsk, Option.bind_some, if_neg (by simp)]
    rfl
  · refine Ev.bind hx ?_
    rw [h]
    exact Ev.now res
end Go.Proofs.YtpefkehcibdjgaaDoor.T
set_option linter.unusedVariables false
namespace Go.Proofs.YtpefkehcibdjgaaDoor.T
open Go.RowKit Go.Proofs.YtpefkehcibdjgaaDoor.QTcd Go.Proofs.YtpefkehcibdjgaaDoorW.PrintLast Go.Proofs.YtpefkehcibdjgaaDoorW.PrintMore Go.Proofs.YtpefkehcibdjgaaDoor.H Go.Proofs.YtpefkehcibdjgaaDoor.R Go.Lib
open Go.Proofs.YtpefkehcibdjgaaDoorW.PrintWords hiding encs
instance (c : Nat) : Decidable (isLet c) := by unfold isLet; infer_instance
instance (b : UInt8) : Decidable (NoMark b) := by unfold NoMark; infer_instance
/-- a byte with which no token of letters, no single sign, no mark begins -/
def Still (b : UInt8) : Prop := NoMark b ∧ (singleP b.toNat).2 = false ∧ ¬ isLet (smallN b.toNat) ∧ smallN b.toNat ≠ 97 ∧ smallN b.toNat ≠ 103 ∧ smallN b.toNat ≠ 101
instance (b : UInt8) : Decidable (Still b) := by unfold Still; infer_instance
theorem plain_still (b : UInt8) (h : b ∈ plainsL) : Still b ∧ b.toNat < 128 := by
  have key : ∀ c : Nat, c < 256 → UInt8.ofNat c ∈ plainsL → Still (UInt8.ofNat c) ∧ (UInt8.ofNat c).toNat < 128 := by decide +kernel
  have := key b.toNat b.toNat_lt
  rw [UInt8.ofNat_toNat] at this
  exact this h
theorem big_still (b : UInt8) (h : 128 ≤ b.toNat) : Still b := by
  have key : ∀ c : Nat, c < 256 → 128 ≤ (UInt8.ofNat c).toNat → Still (UInt8.ofNat c) := by decide +kernel
  have := key b.toNat b.toNat_lt
  rw [UInt8.ofNat_toNat] at this
  exact this h
theorem single_mark (b : UInt8) (h : (singleP b.toNat).2 = true) : NoMark b ∧ ¬ isLet (smallN b.toNat) ∧ smallN b.toNat ≠ 97 ∧ smallN b.toNat ≠ 103 ∧ smallN b.toNat ≠ 101 ∧ b.toNat < 128 := by
  have key : ∀ c : Nat, c < 256 → (singleP (UInt8.ofNat c).toNat).2 = true → NoMark (UInt8.ofNat c) ∧ ¬ isLet (smallN (UInt8.ofNat c).toNat) ∧ smallN (UInt8.ofNat c).toNat ≠ 97 ∧ smallN (UInt8.ofNat c).toNat ≠ 103 ∧ smallN (UInt8.ofNat c).toNat ≠ 101 ∧ (UInt8.ofNat c).toNat < 128 := by decide +kernel
  have := key b.toNat b.toNat_lt
  rw [UInt8.ofNat_toNat] at this
  exact this h
theorem letter_mark (b : UInt8) (h : isLet (smallN b.toNat) ∨ smallN b.toNat = 97 ∨ smallN b.toNat = 103 ∨ smallN b.toNat = 101) : NoMark b ∧ (singleP b.toNat).2 = false ∧ b.toNat < 128 := by
  have key : ∀ c : Nat, c < 256 → (isLet (smallN (UInt8.ofNat c).toNat) ∨ smallN (UInt8.ofNat c).toNat = 97 ∨ smallN (UInt8.ofNat c).toNat = 103 ∨ smallN (UInt8.ofNat c).toNat = 101) → NoMark (UInt8.ofNat c) ∧ (singleP (UInt8.ofNat c).toNat).2 = false ∧ (UInt8.ofNat c).toNat < 128 := by decide +kernel
  have := key b.toNat b.toNat_lt
  rw [UInt8.ofNat_toNat] at this
  exact this h
theorem still_words {b : UInt8} (h : Still b) (q : List UInt8) : ∀ w k, isWord w k → ¬ sm ((b :: q).take w.size) = sm w.data.toList := by
  obtain ⟨n1, n2, n3⟩ := no_words b q h.2.2.2.1 h.2.2.2.2.1
  rintro w k (⟨rfl, _⟩ | ⟨rfl, _⟩ | ⟨rfl, _⟩)
  · exact n1
  · exact n2
  · exact n3
theorem still_none {b : UInt8} (h : Still b) (q : List UInt8) (hl : (b :: q).length ≤ 4096) : Ev (fun j => token_lettered.f j (bs (b :: q))) (0, (⟨#[]⟩ : ByteArray), 0, 0, 0) :=
  lettered_none b q (still_words h q) (fun e => absurd e h.2.2.2.2.2) h.2.2.1 hl
theorem ends_z {a z : UInt8} {k e : Int} (h : isEnds a z k e) : z.toNat < 128 := by
  rcases h with ⟨_, rfl, _⟩ | ⟨_, rfl, _⟩ <;> decide
theorem first_ok (pre r : List UInt8) (k : Int) (t : List UInt8) (c : Int) (h : Tk pre r k t c) (hl : (pre ++ r).length ≤ 4096) : Ev (fun j => token_first.f j (bs (pre ++ r))) (k, bs t, c, 0, (pre.length : Int), 0, 0) := by
  cases h with
  | ends a z _ e vs _ h1 h2 =>
    have hg := closed_good a z (ends_z h1) k e vs r h2 hl
    have e1 : ((a :: (encs vs ++ [z])).length : Int) = ((encs vs).length : Int) + 2 := by simp; omega
    rw [e1]
    exact first_begun (begun_ends a z k e h1 _ _ hg)
  | mark b _ e v _ h1 h2 =>
    have hg := marked_good b v h2 r k e hl
    have e1 : ((b :: encU v).length : Int) = ((encU v).length : Int) + 1 := by simp
    rw [e1]
    refine first_begun (Ev.congr (f := fun _ => some (w8 (k, bs (encU v), 0, 0, ((encU v).length : Int) + 1, 0, 0))) (fun j => ?_) (Ev.now _))
    exact begun_mark b k e h1 (encU v ++ r) _ hg j
  | single b _ _ h1 =>
    obtain ⟨hm, -⟩ := single_mark b (by rw [h1])
    have h0 : (0 : Int) < ((bs ([b] ++ r)).size : Int) := by rw [bs_size, List.length_append, List.length_singleton]; omega
    have hb : bt (bs ([b] ++ r)) 0 = (b.toNat : Int) := bt_bs0 _
    have hb2 := b.toNat_lt
    have hs : token_single.f (b.toNat : Int) = some (k, true) := by
      unfold token_single.f
      rw [if_pos (by omega), h1]
    refine Ev.congr (f := fun _ => some (k, bs [b], 1, 0, 1, 0, 0)) (fun j => ?_) (Ev.now _)
    unfold token_first.f
    have hbn : token_begun.f j (bs ([b] ++ r)) = _ := begun_none j b r hm
    rw [hbn, Option.bind_some, if_neg (by simp), if_pos h0, hb, hs, Option.bind_some, if_pos rfl, if_pos (by omega), if_pos (by omega), bs_ext]
    rfl
  | word w _ _ _ h1 h2 =>
    have hlen : pre.length = w.size := by
      have := congrArg List.length h2
      unfold sm at this
      rw [List.length_map, List.length_map, ← Lib.size_eq] at this; exact this
    have hw := lettered_word w k pre r h1 h2 hl
    obtain ⟨b, q, hq⟩ : ∃ b q, pre = b :: q := by
      cases pre with
      | nil => rcases h1 with ⟨rfl, _⟩ | ⟨rfl, _⟩ | ⟨rfl, _⟩ <;> simp [wAm, wA, wGen, ByteArray.size] at hlen
      | cons b q => exact ⟨b, q, rfl⟩
    have hsb : smallN b.toNat = 97 ∨ smallN b.toNat = 103 := by
      rw [hq] at h2
      rcases h1 with ⟨rfl, _⟩ | ⟨rfl, _⟩ | ⟨rfl, _⟩
      · exact .inl (List.cons.inj h2).1
      · exact .inl (List.cons.inj h2).1
      · exact .inr (List.cons.inj h2).1
    obtain ⟨hm, hs, -⟩ := letter_mark b (by omega)
    have hz : 0 < w.size := by rcases h1 with ⟨rfl, _⟩ | ⟨rfl, _⟩ | ⟨rfl, _⟩ <;> decide
    have ebs : bs w.data.toList = w := by unfold bs; simp
    rw [hlen, ebs]
    subst hq
    refine first_more b (q ++ r) hm hs _ _ hw ?_
    rw [if_pos (by show (w.size : Int) > 0; omega)]
  | power b s _ h1 h2 =>
    obtain ⟨hm, hs, -⟩ := letter_mark b (by omega)
    refine first_more b (s :: r) hm hs _ _ (lettered_power b s r h1 h2 hl) ?_
    rw [if_pos (by show (2 : Int) > 0; omega)]; rfl
  | date c' b p _ h1 h2 h3 h4 =>
    obtain ⟨hm, hs, -⟩ := letter_mark b (by rw [h2]; exact .inl h1)
    refine first_more b (p ++ r) hm hs _ _ (lettered_date c' b p r h1 h2 h3 h4 hl) ?_
    rw [if_pos (by show (p.length : Int) + 1 > 0; omega)]
    have e1 : ((b :: p).length : Int) = (p.length : Int) + 1 := by simp
    rw [e1]
  | plain v _ h1 h2 =>
    obtain ⟨b, q, hbq, hc⟩ := encU_head v h1
    have hst : Still b := by
      rcases hc with ⟨c1, c2, c3⟩ | ⟨c1, c2⟩
      · have : u8 v = b := (u8_of b v c2).symm
        exact (plain_still b (by rw [← this]; exact h2.resolve_left (by omega))).1
      · exact big_still b (by omega)
    have hlb := enc_len_bd v
    have hel := enc_len v
    have hcons : encU v ++ r = b :: (q ++ r) := by rw [hbq]; rfl
    have hF : runes_First.f (bs (b :: (q ++ r))) = some (v, widthI v, true) := by
      rw [← hcons, First_bs _ hl, fL_enc v h1]
    have hb : bt (bs (b :: (q ++ r))) 0 = (b.toNat : Int) := bt_bs0 _
    have hx : (bs (b :: (q ++ r))).extract 0 (widthI v : Int).toNat = bs (encU v) := by
      rw [← hel, Int.toNat_natCast, bs_ext, ← hcons, List.drop_zero, Nat.sub_zero, List.take_left]
    have hsz : widthI v ≤ ((bs (b :: (q ++ r))).size : Int) := by rw [bs_size, ← hcons, List.length_append]; omega
    rw [hcons] at hl ⊢
    rw [hel]
    refine first_more b (q ++ r) hst.1 hst.2.1 _ _ (still_none hst _ hl) ?_
    rw [if_neg (by simp), hF, Option.bind_some, if_pos rfl, hb]
    show (if (b.toNat : Int) < 128 then _ else (if 0 ≤ widthI v then (if widthI v ≤ _ then _ else _) else _)) = _
    rcases hc with ⟨c1, c2, c3⟩ | ⟨c1, c2⟩
    · have hu : u8 v = b := (u8_of b v c2).symm
      obtain ⟨i, hi, hneg⟩ := plain_index b
      have hmem : b ∈ plainsL := by rw [← hu]; exact h2.resolve_left (by omega)
      rw [if_pos (by omega), hi, Option.bind_some, if_neg (fun h => (hneg.1 h) hmem), if_pos (by show 0 ≤ widthI v; omega), if_pos (by exact hsz)]
      show some (17, (bs (b :: (q ++ r))).extract 0 (widthI v : Int).toNat, 1, 0, widthI v, 0, 0) = _
      rw [hx]
    · rw [if_neg (by omega), if_pos (by omega), if_pos hsz, hx]
theorem first_bad (l : List UInt8) (n : Nat) (e : Int) (h : Bad l n e) (hl : l.length ≤ 4096) : Ev (fun j => token_first.f j (bs l)) (bad7 n e) := by
  cases h with
  | open_ a z k _ vs h1 h2 => exact first_begun (begun_ends a z k e h1 _ _ (closed_end a z (ends_z h1) k e vs h2 hl))
  | inUtf a z k e' vs r h1 h2 h3 h4 => exact first_begun (begun_ends a z k e' h1 _ _ (closed_utf a z (ends_z h1) k e' vs r h2 h3 h4 hl))
  | markEnd b k _ h1 =>
    refine first_begun (Ev.congr (f := fun _ => some (w8 (bad7 1 e))) (fun j => ?_) (Ev.now _))
    exact begun_mark b k e h1 [] _ (marked_end b k e) j
  | markUtf b k e' r h1 h2 h3 =>
    refine first_begun (Ev.congr (f := fun _ => some (w8 (bad7 1 4))) (fun j => ?_) (Ev.now _))
    exact begun_mark b k e' h1 r _ (marked_utf b r k e' h2 h3 hl) j
  | utf _ h1 h2 =>
    obtain ⟨b, q, rfl⟩ : ∃ b q, l = b :: q := by cases l with | nil => exact absurd rfl h1 | cons b q => exact ⟨b, q, rfl⟩
    have hst := big_still b (fL_bad_head b q h2)
    refine first_more b q hst.1 hst.2.1 _ _ (still_none hst _ hl) ?_
    rw [if_neg (by simp), First_bs _ hl, h2, Option.bind_some, if_neg (by simp)]; rfl
  | sign b r h1 h2 h3 h4 h5 h6 h7 h8 h9 h10 h11 =>
    obtain ⟨i, hi, hneg⟩ := plain_index b
    have hb : bt (bs (b :: r)) 0 = (b.toNat : Int) := bt_bs0 _
    refine first_more b r ⟨h2, h3, h4, h5, h6⟩ h7 _ _ (lettered_none b r h10 h11 h8 hl) ?_
    rw [if_neg (by simp), First_bs _ hl, fL_small b r h1, Option.bind_some, if_pos rfl, hb, if_pos (by omega), hi, Option.bind_some, if_pos (hneg.2 h9)]; rfl
end Go.Proofs.YtpefkehcibdjgaaDoor.T
