/- Proved here: token.first tells each token, and where there is none; each text begins with a token, or with none. -/
import Derived.Test.YtpefkehcibdjgaaDoorJ6
set_option linter.unusedVariables false
namespace Go.Proofs.YtpefkehcibdjgaaDoor.T
open Go.RowKit Go.Proofs.YtpefkehcibdjgaaDoor.QTjn Go.Proofs.YtpefkehcibdjgaaDoorW.PrintLast Go.Proofs.YtpefkehcibdjgaaDoorW.PrintMore Go.Proofs.YtpefkehcibdjgaaDoor.H Go.Proofs.YtpefkehcibdjgaaDoor.R Go.Lib
open Go.Proofs.YtpefkehcibdjgaaDoorW.PrintWords hiding encs
instance (c : Nat) : Decidable (isLet c) := by unfold isLet; infer_instance
instance (b : UInt8) : Decidable (NoMark b) := by unfold NoMark; infer_instance
/-- a byte with which no token of letters, no single sign, no mark begins -/
def Still (b : UInt8) : Prop := NoMark b ∧ (singleP b.toNat).2 = false ∧ ¬ isLet (smallN b.toNat) ∧ smallN b.toNat ≠ 97 ∧ smallN b.toNat ≠ 103 ∧ smallN b.toNat ≠ 101
instance (b : UInt8) : Decidable (Still b) := by unfold Still; infer_instance
theorem plain_still (b : UInt8) (h : b ∈ plainsL) : Still b ∧ b.toNat < 128 := by
  have key : ∀ c : Nat, c < 256 → UInt8.ofNat c ∈ plainsL → Still (UInt8.ofNat c) ∧ (UInt8.ofNat c).toNat < 128 := by decide +kernel
  have := key b.toNat b.toNat_lt
  rw [UInt8.ofNat_toNat] at this
  exact this h
theorem big_still (b : UInt8) (h : 128 ≤ b.toNat) : Still b := by
  have key : ∀ c : Nat, c < 256 → 128 ≤ (UInt8.ofNat c).toNat → Still (UInt8.ofNat c) := by decide +kernel
  have := key b.toNat b.toNat_lt
  rw [UInt8.ofNat_toNat] at this
  exact this h
theorem single_mark (b : UInt8) (h : (singleP b.toNat).2 = true) : NoMark b ∧ ¬ isLet (smallN b.toNat) ∧ smallN b.toNat ≠ 97 ∧ smallN b.toNat ≠ 103 ∧ smallN b.toNat ≠ 101 ∧ b.toNat < 128 := by
  have key : ∀ c : Nat, c < 256 → (singleP (UInt8.ofNat c).toNat).2 = true → NoMark (UInt8.ofNat c) ∧ ¬ isLet (smallN (UInt8.ofNat c).toNat) ∧ smallN (UInt8.ofNat c).toNat ≠ 97 ∧ smallN (UInt8.ofNat c).toNat ≠ 103 ∧ smallN (UInt8.ofNat c).toNat ≠ 101 ∧ (UInt8.ofNat c).toNat < 128 := by decide +kernel
  have := key b.toNat b.toNat_lt
  rw [UInt8.ofNat_toNat] at this
  exact this h
theorem letter_mark (b : UInt8) (h : isLet (smallN b.toNat) ∨ smallN b.toNat = 97 ∨ smallN b.toNat = 103 ∨ smallN b.toNat = 101) : NoMark b ∧ (singleP b.toNat).2 = false ∧ b.toNat < 128 := by
  have key : ∀ c : Nat, c < 256 → (isLet (smallN (UInt8.ofNat c).toNat) ∨ smallN (UInt8.ofNat c).toNat = 97 ∨ smallN (UInt8.ofNat c).toNat = 103 ∨ smallN (UInt8.ofNat c).toNat = 101) → NoMark (UInt8.ofNat c) ∧ (singleP (UInt8.ofNat c).toNat).2 = false ∧ (UInt8.ofNat c).toNat < 128 := by decide +kernel
  have := key b.toNat b.toNat_lt
  rw [UInt8.ofNat_toNat] at this
  exact this h
theorem still_words {b : UInt8} (h : Still b) (q : List UInt8) : ∀ w k, isWord w k → ¬ sm ((b :: q).take w.size) = sm w.data.toList := by
  obtain ⟨n1, n2, n3⟩ := no_words b q h.2.2.2.1 h.2.2.2.2.1
  rintro w k (⟨rfl, _⟩ | ⟨rfl, _⟩ | ⟨rfl, _⟩)
  · exact n1
  · exact n2
  · exact n3
theorem still_none {b : UInt8} (h : Still b) (q : List UInt8) (hl : (b :: q).length ≤ 4096) : Ev (fun j => token_lettered.f j (bs (b :: q))) (0, (⟨#[]⟩ : ByteArray), 0, 0, 0) :=
  lettered_none b q (still_words h q) (fun e => absurd e h.2.2.2.2.2) h.2.2.1 hl
theorem ends_z {a z : UInt8} {k e : Int} (h : isEnds a z k e) : z.toNat < 128 := by
  rcases h with ⟨_, rfl, _⟩ | ⟨_, rfl, _⟩ <;> decide
theorem first_ok (pre r : List UInt8) (k : Int) (t : List UInt8) (c : Int) (h : Tk pre r k t c) (hl : (pre ++ r).length ≤ 4096) : Ev (fun j => token_first.f j (bs (pre ++ r))) (k, bs t, c, 0, (pre.length : Int), 0, 0) := by
  cases h with
  | ends a z _ e vs _ h1 h2 =>
    have hg := closed_good a z (ends_z h1) k e vs r h2 hl
    have e1 : ((a :: (encs vs ++ [z])).length : Int) = ((encs vs).length : Int) + 2 := by simp; omega
    rw [e1]
    exact first_begun (begun_ends a z k e h1 _ _ hg)
  | mark b _ e v _ h1 h2 =>
    have hg := marked_good b v h2 r k e hl
    have e1 : ((b :: encU v).length : Int) = ((encU v).length : Int) + 1 := by simp
    rw [e1]
    refine first_begun (Ev.congr (f := fun _ => some (w8 (k, bs (encU v), 0, 0, ((encU v).length : Int) + 1, 0, 0))) (fun j => ?_) (Ev.now _))
    exact begun_mark b k e h1 (encU v ++ r) _ hg j
  | single b _ _ h1 =>
    obtain ⟨hm, -⟩ := single_mark b (by rw [h1])
    have h0 : (0 : Int) < ((bs ([b] ++ r)).size : Int) := by rw [bs_size, List.length_append, List.length_singleton]; omega
    have hb : bt (bs ([b] ++ r)) 0 = (b.toNat : Int) := bt_bs0 _
    have hb2 := b.toNat_lt
    have hs : token_single.f (b.toNat : Int) = some (k, true) := by
      unfold token_single.f
      rw [if_pos (by omega), h1]
    refine Ev.congr (f := fun _ => some (k, bs [b], 1, 0, 1, 0, 0)) (fun j => ?_) (Ev.now _)
    unfold token_first.f
    have hbn : token_begun.f j (bs ([b] ++ r)) = _ := begun_none j b r hm
    rw [hbn, Option.bind_some, if_neg (by simp), if_pos h0, hb, hs, Option.bind_some, if_pos rfl, if_pos (by omega), if_pos (by omega), bs_ext]
    rfl
  | word w _ _ _ h1 h2 =>
    have hlen : pre.length = w.size := by
      have := congrArg List.length h2
      unfold sm at this
      rw [List.length_map, List.length_map, ← Lib.size_eq] at this; exact this
    have hw := lettered_word w k pre r h1 h2 hl
    obtain ⟨b, q, hq⟩ : ∃ b q, pre = b :: q := by
      cases pre with
      | nil => rcases h1 with ⟨rfl, _⟩ | ⟨rfl, _⟩ | ⟨rfl, _⟩ <;> simp [wAm, wA, wGen, ByteArray.size] at hlen
      | cons b q => exact ⟨b, q, rfl⟩
    have hsb : smallN b.toNat = 97 ∨ smallN b.toNat = 103 := by
      rw [hq] at h2
      rcases h1 with ⟨rfl, _⟩ | ⟨rfl, _⟩ | ⟨rfl, _⟩
      · exact .inl (List.cons.inj h2).1
      · exact .inl (List.cons.inj h2).1
      · exact .inr (List.cons.inj h2).1
    obtain ⟨hm, hs, -⟩ := letter_mark b (by omega)
    have hz : 0 < w.size := by rcases h1 with ⟨rfl, _⟩ | ⟨rfl, _⟩ | ⟨rfl, _⟩ <;> decide
    have ebs : bs w.data.toList = w := by unfold bs; simp
    rw [hlen, ebs]
    subst hq
    refine first_more b (q ++ r) hm hs _ _ hw ?_
    rw [if_pos (by show (w.size : Int) > 0; omega)]
  | power b s _ h1 h2 =>
    obtain ⟨hm, hs, -⟩ := letter_mark b (by omega)
    refine first_more b (s :: r) hm hs _ _ (lettered_power b s r h1 h2 hl) ?_
    rw [if_pos (by show (2 : Int) > 0; omega)]; rfl
  | date c' b p _ h1 h2 h3 h4 =>
    obtain ⟨hm, hs, -⟩ := letter_mark b (by rw [h2]; exact .inl h1)
    refine first_more b (p ++ r) hm hs _ _ (lettered_date c' b p r h1 h2 h3 h4 hl) ?_
    rw [if_pos (by show (p.length : Int) + 1 > 0; omega)]
    have e1 : ((b :: p).length : Int) = (p.length : Int) + 1 := by simp
    rw [e1]
  | plain v _ h1 h2 =>
    obtain ⟨b, q, hbq, hc⟩ := encU_head v h1
    have hst : Still b := by
      rcases hc with ⟨c1, c2, c3⟩ | ⟨c1, c2⟩
      · have : u8 v = b := (u8_of b v c2).symm
        exact (plain_still b (by rw [← this]; exact h2.resolve_left (by omega))).1
      · exact big_still b (by omega)
    have hlb := enc_len_bd v
    have hel := enc_len v
    have hcons : encU v ++ r = b :: (q ++ r) := by rw [hbq]; rfl
    have hF : runes_First.f (bs (b :: (q ++ r))) = some (v, widthI v, true) := by
      rw [← hcons, First_bs _ hl, fL_enc v h1]
    have hb : bt (bs (b :: (q ++ r))) 0 = (b.toNat : Int) := bt_bs0 _
    have hx : (bs (b :: (q ++ r))).extract 0 (widthI v : Int).toNat = bs (encU v) := by
      rw [← hel, Int.toNat_natCast, bs_ext, ← hcons, List.drop_zero, Nat.sub_zero, List.take_left]
    have hsz : widthI v ≤ ((bs (b :: (q ++ r))).size : Int) := by rw [bs_size, ← hcons, List.length_append]; omega
    rw [hcons] at hl ⊢
    rw [hel]
    refine first_more b (q ++ r) hst.1 hst.2.1 _ _ (still_none hst _ hl) ?_
    rw [if_neg (by simp), hF, Option.bind_some, if_pos rfl, hb]
    show (if (b.toNat : Int) < 128 then _ else (if 0 ≤ widthI v then (if widthI v ≤ _ then _ else _) else _)) = _
    rcases hc with ⟨c1, c2, c3⟩ | ⟨c1, c2⟩
    · have hu : u8 v = b := (u8_of b v c2).symm
      obtain ⟨i, hi, hneg⟩ := plain_index b
      have hmem : b ∈ plainsL := by rw [← hu]; exact h2.resolve_left (by omega)
      rw [if_pos (by omega), hi, Option.bind_some, if_neg (fun h => (hneg.1 h) hmem), if_pos (by show 0 ≤ widthI v; omega), if_pos (by exact hsz)]
      show some (17, (bs (b :: (q ++ r))).extract 0 (widthI v : Int).toNat, 1, 0, widthI v, 0, 0) = _
      rw [hx]
    · rw [if_neg (by omega), if_pos (by omega), if_pos hsz, hx]
theorem first_bad (l : List UInt8) (n : Nat) (e : Int) (h : Bad l n e) (hl : l.length ≤ 4096) : Ev (fun j => token_first.f j (bs l)) (bad7 n e) := by
  cases h with
  | open_ a z k _ vs h1 h2 => exact first_begun (begun_ends a z k e h1 _ _ (closed_end a z (ends_z h1) k e vs h2 hl))
  | inUtf a z k e' vs r h1 h2 h3 h4 => exact first_begun (begun_ends a z k e' h1 _ _ (closed_utf a z (ends_z h1) k e' vs r h2 h3 h4 hl))
  | markEnd b k _ h1 =>
    refine first_begun (Ev.congr (f := fun _ => some (w8 (bad7 1 e))) (fun j => ?_) (Ev.now _))
    exact begun_mark b k e h1 [] _ (marked_end b k e) j
  | markUtf b k e' r h1 h2 h3 =>
    refine first_begun (Ev.congr (f := fun _ => some (w8 (bad7 1 4))) (fun j => ?_) (Ev.now _))
    exact begun_mark b k e' h1 r _ (marked_utf b r k e' h2 h3 hl) j
  | utf _ h1 h2 =>
    obtain ⟨b, q, rfl⟩ : ∃ b q, l = b :: q := by cases l with | nil => exact absurd rfl h1 | cons b q => exact ⟨b, q, rfl⟩
    have hst := big_still b (fL_bad_head b q h2)
    refine first_more b q hst.1 hst.2.1 _ _ (still_none hst _ hl) ?_
    rw [if_neg (by simp), First_bs _ hl, h2, Option.bind_some, if_neg (by simp)]; rfl
  | sign b r h1 h2 h3 h4 h5 h6 h7 h8 h9 h10 h11 =>
    obtain ⟨i, hi, hneg⟩ := plain_index b
    have hb : bt (bs (b :: r)) 0 = (b.toNat : Int) := bt_bs0 _
    refine first_more b r ⟨h2, h3, h4, h5, h6⟩ h7 _ _ (lettered_none b r h10 h11 h8 hl) ?_
    rw [if_neg (by simp), First_bs _ hl, fL_small b r h1, Option.bind_some, if_pos rfl, hb, if_pos (by omega), hi, Option.bind_some, if_pos (hneg.2 h9)]; rfl
end Go.Proofs.YtpefkehcibdjgaaDoor.T
