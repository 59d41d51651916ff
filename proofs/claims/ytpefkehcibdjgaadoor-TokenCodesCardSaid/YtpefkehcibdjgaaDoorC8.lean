/- Proved here: token.All tells all tokens of a code, or where it is wrong, as the plain relations do; each code is the one or the other. -/
import Derived.Test.YtpefkehcibdjgaaDoorQTcdx5
import Derived.Test.YtpefkehcibdjgaaDoorCM
set_option linter.unusedVariables false
namespace Go.Proofs.YtpefkehcibdjgaaDoor.T
open Go.RowKit Go.Proofs.YtpefkehcibdjgaaDoor.QTcd Go.Proofs.YtpefkehcibdjgaaDoorW.PrintLast Go.Proofs.YtpefkehcibdjgaaDoorW.PrintMore Go.Proofs.YtpefkehcibdjgaaDoor.H Go.Proofs.YtpefkehcibdjgaaDoor.R Go.Lib
open Go.Proofs.YtpefkehcibdjgaaDoorW.PrintWords hiding encs
/-- the tokens of a code, the first at p -/
inductive Code : Nat → List UInt8 → List S31 → Prop
  | nil (p : Nat) : Code p [] []
  | cons (p : Nat) (pre r : List UInt8) (k : Int) (t : List UInt8) (c : Int) (ts : List S31) : Tk pre r k t c → Code (p + pre.length) r ts → Code p (pre ++ r) (⟨k, bs t, c, p⟩ :: ts)
/-- a code is wrong: where, why -/
inductive CBad : Nat → List UInt8 → Nat → Int → Prop
  | here (p : Nat) (l : List UInt8) (n : Nat) (e : Int) : Bad l n e → CBad p l (p + n) e
  | cons (p : Nat) (pre r : List UInt8) (k : Int) (t : List UInt8) (c : Int) (a : Nat) (e : Int) : Tk pre r k t c → CBad (p + pre.length) r a e → CBad p (pre ++ r) a e
theorem Bad.ne {l : List UInt8} {n : Nat} {e : Int} (h : Bad l n e) : l ≠ [] ∧ e ≠ 0 := by
  cases h with
  | open_ a z k _ vs h1 h2 => exact ⟨by simp, by rcases h1 with ⟨_, _, _, rfl⟩ | ⟨_, _, _, rfl⟩ <;> omega⟩
  | inUtf a z k e' vs r h1 h2 h3 h4 => exact ⟨by simp, by omega⟩
  | markEnd b k _ h1 => exact ⟨by simp, by rcases h1 with ⟨_, _, rfl⟩ | ⟨_, _, rfl⟩ | ⟨_, _, rfl⟩ <;> omega⟩
  | markUtf b k e' r h1 h2 h3 => exact ⟨by simp, by omega⟩
  | utf _ h1 h2 => exact ⟨h1, by omega⟩
  | sign b r h1 h2 h3 h4 h5 h6 h7 h8 h9 h10 h11 => exact ⟨by simp, by omega⟩
theorem all_loop (l : List UInt8) (hl : l.length ≤ 4096) {p : Nat} {r : List UInt8} {ts : List S31} (h : Code p r ts) : ∀ acc : List S31, l.drop p = r → p ≤ l.length → acc.length ≤ p → Ev (fun k => token_All.l0 k (bs l) acc p) (acc ++ ts, (l.length : Int), 0) := by
  induction h with
  | nil p =>
    intro acc hd hp ha
    have : p = l.length := by
      have := congrArg List.length hd
      rw [List.length_drop] at this
      simp at this; omega
    refine Ev.step (f := fun _ => some (acc, (l.length : Int), 0)) (fun k => ?_) ?_
    · show token_All.l0 (k + 1) (bs l) acc p = _
      rw [token_All.l0, if_neg (by rw [bs_size]; omega), bs_size]
    · rw [List.append_nil]; exact Ev.now _
  | cons p pre r k t c ts ht hc ih =>
    intro acc hd hp ha
    have hpos : 0 < pre.length := List.length_pos_iff.2 ht.ne
    have hlen : l.length - p = pre.length + r.length := by
      have := congrArg List.length hd
      rw [List.length_drop, List.length_append] at this; exact this
    have hd2 : l.drop (p + pre.length) = r := by rw [← List.drop_drop, hd, List.drop_left]
    have hE := first_ok pre r k t c ht (by rw [List.length_append]; omega)
    have ih2 := ih (acc ++ [⟨k, bs t, c, p⟩]) hd2 (by omega) (by rw [List.length_append, List.length_singleton]; omega)
    rw [List.append_assoc] at ih2
    refine Ev.step (f := fun j => (token_first.f j (bs (pre ++ r))).bind fun bt184 => (if bt184.2.2.2.2.2.2 = 0 then (if acc.length < 3518437208883 then (token_All.l0 j (bs l) (acc ++ [(⟨bt184.1, bt184.2.1, bt184.2.2.1, (p : Int)⟩ : S31)]) (wrap64 ((p : Int) + bt184.2.2.2.2.1))) else (none)) else (some (([] : List (S31)), wrap64 ((p : Int) + bt184.2.2.2.2.2.1), bt184.2.2.2.2.2.2)))) (fun j => ?_) ?_
    · show token_All.l0 (j + 1) (bs l) acc p = _
      rw [token_All.l0, if_pos (by rw [bs_size]; omega), if_pos (by omega), if_pos (by rw [bs_size]; omega), Int.toNat_natCast, bs_from, hd]
    · refine Ev.bind hE (Ev.congr (fun j => ?_) ih2)
      rw [if_pos rfl, if_pos (by omega)]
      show token_All.l0 j (bs l) (acc ++ [⟨k, bs t, c, (p : Int)⟩]) (wrap64 ((p : Int) + (pre.length : Int))) = _
      rw [w64q _ (by omega) (by omega)]; rfl
theorem bad_loop (l : List UInt8) (hl : l.length ≤ 4096) {p : Nat} {r : List UInt8} {a : Nat} {e : Int} (h : CBad p r a e) : ∀ acc : List S31, l.drop p = r → p ≤ l.length → acc.length ≤ p → Ev (fun k => token_All.l0 k (bs l) acc p) ([], (a : Int), e) := by
  induction h with
  | here p r n e hb =>
    intro acc hd hp ha
    have hlen : l.length - p = r.length := by
      have := congrArg List.length hd
      rw [List.length_drop] at this; exact this
    have hpos : 0 < r.length := List.length_pos_iff.2 hb.ne.1
    have hn : n ≤ 4097 := by
      cases hb with
      | open_ a z k _ vs h1 h2 => simp at hlen; omega
      | inUtf a z k e' vs r' h1 h2 h3 h4 => simp at hlen; omega
      | markEnd b k _ h1 => omega
      | markUtf b k e' r' h1 h2 h3 => omega
      | utf _ h1 h2 => omega
      | sign b r' h1 h2 h3 h4 h5 h6 h7 h8 h9 h10 h11 => omega
    have hE := first_bad r n e hb (by omega)
    refine Ev.step (f := fun j => (token_first.f j (bs r)).bind fun bt184 => (if bt184.2.2.2.2.2.2 = 0 then (if acc.length < 3518437208883 then (token_All.l0 j (bs l) (acc ++ [(⟨bt184.1, bt184.2.1, bt184.2.2.1, (p : Int)⟩ : S31)]) (wrap64 ((p : Int) + bt184.2.2.2.2.1))) else (none)) else (some (([] : List (S31)), wrap64 ((p : Int) + bt184.2.2.2.2.2.1), bt184.2.2.2.2.2.2)))) (fun j => ?_) ?_
    · show token_All.l0 (j + 1) (bs l) acc p = _
      rw [token_All.l0, if_pos (by rw [bs_size]; omega), if_pos (by omega), if_pos (by rw [bs_size]; omega), Int.toNat_natCast, bs_from, hd]
    · refine Ev.bind hE (Ev.congr (f := fun _ => some ([], ((p + n : Nat) : Int), e)) (fun j => ?_) (Ev.now _))
      have he := hb.ne.2
      unfold bad7
      rw [if_neg he]
      show some (([] : List S31), wrap64 ((p : Int) + (n : Int)), e) = _
      rw [w64q _ (by omega) (by omega)]; rfl
  | cons p pre r k t c a e ht hc ih =>
    intro acc hd hp ha
    have hpos : 0 < pre.length := List.length_pos_iff.2 ht.ne
    have hlen : l.length - p = pre.length + r.length := by
      have := congrArg List.length hd
      rw [List.length_drop, List.length_append] at this; exact this
    have hd2 : l.drop (p + pre.length) = r := by rw [← List.drop_drop, hd, List.drop_left]
    have hE := first_ok pre r k t c ht (by rw [List.length_append]; omega)
    have ih2 := ih (acc ++ [⟨k, bs t, c, p⟩]) hd2 (by omega) (by rw [List.length_append, List.length_singleton]; omega)
    refine Ev.step (f := fun j => (token_first.f j (bs (pre ++ r))).bind fun bt184 => (if bt184.2.2.2.2.2.2 = 0 then (if acc.length < 3518437208883 then (token_All.l0 j (bs l) (acc ++ [(⟨bt184.1, bt184.2.1, bt184.2.2.1, (p : Int)⟩ : S31)]) (wrap64 ((p : Int) + bt184.2.2.2.2.1))) else (none)) else (some (([] : List (S31)), wrap64 ((p : Int) + bt184.2.2.2.2.2.1), bt184.2.2.2.2.2.2)))) (fun j => ?_) ?_
    · show token_All.l0 (j + 1) (bs l) acc p = _
      rw [token_All.l0, if_pos (by rw [bs_size]; omega), if_pos (by omega), if_pos (by rw [bs_size]; omega), Int.toNat_natCast, bs_from, hd]
    · refine Ev.bind hE (Ev.congr (fun j => ?_) ih2)
      rw [if_pos rfl, if_pos (by omega)]
      show token_All.l0 j (bs l) (acc ++ [⟨k, bs t, c, (p : Int)⟩]) (wrap64 ((p : Int) + (pre.length : Int))) = _
      rw [w64q _ (by omega) (by omega)]; rfl
theorem all_code (l : List UInt8) (hl : l.length ≤ 4096) (ts : List S31) (h : Code 0 l ts) : Ev (fun k => token_All.f k (bs l)) (ts, (l.length : Int), 0) := by
  refine Ev.congr (fun k => ?_) (all_loop l hl h [] (by rw [List.drop_zero]) (Nat.zero_le _) (Nat.le_refl _))
  unfold token_All.f
  rw [if_neg (by rw [bs_size]; omega)]; rfl
theorem all_bad (l : List UInt8) (hl : l.length ≤ 4096) (a : Nat) (e : Int) (h : CBad 0 l a e) : Ev (fun k => token_All.f k (bs l)) ([], (a : Int), e) := by
  refine Ev.congr (fun k => ?_) (bad_loop l hl h [] (by rw [List.drop_zero]) (Nat.zero_le _) (Nat.le_refl _))
  unfold token_All.f
  rw [if_neg (by rw [bs_size]; omega)]; rfl
theorem span (c : Nat) : ∀ q : List UInt8, ∃ pre r, q = pre ++ r ∧ (∀ x ∈ pre, smallN x.toNat = c) ∧ (∀ x r', r = x :: r' → smallN x.toNat ≠ c)
  | [] => ⟨[], [], rfl, by simp, by simp⟩
  | b :: q => by
    by_cases h : smallN b.toNat = c
    · obtain ⟨pre, r, h1, h2, h3⟩ := span c q
      refine ⟨b :: pre, r, by rw [h1]; rfl, ?_, h3⟩
      intro x hx
      rcases List.mem_cons.1 hx with rfl | hx
      · exact h
      · exact h2 x hx
    · refine ⟨[], b :: q, rfl, by simp, ?_⟩
      rintro x r' he
      obtain ⟨rfl, rfl⟩ := List.cons.inj he
      exact h
/-- each text begins with a token, or with none -/
theorem tk_total (l : List UInt8) (hne : l ≠ []) : (∃ pre r k t c, l = pre ++ r ∧ Tk pre r k t c) ∨ (∃ n e, Bad l n e) := by
  obtain ⟨b, q, rfl⟩ : ∃ b q, l = b :: q := by cases l with | nil => exact absurd rfl hne | cons b q => exact ⟨b, q, rfl⟩
  have ends : ∀ z k e, isEnds b z k e → (∃ pre r k t c, b :: q = pre ++ r ∧ Tk pre r k t c) ∨ (∃ n e, Bad (b :: q) n e) := by
    intro z k e he
    obtain ⟨vs, r, h1, h2, h3⟩ := scan z (ends_z he) q.length q (Nat.le_refl _)
    rcases h3 with rfl | ⟨r', rfl⟩ | ⟨hr, hf⟩
    · rw [List.append_nil] at h1; subst h1
      exact .inr ⟨_, _, .open_ b z k e vs he h2⟩
    · subst h1
      exact .inl ⟨b :: (encs vs ++ [z]), r', _, _, _, by simp, .ends b z k e vs r' he h2⟩
    · subst h1
      exact .inr ⟨_, _, .inUtf b z k e vs r he h2 hr hf⟩
  have mark : ∀ k e, isMark b k e → (∃ pre r k t c, b :: q = pre ++ r ∧ Tk pre r k t c) ∨ (∃ n e, Bad (b :: q) n e) := by
    intro k e he
    by_cases hq : q = []
    · subst hq; exact .inr ⟨_, _, .markEnd b k e he⟩
    · rcases fL_cases q with ⟨v, r, hv, hr, -⟩ | hf
      · subst hr; exact .inl ⟨b :: encU v, r, _, _, _, rfl, .mark b k e v r he hv⟩
      · exact .inr ⟨_, _, .markUtf b k e q he hq hf⟩
  by_cases c1 : b = 34
  · exact ends 34 1 5 (.inl ⟨c1, rfl, rfl, rfl⟩)
  by_cases c2 : b = 91
  · exact ends 93 5 7 (.inr ⟨c2, rfl, rfl, rfl⟩)
  by_cases c3 : b = 92
  · exact mark 2 6 (.inl ⟨c3, rfl, rfl⟩)
  by_cases c4 : b = 95
  · exact mark 3 8 (.inr (.inl ⟨c4, rfl, rfl⟩))
  by_cases c5 : b = 42
  · exact mark 4 8 (.inr (.inr ⟨c5, rfl, rfl⟩))
  cases hs : (singleP b.toNat).2 with
  | true => exact .inl ⟨[b], q, (singleP b.toNat).1, [b], 1, rfl, .single b _ q (by rw [← hs])⟩
  | false =>
  by_cases hw : ∃ w k, isWord w k ∧ sm ((b :: q).take w.size) = sm w.data.toList
  · obtain ⟨w, k, h1, h2⟩ := hw
    exact .inl ⟨(b :: q).take w.size, (b :: q).drop w.size, k, w.data.toList, 1, (List.take_append_drop _ _).symm, .word w k _ _ h1 h2⟩
  by_cases hl : isLet (smallN b.toNat)
  · obtain ⟨pre, r, h1, h2, h3⟩ := span (smallN b.toNat) q
    have hlt : smallN b.toNat < 256 := by have := b.toNat_lt; unfold smallN; split <;> omega
    have hc : (UInt8.ofNat (smallN b.toNat)).toNat = smallN b.toNat := by rw [UInt8.toNat_ofNat']; omega
    subst h1
    exact .inl ⟨b :: pre, r, 14, [UInt8.ofNat (smallN b.toNat)], _, rfl, .date _ b pre r (by rw [hc]; exact hl) hc.symm (by rw [hc]; exact h2) (by rw [hc]; exact h3)⟩
  by_cases hp : smallN b.toNat = 101 ∧ ∃ x r', q = x :: r' ∧ (x = 43 ∨ x = 45)
  · obtain ⟨h1, x, r', rfl, h2⟩ := hp
    exact .inl ⟨[b, x], r', 13, [x], 1, rfl, .power b x r' h1 h2⟩
  rcases fL_cases (b :: q) with ⟨v, r, hv, hr, hf⟩ | hf
  · obtain ⟨b', t, hb', hc⟩ := encU_head v hv
    have hbb : b' = b := by rw [hb'] at hr; exact (List.cons.inj hr).1.symm
    subst hbb
    rcases hc with ⟨e1, e2, e3⟩ | ⟨e1, e2⟩
    · by_cases hpl : b' ∈ plainsL
      · rw [hr]
        exact .inl ⟨encU v, r, _, _, _, rfl, .plain v r hv (.inr (by rw [← u8_of b' v e2]; exact hpl))⟩
      · refine .inr ⟨_, _, .sign b' q (by omega) c1 c3 c4 c5 c2 hs hl hpl (fun w k h1 h2 => hw ⟨w, k, h1, h2⟩) (fun h1 x r' h2 => ?_)⟩
        exact ⟨fun h => hp ⟨h1, x, r', h2, .inl h⟩, fun h => hp ⟨h1, x, r', h2, .inr h⟩⟩
    · rw [hr]
      exact .inl ⟨encU v, r, _, _, _, rfl, .plain v r hv (.inl e1)⟩
  · exact .inr ⟨_, _, .utf _ (by simp) hf⟩
theorem code_total (n : Nat) : ∀ (l : List UInt8) (p : Nat), l.length ≤ n → (∃ ts, Code p l ts) ∨ (∃ a e, CBad p l a e) := by
  induction n with
  | zero =>
    intro l p hl
    obtain rfl := List.length_eq_zero_iff.1 (by omega : l.length = 0)
    exact .inl ⟨[], .nil p⟩
  | succ n ih =>
    intro l p hl
    by_cases h0 : l = []
    · subst h0; exact .inl ⟨[], .nil p⟩
    · rcases tk_total l h0 with ⟨pre, r, k, t, c, rfl, ht⟩ | ⟨m, e, hb⟩
      · have hpos : 0 < pre.length := List.length_pos_iff.2 ht.ne
        rw [List.length_append] at hl
        rcases ih r (p + pre.length) (by omega) with ⟨ts, h⟩ | ⟨a, e, h⟩
        · exact .inl ⟨_, .cons p pre r k t c ts ht h⟩
        · exact .inr ⟨a, e, .cons p pre r k t c a e ht h⟩
      · exact .inr ⟨_, _, .here p l m e hb⟩
theorem CBad.ne {p : Nat} {l : List UInt8} {a : Nat} {e : Int} (h : CBad p l a e) : e ≠ 0 := by
  induction h with
  | here p l n e hb => exact hb.ne.2
  | cons p pre r k t c a e ht hc ih => exact ih
/-- some answer -/
theorem all_some (l : List UInt8) (hl : l.length ≤ 4096) : ∃ r, Ev (fun k => token_All.f k (bs l)) r ∧ ((∃ ts, Code 0 l ts) → r.2.2 = 0) ∧ ((∃ a e, CBad 0 l a e) → r.2.2 ≠ 0) := by
  by_cases h : ∃ ts, Code 0 l ts
  · obtain ⟨ts, h⟩ := h
    refine ⟨_, all_code l hl ts h, fun _ => rfl, fun ⟨a, e, hb⟩ => ?_⟩
    obtain ⟨K1, h1⟩ := all_code l hl ts h
    obtain ⟨K2, h2⟩ := all_bad l hl a e hb
    have e1 := h1 (K1 + K2) (by omega)
    have e2 := h2 (K1 + K2) (by omega)
    rw [e1] at e2
    have := congrArg (fun x => x.2.2) (Option.some.inj e2)
    exact fun _ => hb.ne this.symm
  · rcases code_total l.length l 0 (Nat.le_refl _) with hc | ⟨a, e, hb⟩
    · exact absurd hc h
    · exact ⟨_, all_bad l hl a e hb, fun hc => absurd hc h, fun _ => hb.ne⟩
end Go.Proofs.YtpefkehcibdjgaaDoor.T
