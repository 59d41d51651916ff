/- Plain facts on the parts of a format code: which bytes a token has, where a code is wrong; no program in sight. -/
import Derived.Test.YtpefkehcibdjgaaDoorR1
set_option linter.unusedVariables false
namespace Go.Proofs.YtpefkehcibdjgaaDoor.T
open Go.Proofs.YtpefkehcibdjgaaDoor.H Go.Proofs.YtpefkehcibdjgaaDoor.R Go.Lib
def bs (l : List UInt8) : ByteArray := ⟨l.toArray⟩
/-- signs alone, none of which is the number x -/
def Sgs (x : Int) (vs : List Int) : Prop := ∀ v ∈ vs, isB v = true ∧ v ≠ x
/-- the letters of dates, small -/
def isLet (c : Nat) : Prop := c = 121 ∨ c = 109 ∨ c = 100 ∨ c = 104 ∨ c = 115
/-- the signs that are tokens as they stand -/
def plainsL : List UInt8 := [36, 45, 43, 40, 41, 58, 33, 94, 38, 39, 126, 123, 125, 60, 62, 61, 32, 49, 50, 51, 52, 53, 54, 55, 56, 57]
def isMark (b : UInt8) (k e : Int) : Prop := (b = 92 ∧ k = 2 ∧ e = 6) ∨ (b = 95 ∧ k = 3 ∧ e = 8) ∨ (b = 42 ∧ k = 4 ∧ e = 8)
def isEnds (a z : UInt8) (k e : Int) : Prop := (a = 34 ∧ z = 34 ∧ k = 1 ∧ e = 5) ∨ (a = 91 ∧ z = 93 ∧ k = 5 ∧ e = 7)
def isWord (w : ByteArray) (k : Int) : Prop := (w = wAm ∧ k = 15) ∨ (w = wA ∧ k = 15) ∨ (w = wGen ∧ k = 16)
def sm (l : List UInt8) : List Nat := l.map (fun b => smallN b.toNat)
/-- a token of the bytes pre, ahead of r: kind, text, count -/
inductive Tk : List UInt8 → List UInt8 → Int → List UInt8 → Int → Prop
  | ends (a z : UInt8) (k e : Int) (vs : List Int) (r : List UInt8) : isEnds a z k e → Sgs z.toNat vs → Tk (a :: (encs vs ++ [z])) r k (encs vs) 0
  | mark (b : UInt8) (k e v : Int) (r : List UInt8) : isMark b k e → isB v = true → Tk (b :: encU v) r k (encU v) 0
  | single (b : UInt8) (k : Int) (r : List UInt8) : singleP b.toNat = (k, true) → Tk [b] r k [b] 1
  | word (w : ByteArray) (k : Int) (pre r : List UInt8) : isWord w k → sm pre = sm w.data.toList → Tk pre r k w.data.toList 1
  | power (b s : UInt8) (r : List UInt8) : smallN b.toNat = 101 → (s = 43 ∨ s = 45) → Tk [b, s] r 13 [s] 1
  | date (c : UInt8) (b : UInt8) (pre r : List UInt8) : isLet c.toNat → smallN b.toNat = c.toNat → (∀ x ∈ pre, smallN x.toNat = c.toNat) → (∀ x r', r = x :: r' → smallN x.toNat ≠ c.toNat) → Tk (b :: pre) r 14 [c] ((pre.length : Int) + 1)
  | plain (v : Int) (r : List UInt8) : isB v = true → (128 ≤ v ∨ u8 v ∈ plainsL) → Tk (encU v) r 17 (encU v) 1
/-- a text begins with no token: how far it may be one, and what is wrong -/
inductive Bad : List UInt8 → Nat → Int → Prop
  | open_ (a z : UInt8) (k e : Int) (vs : List Int) : isEnds a z k e → Sgs z.toNat vs → Bad (a :: encs vs) (1 + (encs vs).length) e
  | inUtf (a z : UInt8) (k e : Int) (vs : List Int) (r : List UInt8) : isEnds a z k e → Sgs z.toNat vs → r ≠ [] → fL r = (0, 0, false) → Bad (a :: (encs vs ++ r)) (1 + (encs vs).length) 4
  | markEnd (b : UInt8) (k e : Int) : isMark b k e → Bad [b] 1 e
  | markUtf (b : UInt8) (k e : Int) (r : List UInt8) : isMark b k e → r ≠ [] → fL r = (0, 0, false) → Bad (b :: r) 1 4
  | utf (r : List UInt8) : r ≠ [] → fL r = (0, 0, false) → Bad r 0 4
  | sign (b : UInt8) (r : List UInt8) : b.toNat < 128 → b ≠ 34 → b ≠ 92 → b ≠ 95 → b ≠ 42 → b ≠ 91 → (singleP b.toNat).2 = false → ¬ isLet (smallN b.toNat) → b ∉ plainsL →
      (∀ w k, isWord w k → ¬ sm ((b :: r).take w.size) = sm w.data.toList) → (smallN b.toNat = 101 → ∀ x r', r = x :: r' → x ≠ 43 ∧ x ≠ 45) → Bad (b :: r) 0 9
theorem encU_small (v : Int) (h : isB v = true) (hv : v < 128) : encU v = [u8 v] := enc_1 v hv
theorem encU_ne (v : Int) : encU v ≠ [] := by
  intro h
  have := (enc_len_bd v).1
  rw [h] at this
  simp at this
theorem encU_head (v : Int) (h : isB v = true) : ∃ b t, encU v = b :: t ∧ ((v < 128 ∧ (b.toNat : Int) = v ∧ t = []) ∨ (128 ≤ v ∧ 192 ≤ b.toNat)) := by
  have hb := (isB_iff v).1 h
  rcases widthI_cases v with ⟨c, e⟩ | ⟨c1, c2, e⟩ | ⟨c1, c2, e⟩ | ⟨c1, e⟩
  · exact ⟨_, _, enc_1 v c, .inl ⟨c, u8_nat v (by omega) (by omega), rfl⟩⟩
  · have := u8_nat (192 + v / 64) (by omega) (by omega)
    exact ⟨_, _, enc_2 v c1 c2, .inr ⟨c1, by omega⟩⟩
  · have := u8_nat (224 + v / 4096) (by omega) (by omega)
    exact ⟨_, _, enc_3 v c1 c2, .inr ⟨by omega, by omega⟩⟩
  · have := u8_nat (240 + v / 262144) (by omega) (by omega)
    exact ⟨_, _, enc_4 v c1, .inr ⟨by omega, by omega⟩⟩
/-- what begins with no sign begins beyond ASCII -/
theorem fL_bad_head (b : UInt8) (r : List UInt8) (h : fL (b :: r) = (0, 0, false)) : 128 ≤ b.toNat := by
  by_cases hb : b.toNat < 128
  · exfalso
    rw [fL_fI] at h
    unfold fI at h
    rw [if_neg (by simp)] at h
    have : (((b :: r).getD 0 0).toNat : Int) < 128 := by show (b.toNat : Int) < 128; omega
    rw [if_pos this] at h
    simp at h
  · omega
theorem fL_small (b : UInt8) (r : List UInt8) (h : b.toNat < 128) : fL (b :: r) = ((b.toNat : Int), 1, true) := by
  rw [fL_fI]
  unfold fI
  rw [if_neg (by simp)]
  have : (((b :: r).getD 0 0).toNat : Int) < 128 := by show (b.toNat : Int) < 128; omega
  rw [if_pos this]
  rfl
/-- a text up to a last byte -/
theorem scan (z : UInt8) (hz : z.toNat < 128) (n : Nat) : ∀ l : List UInt8, l.length ≤ n → ∃ vs r, l = encs vs ++ r ∧ Sgs z.toNat vs ∧ (r = [] ∨ (∃ r', r = z :: r') ∨ (r ≠ [] ∧ fL r = (0, 0, false))) := by
  induction n with
  | zero => intro l hl; exact ⟨[], l, rfl, (fun v hv => by simp at hv), .inl (List.length_eq_zero_iff.1 (by omega))⟩
  | succ n ih =>
    intro l hl
    by_cases h0 : l = []
    · exact ⟨[], l, rfl, (fun v hv => by simp at hv), .inl h0⟩
    · rcases fL_cases l with ⟨v, r, hv, hr, -⟩ | h
      · by_cases hx : v = z.toNat
        · obtain ⟨b, t, he, hc⟩ := encU_head v hv
          have : b = z ∧ t = [] := by
            rcases hc with ⟨_, h2, h3⟩ | ⟨h2, _⟩
            · exact ⟨UInt8.toNat_inj.1 (by omega), h3⟩
            · omega
          obtain ⟨rfl, rfl⟩ := this
          exact ⟨[], l, rfl, (fun v hv => by simp at hv), .inr (.inl ⟨r, by rw [hr, he]; rfl⟩)⟩
        · have hlen := (enc_len_bd v).1
          have : r.length ≤ n := by
            have := congrArg List.length hr
            rw [List.length_append] at this; omega
          obtain ⟨vs, q, hq, hs, hst⟩ := ih r this
          refine ⟨v :: vs, q, ?_, ?_, hst⟩
          · show l = (encU v ++ encs vs) ++ q
            rw [hr, hq, List.append_assoc]
          · intro x hx'
            rcases List.mem_cons.1 hx' with rfl | hx'
            · exact ⟨hv, hx⟩
            · exact hs x hx'
      · exact ⟨[], l, rfl, (fun v hv => by simp at hv), .inr (.inr ⟨h0, h⟩)⟩
/-- a token stays one when what is behind it turns, so no letter of its own follows -/
theorem Tk.turn {pre r r' : List UInt8} {k : Int} {t : List UInt8} {c : Int} (h : Tk pre r k t c) (hd : k = 14 → ∀ x q, r' = x :: q → ∀ b p, pre = b :: p → smallN x.toNat ≠ smallN b.toNat) : Tk pre r' k t c := by
  cases h with
  | ends a z _ e vs _ h1 h2 => exact .ends a z k e vs r' h1 h2
  | mark b _ e v _ h1 h2 => exact .mark b k e v r' h1 h2
  | single b _ _ h1 => exact .single b k r' h1
  | word w _ _ _ h1 h2 => exact .word w k pre r' h1 h2
  | power b s _ h1 h2 => exact .power b s r' h1 h2
  | date c b p _ h1 h2 h3 h4 => exact .date c b p r' h1 h2 h3 (fun x q hq => by have := hd rfl x q hq b p rfl; omega)
  | plain v _ h1 h2 => exact .plain v r' h1 h2
theorem Tk.ne {pre r : List UInt8} {k : Int} {t : List UInt8} {c : Int} (h : Tk pre r k t c) : pre ≠ [] := by
  cases h with
  | ends a z _ e vs _ h1 h2 => simp
  | mark b _ e v _ h1 h2 => simp
  | single b _ _ h1 => simp
  | word w _ _ _ h1 h2 =>
    intro h0
    rw [h0] at h2
    have := congrArg List.length h2
    rcases h1 with ⟨rfl, _⟩ | ⟨rfl, _⟩ | ⟨rfl, _⟩ <;> simp [sm, wAm, wA, wGen] at this
  | power b s _ h1 h2 => simp
  | date c b p _ h1 h2 h3 h4 => simp
  | plain v _ h1 h2 => exact encU_ne v
end Go.Proofs.YtpefkehcibdjgaaDoor.T
