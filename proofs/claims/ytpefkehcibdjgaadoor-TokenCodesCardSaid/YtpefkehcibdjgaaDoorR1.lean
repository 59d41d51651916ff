/- Plain facts on texts as signs: the bytes of a sign, the sign at a text's beginning, a text parted into signs and what is behind them; strings.ToValidUTF8's sense of a right text is the same. No program in sight. -/
import Derived.Test.YtpefkehcibdjgaaDoorH1
import Derived.Lib.ValidLaws
import Derived.Lib.MapLaws
namespace Go.Proofs.YtpefkehcibdjgaaDoor.R
open Go.RowKit Go.Proofs.YtpefkehcibdjgaaDoorW.PrintWords Go.Proofs.YtpefkehcibdjgaaDoorW.PrintLast Go.Proofs.YtpefkehcibdjgaaDoorW.PrintMore Go.Proofs.YtpefkehcibdjgaaDoor.H Go.Lib
def u8 (x : Int) : UInt8 := UInt8.ofNat x.toNat
theorem u8_nat (x : Int) (h0 : 0 ≤ x) (h1 : x ≤ 255) : ((u8 x).toNat : Int) = x := by
  unfold u8
  rw [UInt8.toNat_ofNat']
  omega
theorem u8_of (b : UInt8) (x : Int) (h : (b.toNat : Int) = x) : b = u8 x := by
  subst h
  unfold u8
  simp
/-- a sign's bytes -/
def encB (v : Int) : List Int :=
  if v < 128 then [v]
  else if v < 2048 then [192 + v / 64, 128 + v % 64]
  else if v < 65536 then [224 + v / 4096, 128 + v / 64 % 64, 128 + v % 64]
  else [240 + v / 262144, 128 + v / 4096 % 64, 128 + v / 64 % 64, 128 + v % 64]
def encU (v : Int) : List UInt8 := (encB v).map u8
theorem str_enc (v : Int) : strOfNums (encB v) = ⟨(encU v).toArray⟩ := rfl
def fI (n : Nat) (b0 b1 b2 b3 : Int) : Int × Int × Bool :=
  if n = 0 then (0, 0, false)
  else if b0 < 128 then (b0, 1, true)
  else if b0 / 32 = 6 ∧ 2 ≤ n ∧ b1 / 64 = 2 ∧ 128 ≤ b0 % 32 * 64 + b1 % 64 then (b0 % 32 * 64 + b1 % 64, 2, true)
  else if b0 / 16 = 14 ∧ 3 ≤ n ∧ b1 / 64 = 2 ∧ b2 / 64 = 2 ∧ 2048 ≤ b0 % 16 * 4096 + b1 % 64 * 64 + b2 % 64 ∧ (b0 % 16 * 4096 + b1 % 64 * 64 + b2 % 64 < 55296 ∨ 57343 < b0 % 16 * 4096 + b1 % 64 * 64 + b2 % 64) then (b0 % 16 * 4096 + b1 % 64 * 64 + b2 % 64, 3, true)
  else if b0 / 8 = 30 ∧ 4 ≤ n ∧ b1 / 64 = 2 ∧ b2 / 64 = 2 ∧ b3 / 64 = 2 ∧ 65536 ≤ b0 % 8 * 262144 + b1 % 64 * 4096 + b2 % 64 * 64 + b3 % 64 ∧ b0 % 8 * 262144 + b1 % 64 * 4096 + b2 % 64 * 64 + b3 % 64 ≤ 1114111 then (b0 % 8 * 262144 + b1 % 64 * 4096 + b2 % 64 * 64 + b3 % 64, 4, true)
  else (0, 0, false)
theorem firstP_fI (s : ByteArray) : firstP s = fI s.size (bt s 0) (bt s 1) (bt s 2) (bt s 3) := rfl
theorem fI_2 (n : Nat) (b0 b1 b2 b3 : Int) (hn : 2 ≤ n) (h : 128 ≤ b0 ∧ b0 / 32 = 6 ∧ b1 / 64 = 2 ∧ 128 ≤ b0 % 32 * 64 + b1 % 64) : fI n b0 b1 b2 b3 = (b0 % 32 * 64 + b1 % 64, 2, true) := by
  unfold fI; rw [if_neg (by omega), if_neg (by omega), if_pos (by omega)]
theorem fI_3 (n : Nat) (b0 b1 b2 b3 : Int) (hn : 3 ≤ n) (h : b0 / 16 = 14 ∧ b1 / 64 = 2 ∧ b2 / 64 = 2 ∧ 2048 ≤ b0 % 16 * 4096 + b1 % 64 * 64 + b2 % 64 ∧ (b0 % 16 * 4096 + b1 % 64 * 64 + b2 % 64 < 55296 ∨ 57343 < b0 % 16 * 4096 + b1 % 64 * 64 + b2 % 64)) :
    fI n b0 b1 b2 b3 = (b0 % 16 * 4096 + b1 % 64 * 64 + b2 % 64, 3, true) := by
  unfold fI; rw [if_neg (by omega), if_neg (by omega), if_neg (by omega), if_pos (by omega)]
theorem fI_4 (n : Nat) (b0 b1 b2 b3 : Int) (hn : 4 ≤ n) (h : b0 / 8 = 30 ∧ b1 / 64 = 2 ∧ b2 / 64 = 2 ∧ b3 / 64 = 2 ∧ 65536 ≤ b0 % 8 * 262144 + b1 % 64 * 4096 + b2 % 64 * 64 + b3 % 64 ∧ b0 % 8 * 262144 + b1 % 64 * 4096 + b2 % 64 * 64 + b3 % 64 ≤ 1114111) :
    fI n b0 b1 b2 b3 = (b0 % 8 * 262144 + b1 % 64 * 4096 + b2 % 64 * 64 + b3 % 64, 4, true) := by
  unfold fI; rw [if_neg (by omega), if_neg (by omega), if_neg (by omega), if_neg (by omega), if_pos (by omega)]
/-- what a sign at a beginning tells of the bytes -/
inductive Begins (n : Nat) (b0 b1 b2 b3 : Int) : Int → Int → Prop
  | one : 1 ≤ n → b0 < 128 → Begins n b0 b1 b2 b3 b0 1
  | two (v : Int) : 2 ≤ n → 128 ≤ v → v < 2048 → b0 = 192 + v / 64 → b1 = 128 + v % 64 → Begins n b0 b1 b2 b3 v 2
  | three (v : Int) : 3 ≤ n → 2048 ≤ v → v < 65536 → (v < 55296 ∨ 57343 < v) → b0 = 224 + v / 4096 → b1 = 128 + v / 64 % 64 → b2 = 128 + v % 64 → Begins n b0 b1 b2 b3 v 3
  | four (v : Int) : 4 ≤ n → 65536 ≤ v → v ≤ 1114111 → b0 = 240 + v / 262144 → b1 = 128 + v / 4096 % 64 → b2 = 128 + v / 64 % 64 → b3 = 128 + v % 64 → Begins n b0 b1 b2 b3 v 4
theorem fI_cases (n : Nat) (b0 b1 b2 b3 : Int) (h0 : 0 ≤ b0 ∧ b0 ≤ 255) (h1 : 0 ≤ b1 ∧ b1 ≤ 255) (h2 : 0 ≤ b2 ∧ b2 ≤ 255) (h3 : 0 ≤ b3 ∧ b3 ≤ 255) :
    (∃ v w, fI n b0 b1 b2 b3 = (v, w, true) ∧ Begins n b0 b1 b2 b3 v w) ∨ (fI n b0 b1 b2 b3 = (0, 0, false)) := by
  unfold fI
  split
  · exact .inr rfl
  · split
    · exact .inl ⟨_, _, rfl, .one (by omega) (by omega)⟩
    · split
      · exact .inl ⟨_, _, rfl, .two _ (by omega) (by omega) (by omega) (by omega) (by omega)⟩
      · split
        · exact .inl ⟨_, _, rfl, .three _ (by omega) (by omega) (by omega) (by omega) (by omega) (by omega) (by omega)⟩
        · split
          · exact .inl ⟨_, _, rfl, .four _ (by omega) (by omega) (by omega) (by omega) (by omega) (by omega) (by omega)⟩
          · exact .inr rfl
theorem fI_begins (n : Nat) (b0 b1 b2 b3 v w : Int) (h0 : 0 ≤ b0) (h : Begins n b0 b1 b2 b3 v w) : fI n b0 b1 b2 b3 = (v, w, true) := by
  cases h with
  | one hn hb => unfold fI; rw [if_neg (by omega), if_pos hb]
  | two v hn a b c d =>
    rw [fI_2 n b0 b1 b2 b3 hn (by omega)]
    have : b0 % 32 * 64 + b1 % 64 = v := by omega
    rw [this]
  | three v hn a b c d e f =>
    rw [fI_3 n b0 b1 b2 b3 hn (by omega)]
    have : b0 % 16 * 4096 + b1 % 64 * 64 + b2 % 64 = v := by omega
    rw [this]
  | four v hn a b c d e f =>
    rw [fI_4 n b0 b1 b2 b3 hn (by omega)]
    have : b0 % 8 * 262144 + b1 % 64 * 4096 + b2 % 64 * 64 + b3 % 64 = v := by omega
    rw [this]
/-- the sign at the beginning of a list of bytes -/
def fL (l : List UInt8) : Int × Int × Bool := firstP ⟨l.toArray⟩
theorem bt_list (l : List UInt8) (j : Nat) : bt ⟨l.toArray⟩ (j : Nat) = ((l.getD j 0).toNat : Int) := by
  unfold bt
  split
  · rename_i h
    have hj : j < l.length := h
    have e : (l.getD j 0) = l[j] := by simp [List.getD, hj]
    rw [e]; rfl
  · rename_i h
    have hj : ¬ j < l.length := h
    have e : (l.getD j 0) = 0 := by simp [List.getD, List.getElem?_eq_none (Nat.not_lt.1 hj)]
    rw [e]; rfl
theorem fL_fI (l : List UInt8) : fL l = fI l.length (l.getD 0 0).toNat (l.getD 1 0).toNat (l.getD 2 0).toNat (l.getD 3 0).toNat := by
  have h0 := bt_list l 0; have h1 := bt_list l 1; have h2 := bt_list l 2; have h3 := bt_list l 3
  unfold fL
  rw [firstP_fI]
  rw [← h0, ← h1, ← h2, ← h3]
  rfl
theorem nat_bd (b : UInt8) : (0 : Int) ≤ b.toNat ∧ (b.toNat : Int) ≤ 255 := by have := b.toNat_lt; omega
theorem isB_of (v : Int) (h : 0 ≤ v ∧ v ≤ 1114111 ∧ (v < 55296 ∨ 57343 < v)) : isB v = true := (isB_iff v).2 h
theorem enc_1 (v : Int) (h : v < 128) : encU v = [u8 v] := by unfold encU encB; rw [if_pos h]; rfl
theorem enc_2 (v : Int) (h0 : 128 ≤ v) (h : v < 2048) : encU v = [u8 (192 + v / 64), u8 (128 + v % 64)] := by unfold encU encB; rw [if_neg (by omega), if_pos h]; rfl
theorem enc_3 (v : Int) (h0 : 2048 ≤ v) (h : v < 65536) : encU v = [u8 (224 + v / 4096), u8 (128 + v / 64 % 64), u8 (128 + v % 64)] := by unfold encU encB; rw [if_neg (by omega), if_neg (by omega), if_pos h]; rfl
theorem enc_4 (v : Int) (h0 : 65536 ≤ v) : encU v = [u8 (240 + v / 262144), u8 (128 + v / 4096 % 64), u8 (128 + v / 64 % 64), u8 (128 + v % 64)] := by unfold encU encB; rw [if_neg (by omega), if_neg (by omega), if_neg (by omega)]; rfl
theorem begins_enc (v : Int) (h : isB v = true) (r : List UInt8) :
    Begins (encU v ++ r).length ((encU v ++ r).getD 0 0).toNat ((encU v ++ r).getD 1 0).toNat ((encU v ++ r).getD 2 0).toNat ((encU v ++ r).getD 3 0).toNat v (widthI v) := by
  have hb := (isB_iff v).1 h
  rcases widthI_cases v with ⟨c, e⟩ | ⟨c1, c2, e⟩ | ⟨c1, c2, e⟩ | ⟨c1, e⟩
  · rw [e, enc_1 v c]
    have := u8_nat v (by omega) (by omega)
    simp only [List.cons_append, List.nil_append, List.getD_cons_zero, List.length_cons]
    have hh := @Begins.one ((r.length + 1)) ((u8 v).toNat : Int) (((u8 v :: r).getD 1 0).toNat : Int) (((u8 v :: r).getD 2 0).toNat : Int) (((u8 v :: r).getD 3 0).toNat : Int) (by omega) (by omega)
    rw [this] at hh ⊢
    exact hh
  · rw [e, enc_2 v c1 c2]
    have e0 := u8_nat (192 + v / 64) (by omega) (by omega)
    have e1 := u8_nat (128 + v % 64) (by omega) (by omega)
    exact .two v (by simp) c1 c2 e0 e1
  · rw [e, enc_3 v c1 c2]
    have e0 := u8_nat (224 + v / 4096) (by omega) (by omega)
    have e1 := u8_nat (128 + v / 64 % 64) (by omega) (by omega)
    have e2 := u8_nat (128 + v % 64) (by omega) (by omega)
    exact .three v (by simp) c1 c2 (by omega) e0 e1 e2
  · rw [e, enc_4 v c1]
    have e0 := u8_nat (240 + v / 262144) (by omega) (by omega)
    have e1 := u8_nat (128 + v / 4096 % 64) (by omega) (by omega)
    have e2 := u8_nat (128 + v / 64 % 64) (by omega) (by omega)
    have e3 := u8_nat (128 + v % 64) (by omega) (by omega)
    exact .four v (by simp) c1 (by omega) e0 e1 e2 e3
theorem fL_enc (v : Int) (h : isB v = true) (r : List UInt8) : fL (encU v ++ r) = (v, widthI v, true) := by
  rw [fL_fI]
  exact fI_begins _ _ _ _ _ v _ (nat_bd _).1 (begins_enc v h r)
theorem enc_len (v : Int) : ((encU v).length : Int) = widthI v := by
  rcases widthI_cases v with ⟨c, e⟩ | ⟨c1, c2, e⟩ | ⟨c1, c2, e⟩ | ⟨c1, e⟩
  · rw [e, enc_1 v c]; rfl
  · rw [e, enc_2 v c1 c2]; rfl
  · rw [e, enc_3 v c1 c2]; rfl
  · rw [e, enc_4 v c1]; rfl
theorem enc_len_bd (v : Int) : 1 ≤ (encU v).length ∧ (encU v).length ≤ 4 := by
  have := enc_len v
  rcases widthI_cases v with ⟨c, e⟩ | ⟨c1, c2, e⟩ | ⟨c1, c2, e⟩ | ⟨c1, e⟩ <;> omega
theorem len1 (l : List UInt8) (h : 1 ≤ l.length) : ∃ a r, l = a :: r := by
  cases l with
  | nil => simp at h
  | cons a r => exact ⟨a, r, rfl⟩
theorem len2 (l : List UInt8) (h : 2 ≤ l.length) : ∃ a b r, l = a :: b :: r := by
  obtain ⟨a, r, rfl⟩ := len1 l (by omega)
  obtain ⟨b, r, rfl⟩ := len1 r (by rw [List.length_cons] at h; omega)
  exact ⟨a, b, r, rfl⟩
theorem len3 (l : List UInt8) (h : 3 ≤ l.length) : ∃ a b c r, l = a :: b :: c :: r := by
  obtain ⟨a, b, r, rfl⟩ := len2 l (by omega)
  obtain ⟨c, r, rfl⟩ := len1 r (by rw [List.length_cons, List.length_cons] at h; omega)
  exact ⟨a, b, c, r, rfl⟩
theorem len4 (l : List UInt8) (h : 4 ≤ l.length) : ∃ a b c d r, l = a :: b :: c :: d :: r := by
  obtain ⟨a, b, c, r, rfl⟩ := len3 l (by omega)
  obtain ⟨d, r, rfl⟩ := len1 r (by rw [List.length_cons, List.length_cons, List.length_cons] at h; omega)
  exact ⟨a, b, c, d, r, rfl⟩
theorem one_eq (a : UInt8) (r : List UInt8) (v : Int) (c : v < 128) (h0 : (a.toNat : Int) = v) : a :: r = encU v ++ r := by
  rw [enc_1 v c, ← u8_of a v h0]; rfl
theorem two_eq (a b : UInt8) (r : List UInt8) (v : Int) (c1 : 128 ≤ v) (c2 : v < 2048) (h0 : (a.toNat : Int) = 192 + v / 64) (h1 : (b.toNat : Int) = 128 + v % 64) : a :: b :: r = encU v ++ r := by
  rw [enc_2 v c1 c2, ← u8_of a _ h0, ← u8_of b _ h1]; rfl
theorem three_eq (a b c : UInt8) (r : List UInt8) (v : Int) (c1 : 2048 ≤ v) (c2 : v < 65536) (h0 : (a.toNat : Int) = 224 + v / 4096) (h1 : (b.toNat : Int) = 128 + v / 64 % 64) (h2 : (c.toNat : Int) = 128 + v % 64) : a :: b :: c :: r = encU v ++ r := by
  rw [enc_3 v c1 c2, ← u8_of a _ h0, ← u8_of b _ h1, ← u8_of c _ h2]; rfl
theorem four_eq (a b c d : UInt8) (r : List UInt8) (v : Int) (c1 : 65536 ≤ v) (h0 : (a.toNat : Int) = 240 + v / 262144) (h1 : (b.toNat : Int) = 128 + v / 4096 % 64) (h2 : (c.toNat : Int) = 128 + v / 64 % 64) (h3 : (d.toNat : Int) = 128 + v % 64) : a :: b :: c :: d :: r = encU v ++ r := by
  rw [enc_4 v c1, ← u8_of a _ h0, ← u8_of b _ h1, ← u8_of c _ h2, ← u8_of d _ h3]; rfl
/-- each list of bytes begins with a sign, or none -/
theorem fL_cases (l : List UInt8) : (∃ v r, isB v = true ∧ l = encU v ++ r ∧ fL l = (v, widthI v, true)) ∨ fL l = (0, 0, false) := by
  have hf := fL_fI l
  rcases fI_cases l.length (l.getD 0 0).toNat (l.getD 1 0).toNat (l.getD 2 0).toNat (l.getD 3 0).toNat (nat_bd _) (nat_bd _) (nat_bd _) (nat_bd _) with ⟨v, w, e, hb⟩ | e
  · left
    have n0 := nat_bd (l.getD 0 0)
    obtain ⟨r, hv, hr⟩ : ∃ r, isB v = true ∧ l = encU v ++ r := by
      cases hb with
      | one hn hb =>
        obtain ⟨a, r, rfl⟩ := len1 l hn
        exact ⟨r, isB_of _ ⟨n0.1, by omega, by omega⟩, one_eq a r _ hb rfl⟩
      | two v hn c1 c2 h0 h1 =>
        obtain ⟨a, b, r, rfl⟩ := len2 l hn
        exact ⟨r, isB_of _ ⟨by omega, by omega, by omega⟩, two_eq a b r _ c1 c2 h0 h1⟩
      | three v hn c1 c2 c3 h0 h1 h2 =>
        obtain ⟨a, b, c, r, rfl⟩ := len3 l hn
        exact ⟨r, isB_of _ ⟨by omega, by omega, c3⟩, three_eq a b c r _ c1 c2 h0 h1 h2⟩
      | four v hn c1 c2 h0 h1 h2 h3 =>
        obtain ⟨a, b, c, d, r, rfl⟩ := len4 l hn
        exact ⟨r, isB_of _ ⟨by omega, by omega, by omega⟩, four_eq a b c d r _ c1 h0 h1 h2 h3⟩
    refine ⟨v, r, hv, hr, ?_⟩
    rw [hr]; exact fL_enc v hv r
  · right; rw [hf, e]
/-- signs, one behind the other -/
def encs : List Int → List UInt8
  | [] => []
  | v :: vs => encU v ++ encs vs
theorem encs_append (a b : List Int) : encs (a ++ b) = encs a ++ encs b := by
  induction a with
  | nil => rfl
  | cons v vs ih => show encU v ++ encs (vs ++ b) = (encU v ++ encs vs) ++ encs b; rw [ih, List.append_assoc]
/-- the text is these signs, and then what begins with none -/
structure Parts (l : List UInt8) (vs : List Int) (r : List UInt8) : Prop where
  eq : l = encs vs ++ r
  all : ∀ v ∈ vs, isB v = true
  stop : r = [] ∨ fL r = (0, 0, false)
theorem parts (n : Nat) : ∀ l : List UInt8, l.length ≤ n → ∃ vs r, Parts l vs r := by
  induction n with
  | zero => intro l hl; exact ⟨[], l, rfl, by simp, .inl (List.length_eq_zero_iff.1 (by omega))⟩
  | succ n ih =>
    intro l hl
    rcases fL_cases l with ⟨v, r, hv, hr, -⟩ | h
    · have hlen := (enc_len_bd v).1
      have : r.length ≤ n := by
        have := congrArg List.length hr
        rw [List.length_append] at this; omega
      obtain ⟨vs, q, hp⟩ := ih r this
      refine ⟨v :: vs, q, ?_, ?_, hp.stop⟩
      · show l = (encU v ++ encs vs) ++ q
        rw [hr, hp.eq, List.append_assoc]
      · intro x hx
        rcases List.mem_cons.1 hx with rfl | hx
        · exact hv
        · exact hp.all x hx
    · exact ⟨[], l, rfl, by simp, .inr h⟩
theorem encs_len (vs : List Int) : vs.length ≤ (encs vs).length := by
  induction vs with
  | nil => exact Nat.le_refl _
  | cons v vs ih =>
    have := (enc_len_bd v).1
    show vs.length + 1 ≤ (encU v ++ encs vs).length
    rw [List.length_append]; omega
theorem dec_nat (l : List UInt8) (hne : l ≠ []) :
    (fL l = (0, 0, false) ∧ decodeL l = (65533, 1)) ∨ (∃ v : Nat, ∃ w : Nat, fL l = ((v : Int), (w : Int), true) ∧ decodeL l = (v, w) ∧ ¬ (v = 65533 ∧ w = 1)) := by
  have hl : 0 < l.length := List.length_pos_iff.2 hne
  rw [decodeL_N, fL_fI]
  have ha := (l.getD 0 0).toNat_lt
  generalize (l.getD 0 0).toNat = a at ha ⊢
  generalize (l.getD 1 0).toNat = b
  generalize (l.getD 2 0).toNat = c
  generalize (l.getD 3 0).toNat = d
  generalize l.length = n at hl ⊢
  unfold fI
  rw [if_neg (by omega)]
  rcases decodeN_shape n a b c d with ⟨h1, e⟩ | ⟨h1, h2, h3, h4, e⟩ | ⟨h1, h2, h3, h4, h5, h6, e⟩ | ⟨h1, h2, h3, h4, h5, h6, h7, e⟩ | e
  · right
    rw [if_pos (by omega), e]
    exact ⟨a, 1, rfl, rfl, by omega⟩
  · right
    rw [if_neg (by omega), if_pos (by omega), e]
    exact ⟨_, 2, by simp, rfl, by omega⟩
  · right
    rw [if_neg (by omega), if_neg (by omega), if_pos (by omega), e]
    exact ⟨_, 3, by simp, rfl, by omega⟩
  · right
    rw [if_neg (by omega), if_neg (by omega), if_neg (by omega), if_pos (by omega), e]
    exact ⟨_, 4, by simp, rfl, by omega⟩
  · unfold decodeN at e
    split at e
    · exfalso; simp only [Prod.mk.injEq] at e; omega
    · split at e
      · split at e
        · exfalso; simp only [Prod.mk.injEq] at e; omega
        · left
          rw [if_neg (by omega), if_neg (by omega), if_neg (by omega), if_neg (by omega)]
          exact ⟨rfl, by unfold decodeN; rw [if_neg (by assumption), if_pos (by assumption), if_neg (by assumption)]⟩
      · split at e
        · split at e
          · exfalso; simp only [Prod.mk.injEq] at e; omega
          · left
            rw [if_neg (by omega), if_neg (by omega), if_neg (by omega), if_neg (by omega)]
            exact ⟨rfl, by unfold decodeN; rw [if_neg (by assumption), if_neg (by assumption), if_pos (by assumption), if_neg (by assumption)]⟩
        · split at e
          · split at e
            · exfalso; simp only [Prod.mk.injEq] at e; omega
            · left
              rw [if_neg (by omega), if_neg (by omega), if_neg (by omega), if_neg (by omega)]
              exact ⟨rfl, by unfold decodeN; rw [if_neg (by assumption), if_neg (by assumption), if_neg (by assumption), if_pos (by assumption), if_neg (by assumption)]⟩
          · left
            rw [if_neg (by omega), if_neg (by omega), if_neg (by omega), if_neg (by omega)]
            exact ⟨rfl, by unfold decodeN; rw [if_neg (by assumption), if_neg (by assumption), if_neg (by assumption), if_neg (by assumption)]⟩
theorem valid_one (v : Int) (hv : isB v = true) (r : List UInt8) : validD (encU v ++ r) = validD r := by
  have h1 := (enc_len_bd v).1
  have hne : encU v ++ r ≠ [] := by
    intro h
    have := congrArg List.length h
    rw [List.length_append, List.length_nil] at this; omega
  have hf := fL_enc v hv r
  rcases dec_nat _ hne with ⟨h, -⟩ | ⟨a, w, h, hd, hn⟩
  · rw [hf] at h; simp at h
  · rw [hf] at h
    simp only [Prod.mk.injEq] at h
    rw [validD_step _ hne, hd, if_neg hn]
    have hw : w = (encU v).length := by have := enc_len v; omega
    rw [hw, List.drop_left]
theorem valid_parts (l : List UInt8) (vs : List Int) (r : List UInt8) (h : Parts l vs r) : validD l = decide (r = []) := by
  obtain ⟨he, ha, hs⟩ := h
  subst he
  induction vs with
  | nil =>
    show validD r = _
    by_cases hr : r = []
    · subst hr; rfl
    · rcases hs with h | h
      · exact absurd h hr
      · rcases dec_nat r hr with ⟨-, hd⟩ | ⟨a, w, h', -, -⟩
        · rw [validD_step r hr, hd, if_pos ⟨rfl, rfl⟩]; simp [hr]
        · rw [h] at h'; simp at h'
  | cons v vs ih =>
    show validD ((encU v ++ encs vs) ++ r) = _
    rw [List.append_assoc, valid_one v (ha v (by simp))]
    exact ih (fun x hx => ha x (by simp [hx]))
end Go.Proofs.YtpefkehcibdjgaaDoor.R
