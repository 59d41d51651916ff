/- Proved here: Token.Code tells a token's own bytes; the printed form of the law TokenBack answers true at every input of its kinds; no further condition. -/
import Derived.Test.YtpefkehcibdjgaaDoorQTokx8
import Derived.Test.YtpefkehcibdjgaaDoorT8
import Derived.Test.YtpefkehcibdjgaaDoorT1
set_option linter.unusedVariables false
namespace Go.Proofs.YtpefkehcibdjgaaDoor.T
open Go.RowKit Go.Proofs.YtpefkehcibdjgaaDoor.QTok Go.Proofs.YtpefkehcibdjgaaDoorW.PrintLast Go.Proofs.YtpefkehcibdjgaaDoorW.PrintMore Go.Proofs.YtpefkehcibdjgaaDoor.H Go.Proofs.YtpefkehcibdjgaaDoor.R Go.Lib
open Go.Proofs.YtpefkehcibdjgaaDoorW.PrintWords hiding encs
theorem bs_app (a b : List UInt8) : bs a ++ bs b = bs (a ++ b) := by
  apply ByteArray.ext
  apply Array.toList_inj.1
  rw [app_list2]; rfl
where app_list2 (a b : ByteArray) : (a ++ b).data.toList = a.data.toList ++ b.data.toList := by simp
theorem bs_toList (l : List UInt8) : (bs l).toList = l := by rw [Lib.toList_data]; rfl
theorem code_j0 (cn : List UInt8) (k : Int) (t : List UInt8) (c a : Int) (h : Tk cn [] k t c) (hl : cn.length ≤ 4096) : Ev (fun j => token_Token_Code.j0 j (bs cn) k (bs t) c a) (bs cn) := by
  have hc : Code 0 cn [⟨k, bs t, c, 0⟩] := by
    have := Code.cons 0 cn [] k t c [] h (.nil _)
    rw [List.append_nil] at this; exact this
  refine Ev.step (f := fun j => (token_All.f j (bs cn)).bind fun bt197 => (if bt197.2.2 = 0 then (if (bt197.1.length : Int) = 1 then (if 0 < (bt197.1.length : Int) then (if (!(((rd_T31 bt197.1 0).f0) == k) || (!((((rd_T31 bt197.1 0).f1).toList) == (bs t).toList) || (!(((rd_T31 bt197.1 0).f2) == c) || (!(((rd_T31 bt197.1 0).f3) == 0))))) = true then (some (⟨#[]⟩ : ByteArray)) else (some (bs cn))) else (none)) else (some (⟨#[]⟩ : ByteArray))) else (some (⟨#[]⟩ : ByteArray)))) (fun j => ?_) ?_
  · show token_Token_Code.j0 (j + 1) (bs cn) k (bs t) c a = _
    rw [token_Token_Code.j0]
  · refine Ev.bind (all_code cn hl _ hc) (Ev.congr (f := fun _ => some (bs cn)) (fun j => ?_) (Ev.now _))
    rw [if_pos rfl, if_pos (by rfl), if_pos (by show (0 : Int) < ((1 : Nat) : Int); omega), if_neg]
    simp [rd_T31]
theorem single_kind (b : UInt8) (k : Int) (h : singleP b.toNat = (k, true)) : 6 ≤ k ∧ k ≤ 12 := by
  unfold singleP at h
  repeat' split at h
  all_goals (first | (obtain ⟨rfl, -⟩ := Prod.mk.inj h; omega) | (exfalso; simp at h))
theorem sm_len (l : List UInt8) : (sm l).length = l.length := List.length_map ..
theorem sm_all (c : Nat) : ∀ pre : List UInt8, (∀ x ∈ pre, smallN x.toNat = c) → sm pre = List.replicate pre.length c
  | [], _ => rfl
  | x :: pre, h => by
    show smallN x.toNat :: sm pre = c :: List.replicate pre.length c
    rw [h x (by simp), sm_all c pre (fun y hy => h y (by simp [hy]))]
theorem let_self {c : Nat} (h : isLet c) : smallN c = c := by unfold isLet at h; unfold smallN; rw [if_neg (by omega)]
theorem code_plain (k : Int) (t : ByteArray) (c a : Int) (h : k ≠ 1 ∧ k ≠ 2 ∧ k ≠ 3 ∧ k ≠ 4 ∧ k ≠ 5 ∧ k ≠ 13 ∧ k ≠ 14) (j : Nat) : token_Token_Code.f j k t c a = token_Token_Code.j0 j t k t c a := by
  obtain ⟨h1, h2, h3, h4, h5, h6, h7⟩ := h
  unfold token_Token_Code.f
  rw [if_neg h1, if_neg h2, if_neg h3, if_neg h4, if_neg h5, if_neg h6, if_neg h7]
theorem canon (pre r : List UInt8) (k : Int) (t : List UInt8) (c : Int) (h : Tk pre r k t c) (hl : pre.length ≤ 4096) :
    ∃ cn, Tk cn [] k t c ∧ cn.length = pre.length ∧ sm cn = sm pre ∧ ∀ a, Ev (fun j => token_Token_Code.f j k (bs t) c a) (bs cn) := by
  cases h with
  | ends a z _ e vs _ h1 h2 =>
    have ht : Tk (a :: (encs vs ++ [z])) [] k (encs vs) 0 := .ends a z k e vs [] h1 h2
    refine ⟨_, ht, rfl, rfl, fun q => Ev.congr (fun j => ?_) (code_j0 _ k (encs vs) 0 q ht hl)⟩
    have hz : (encs vs).length ≤ 4096 := by simp at hl; omega
    rcases h1 with ⟨rfl, rfl, rfl, rfl⟩ | ⟨rfl, rfl, rfl, rfl⟩
    · unfold token_Token_Code.f
      rw [if_pos rfl, if_pos (by rw [bs_size]; omega), if_pos (by rw [bs_size]; omega)]
      have e1 : ((⟨#[34]⟩ : ByteArray) ++ bs (encs vs)) ++ (⟨#[34]⟩ : ByteArray) = bs (34 :: (encs vs ++ [34])) := by
        show (bs [34] ++ bs (encs vs)) ++ bs [34] = _
        rw [bs_app, bs_app]; simp
      rw [e1]
    · unfold token_Token_Code.f
      rw [if_neg (by decide), if_neg (by decide), if_neg (by decide), if_neg (by decide), if_pos rfl, if_pos (by rw [bs_size]; omega), if_pos (by rw [bs_size]; omega)]
      have e1 : ((⟨#[91]⟩ : ByteArray) ++ bs (encs vs)) ++ (⟨#[93]⟩ : ByteArray) = bs (91 :: (encs vs ++ [93])) := by
        show (bs [91] ++ bs (encs vs)) ++ bs [93] = _
        rw [bs_app, bs_app]; simp
      rw [e1]
  | mark b _ e v _ h1 h2 =>
    have ht : Tk (b :: encU v) [] k (encU v) 0 := .mark b k e v [] h1 h2
    have hz := (enc_len_bd v).2
    refine ⟨_, ht, rfl, rfl, fun q => Ev.congr (fun j => ?_) (code_j0 _ k (encU v) 0 q ht hl)⟩
    rcases h1 with ⟨rfl, rfl, rfl⟩ | ⟨rfl, rfl, rfl⟩ | ⟨rfl, rfl, rfl⟩
    · unfold token_Token_Code.f
      rw [if_neg (by decide), if_pos rfl, if_pos (by rw [bs_size]; omega)]
      have e1 : ((⟨#[92]⟩ : ByteArray) ++ bs (encU v)) = bs (92 :: encU v) := bs_app [92] (encU v)
      rw [e1]
    · unfold token_Token_Code.f
      rw [if_neg (by decide), if_neg (by decide), if_pos rfl, if_pos (by rw [bs_size]; omega)]
      have e1 : ((⟨#[95]⟩ : ByteArray) ++ bs (encU v)) = bs (95 :: encU v) := bs_app [95] (encU v)
      rw [e1]
    · unfold token_Token_Code.f
      rw [if_neg (by decide), if_neg (by decide), if_neg (by decide), if_pos rfl, if_pos (by rw [bs_size]; omega)]
      have e1 : ((⟨#[42]⟩ : ByteArray) ++ bs (encU v)) = bs (42 :: encU v) := bs_app [42] (encU v)
      rw [e1]
  | single b _ _ h1 =>
    have hk := single_kind b k h1
    have ht : Tk [b] [] k [b] 1 := .single b k [] h1
    exact ⟨_, ht, rfl, rfl, fun q => Ev.congr (fun j => code_plain k _ 1 q (by omega) j) (code_j0 _ k [b] 1 q ht hl)⟩
  | word w _ _ _ h1 h2 =>
    have ht : Tk w.data.toList [] k w.data.toList 1 := .word w k _ [] h1 rfl
    have hlen : w.data.toList.length = pre.length := by rw [← sm_len, ← sm_len pre, h2]
    refine ⟨_, ht, hlen, h2.symm, fun q => Ev.congr (fun j => code_plain k _ 1 q ?_ j) (code_j0 _ k w.data.toList 1 q ht (by omega))⟩
    rcases h1 with ⟨_, rfl⟩ | ⟨_, rfl⟩ | ⟨_, rfl⟩ <;> decide
  | power b s _ h1 h2 =>
    have ht : Tk [69, s] [] 13 [s] 1 := .power 69 s [] (by decide) h2
    refine ⟨_, ht, rfl, ?_, fun q => Ev.congr (fun j => ?_) (code_j0 _ 13 [s] 1 q ht (by simp))⟩
    · show [smallN (69 : UInt8).toNat, smallN s.toNat] = [smallN b.toNat, smallN s.toNat]
      rw [h1]; rfl
    · unfold token_Token_Code.f
      rw [if_neg (by decide), if_neg (by decide), if_neg (by decide), if_neg (by decide), if_neg (by decide), if_pos rfl, if_pos (by rw [bs_size]; simp)]
      have e1 : ((⟨#[69]⟩ : ByteArray) ++ bs [s]) = bs [69, s] := bs_app [69] [s]
      rw [e1]
  | date c' b p _ h1 h2 h3 h4 =>
    have hself := let_self h1
    have ht : Tk (c' :: List.replicate p.length c') [] 14 [c'] ((p.length : Int) + 1) := by
      have := Tk.date c' c' (List.replicate p.length c') [] h1 hself (fun x hx => by rw [List.eq_of_mem_replicate hx]; exact hself) (fun x r' hx => by cases hx)
      rw [List.length_replicate] at this; exact this
    have hlen : (c' :: List.replicate p.length c').length = (b :: p).length := by simp
    rw [List.length_cons] at hl
    refine ⟨_, ht, hlen, ?_, fun q => Ev.congr (fun j => ?_) (code_j0 _ 14 [c'] _ q ht (by rw [hlen, List.length_cons]; omega))⟩
    · show smallN c'.toNat :: sm (List.replicate p.length c') = smallN b.toNat :: sm p
      rw [hself, h2, sm_all c'.toNat p h3, sm_all c'.toNat (List.replicate p.length c') (fun x hx => by rw [List.eq_of_mem_replicate hx]; exact hself), List.length_replicate]
    · have e0 : mx 0 (mn ((p.length : Int) + 1) 4096) = ((p.length + 1 : Nat) : Int) := by unfold mn mx; split <;> split <;> omega
      have e1 : strings_Repeat.f (bs [c']) ((p.length + 1 : Nat) : Int) = some (bs (c' :: List.replicate p.length c')) := by
        unfold strings_Repeat.f
        rw [if_pos ⟨by omega, by omega, by rw [bs_size]; simp⟩, Int.toNat_natCast]
        congr 1
        unfold repeatP bs
        have := Lib.repeatL_replicate c' 1 (p.length + 1)
        rw [Nat.mul_one] at this
        show (⟨(Lib.repeatL (List.replicate 1 c') (p.length + 1)).toArray⟩ : ByteArray) = _
        rw [this]; rfl
      unfold token_Token_Code.f
      rw [if_neg (by decide), if_neg (by decide), if_neg (by decide), if_neg (by decide), if_neg (by decide), if_neg (by decide), if_pos rfl, e0, e1, Option.bind_some]
  | plain v _ h1 h2 =>
    have ht : Tk (encU v) [] 17 (encU v) 1 := .plain v [] h1 h2
    exact ⟨_, ht, rfl, rfl, fun q => Ev.congr (fun j => code_plain 17 _ 1 q (by decide) j) (code_j0 _ 17 (encU v) 1 q ht hl)⟩
/-- the first byte behind a token of letters is none of its letters -/
theorem Tk.next {pre r : List UInt8} {k : Int} {t : List UInt8} {c : Int} (h : Tk pre r k t c) (hk : k = 14) (x : UInt8) (q : List UInt8) (hr : r = x :: q) (b : UInt8) (p : List UInt8) (hp : pre = b :: p) : smallN x.toNat ≠ smallN b.toNat := by
  cases h with
  | ends a z _ e vs _ h1 h2 => rcases h1 with ⟨_, _, h, _⟩ | ⟨_, _, h, _⟩ <;> omega
  | mark b' _ e v _ h1 h2 => rcases h1 with ⟨_, h, _⟩ | ⟨_, h, _⟩ | ⟨_, h, _⟩ <;> omega
  | single b' _ _ h1 => have := single_kind b' k h1; omega
  | word w _ _ _ h1 h2 => rcases h1 with ⟨_, h⟩ | ⟨_, h⟩ | ⟨_, h⟩ <;> omega
  | power b' s _ h1 h2 => omega
  | date c' b' p' _ h1 h2 h3 h4 =>
    obtain ⟨rfl, rfl⟩ := List.cons.inj hp
    have := h4 x q hr
    omega
  | plain v _ h1 h2 => omega
theorem rd_mid (done : List S31) (x : S31) (ts : List S31) : rd_T31 (done ++ x :: ts) (done.length : Int) = x := by
  unfold rd_T31
  simp
theorem back_loop (x0 : ByteArray) (x3 : List S31) {p : Nat} {r : List UInt8} {ts : List S31} (h : Code p r ts) :
    ∃ r', sm r' = sm r ∧ r'.length = r.length ∧ Code p r' ts ∧ ∀ (A : List UInt8) (done : List S31) (res : Bool), A.length = p → p + r.length ≤ 4096 → done.length ≤ p →
      Ev (fun j => numerarylaw11_TokenBack.l0 j x0 x3 (bs (A ++ r')) (done ++ ts) ((done ++ ts).length : Int) ((done.length + ts.length : Nat) : Int)) res → Ev (fun j => numerarylaw11_TokenBack.l0 j x0 x3 (bs A) (done ++ ts) ((done ++ ts).length : Int) (done.length : Int)) res := by
  induction h with
  | nil p =>
    refine ⟨[], rfl, rfl, .nil p, fun A done res hA hl hd hE => ?_⟩
    rw [List.append_nil] at hE
    exact hE
  | cons p pre r k t c ts ht hc ih =>
    obtain ⟨r', hs, hlr, hc', hstep⟩ := ih
    have hpos : 0 < pre.length := List.length_pos_iff.2 ht.ne
    by_cases hbig : pre.length ≤ 4096
    · obtain ⟨cn, h1, h2, h3, h4⟩ := canon pre r k t c ht hbig
      have ht' : Tk cn r' k t c := by
        refine h1.turn (fun hk x q hx b w hb => ?_)
        have hsr : sm (x :: q) = sm r := by rw [← hx]; exact hs
        obtain ⟨y, r0, hy⟩ : ∃ y r0, r = y :: r0 := by cases r with | nil => cases hsr | cons y r0 => exact ⟨y, r0, rfl⟩
        obtain ⟨b', w', hb'⟩ : ∃ b' w', pre = b' :: w' := by cases hpre : pre with | nil => rw [hpre] at hpos; simp at hpos | cons b' w' => exact ⟨b', w', rfl⟩
        have e1 : smallN x.toNat = smallN y.toNat := by rw [hy] at hsr; exact (List.cons.inj hsr).1
        have e2 : smallN b.toNat = smallN b'.toNat := by rw [hb, hb'] at h3; exact (List.cons.inj h3).1
        rw [e1, e2]
        exact ht.next hk y r0 hy b' w' hb'
      have hne : cn ≠ [] := h1.ne
      have hcc : Code p (cn ++ r') (⟨k, bs t, c, p⟩ :: ts) := .cons p cn r' k t c ts ht' (by rw [h2]; exact hc')
      refine ⟨cn ++ r', ?_, by rw [List.length_append, List.length_append, h2, hlr], hcc, fun A done res hA hl hd hE => ?_⟩
      · unfold sm at h3 hs ⊢
        rw [List.map_append, List.map_append, h3, hs]
      · rw [List.length_append] at hl
        have e1 : done ++ (⟨k, bs t, c, (p : Int)⟩ : S31) :: ts = (done ++ [⟨k, bs t, c, (p : Int)⟩]) ++ ts := by simp
        have e2 : ((done ++ [(⟨k, bs t, c, (p : Int)⟩ : S31)]).length : Int) = (done.length : Int) + 1 := by simp
        have e3 : done.length + ((⟨k, bs t, c, (p : Int)⟩ : S31) :: ts).length = (done ++ [(⟨k, bs t, c, (p : Int)⟩ : S31)]).length + ts.length := by simp; omega
        have hn := hstep (A ++ cn) (done ++ [⟨k, bs t, c, (p : Int)⟩]) res (by rw [List.length_append, h2, hA]) (by omega) (by simp; omega) (by
          rw [e1, e3] at hE
          rw [List.append_assoc]; exact hE)
        rw [← e1, e2] at hn
        have hlt : (done.length : Int) < ((done ++ (⟨k, bs t, c, (p : Int)⟩ : S31) :: ts).length : Int) := by simp; omega
        refine Ev.step (f := fun j => (token_Token_Code.f j k (bs t) c (p : Int)).bind fun t290 => (if t290.toList = ([] : List UInt8) then (some false) else (if (p : Int) = ((bs A).size : Int) then (if (bs A).size + t290.size ≤ 9223372036854775807 then (numerarylaw11_TokenBack.l0 j x0 x3 ((bs A) ++ t290) (done ++ (⟨k, bs t, c, (p : Int)⟩ : S31) :: ts) ((done ++ (⟨k, bs t, c, (p : Int)⟩ : S31) :: ts).length : Int) ((done.length : Int) + 1)) else (none)) else (some false)))) (fun j => ?_) ?_
        · show numerarylaw11_TokenBack.l0 (j + 1) x0 x3 (bs A) _ _ _ = _
          rw [numerarylaw11_TokenBack.l0, if_pos hlt, if_pos (by omega), if_pos hlt, rd_mid, w64q _ (by omega) (by omega)]
        · refine Ev.bind (h4 p) (Ev.congr (fun j => ?_) hn)
          rw [if_neg (by rw [bs_toList]; exact hne), if_pos (by rw [bs_size, hA]), if_pos (by rw [bs_size, bs_size]; omega), bs_app]
    · exact ⟨pre ++ r, rfl, rfl, .cons p pre r k t c ts ht hc, fun A done res hA hl hd hE => by rw [List.length_append] at hl; omega⟩
theorem back_cmp (m : Nat) : ∀ (a : List S31) (i : Nat), a.length ≤ 1000000 → a.length ≤ i + m → i ≤ a.length → Ev (fun j => numerarylaw11_TokenBack.l1 j a a (a.length : Int) i) true := by
  have last : ∀ (a : List S31) (i : Nat), ¬ i < a.length → Ev (fun j => numerarylaw11_TokenBack.l1 j a a (a.length : Int) i) true := by
    intro a i hi
    refine Ev.step (f := fun _ => some true) (fun j => ?_) (Ev.now true)
    show numerarylaw11_TokenBack.l1 (j + 1) a a (a.length : Int) i = _
    rw [numerarylaw11_TokenBack.l1, if_neg (by omega)]
  induction m with
  | zero => intro a i hl hm hi; exact last a i (by omega)
  | succ m ih =>
    intro a i hl hm hi
    by_cases h : i < a.length
    · refine Ev.step (fun j => ?_) (ih a (i + 1) hl (by omega) (by omega))
      show numerarylaw11_TokenBack.l1 (j + 1) a a (a.length : Int) i = _
      rw [numerarylaw11_TokenBack.l1, if_pos (by omega), if_pos (by omega), if_pos (by omega), if_pos (by omega), if_neg (by simp), w64q _ (by omega) (by omega)]; rfl
    · exact last a i h
theorem TokenBack : numerarylaw11_TokenBack.Pure := by
  intro a hz
  refine Ev.rounds ?_
  have hm0 : 0 ≤ mn (a.size : Int) 300 := by unfold mn; split <;> omega
  have hm1 : mn (a.size : Int) 300 ≤ a.size := by unfold mn; split <;> omega
  have hm2 : mn (a.size : Int) 300 ≤ 300 := by unfold mn; split <;> omega
  obtain ⟨s, hs⟩ : ∃ s, a.extract 0 ((mn (a.size : Int) 300) : Int).toNat = s := ⟨_, rfl⟩
  have hsl : s.size ≤ 300 := by rw [← hs, ByteArray.size_extract]; omega
  obtain ⟨l, rfl⟩ : ∃ l, s = bs l := ⟨s.data.toList, by unfold bs; simp⟩
  rw [bs_size] at hsl
  refine Ev.congr (f := fun j => (token_All.f j (bs l)).bind fun bt282 => (if bt282.2.2 = 0 then (numerarylaw11_TokenBack.l0 j (bs l) bt282.1 (⟨#[]⟩ : ByteArray) bt282.1 (bt282.1.length : Int) 0) else ((numerarylaw11_wakes.f j).bind fun t287 => (some t287)))) (fun j => ?_) ?_
  · show numerarylaw11_TokenBack.f j a = _
    unfold numerarylaw11_TokenBack.f
    rw [if_pos hm0, if_pos hm1, hs]
  rcases code_total l.length l 0 (Nat.le_refl _) with ⟨ts, hc⟩ | ⟨at_, e, hb⟩
  · refine Ev.bind (all_code l (by omega) ts hc) ?_
    refine Ev.congr (f := fun j => numerarylaw11_TokenBack.l0 j (bs l) ts (bs []) ([] ++ ts) (([] ++ ts).length : Int) (([] : List S31).length : Int)) (fun j => if_pos rfl) ?_
    obtain ⟨r', h1, h2, h3, h4⟩ := back_loop (bs l) ts hc
    refine h4 [] [] true rfl (by omega) (Nat.zero_le _) ?_
    rw [List.nil_append, List.nil_append]
    have hlt : ts.length ≤ 1000000 := by
      have key : ∀ {p : Nat} {r : List UInt8} {ts : List S31}, Code p r ts → ts.length ≤ r.length := by
        intro p r ts h
        induction h with
        | nil p => exact Nat.le_refl _
        | cons p pre r k t c ts ht hc ih =>
          have hpos : 0 < pre.length := List.length_pos_iff.2 ht.ne
          rw [List.length_cons, List.length_append]; omega
      have := key hc
      omega
    have hF : strings_EqualFold.f (bs l) (bs r') = some true := by
      unfold strings_EqualFold.f
      rw [if_pos ⟨by rw [bs_size]; unfold big; omega, h1.symm⟩]
    refine Ev.step (f := fun j => (token_All.f j (bs r')).bind fun bt291 => ((numerarylaw11_wakes.f j).bind fun t296 => (if t296 = true then (if bt291.2.2 = 0 then (if bt291.2.1 = ((bs l).size : Int) then (if ((bs r').size : Int) = ((bs l).size : Int) then ((strings_EqualFold.f (bs l) (bs r')).bind fun t297 => (if t297 = true then (numerarylaw11_TokenBack.j1 j ts bt291.1 ((ts.length : Int) != (bt291.1.length : Int))) else (numerarylaw11_TokenBack.j1 j ts bt291.1 true))) else (numerarylaw11_TokenBack.j1 j ts bt291.1 true)) else (numerarylaw11_TokenBack.j1 j ts bt291.1 true)) else (numerarylaw11_TokenBack.j1 j ts bt291.1 true)) else (numerarylaw11_TokenBack.j1 j ts bt291.1 true)))) (fun j => ?_) ?_
    · show numerarylaw11_TokenBack.l0 (j + 1) (bs l) ts (bs r') ts _ _ = _
      rw [numerarylaw11_TokenBack.l0, if_neg (by simp)]
    · refine Ev.bind (all_code r' (by omega) ts h3) (Ev.bind wakes_ev ?_)
      refine Ev.congr (f := fun j => numerarylaw11_TokenBack.j1 j ts ts false) (fun j => ?_) ?_
      · rw [if_pos rfl, if_pos rfl, if_pos (by rw [bs_size, h2]), if_pos (by rw [bs_size, bs_size, h2]), hF, Option.bind_some, if_pos rfl]; simp
      · refine Ev.step (f := fun j => numerarylaw11_TokenBack.l1 j ts ts (ts.length : Int) ((0 : Nat) : Int)) (fun j => ?_) (back_cmp ts.length ts 0 hlt (by omega) (Nat.zero_le _))
        show numerarylaw11_TokenBack.j1 (j + 1) ts ts false = _
        rw [numerarylaw11_TokenBack.j1, if_neg (by simp)]; rfl
  · refine Ev.bind (all_bad l (by omega) at_ e hb) ?_
    exact Ev.congr (f := fun j => (numerarylaw11_wakes.f j).bind fun t287 => (some t287)) (fun j => if_neg hb.ne) (Ev.bind wakes_ev (Ev.now true))
end Go.Proofs.YtpefkehcibdjgaaDoor.T
