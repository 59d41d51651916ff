/- Plain calendar arithmetic for the civil statements: years, months, the count of days, the numbers of days; no program in sight, no condition but those that each lemma names. -/
namespace Go.Proofs.Ytncgfmbogdhgbaa.Cal

def leapB (y : Int) : Bool := decide (y % 4 = 0 ∧ (y % 100 ≠ 0 ∨ y % 400 = 0))
def lp (y : Int) : Int := if leapB y = true then 1 else 0
def dm (y m : Int) : Int :=
  if m = 2 then 28 + lp y
  else if m = 4 ∨ m = 6 ∨ m = 9 ∨ m = 11 then 30
  else if m < 1 ∨ m > 12 then 0 else 31
def A (y : Int) : Int := (y - 1) * 365 + (y - 1) / 4 - (y - 1) / 100 + (y - 1) / 400
def cum (y m : Int) : Int :=
  if m ≤ 1 then 0 else if m = 2 then 31 else if m = 3 then 59 + lp y else if m = 4 then 90 + lp y
  else if m = 5 then 120 + lp y else if m = 6 then 151 + lp y else if m = 7 then 181 + lp y else if m = 8 then 212 + lp y
  else if m = 9 then 243 + lp y else if m = 10 then 273 + lp y else if m = 11 then 304 + lp y else if m = 12 then 334 + lp y
  else 365 + lp y
structure Valid (y m d : Int) : Prop where
  m1 : 1 ≤ m
  m2 : m ≤ 12
  d1 : 1 ≤ d
  d2 : d ≤ dm y m
def num (y m d : Int) : Int := A y + cum y m + d - 1

theorem lp_01 (y : Int) : 0 ≤ lp y ∧ lp y ≤ 1 := by unfold lp; split <;> omega
theorem lp_of (y : Int) : (lp y = 1 ∧ y % 4 = 0 ∧ (y % 100 ≠ 0 ∨ y % 400 = 0)) ∨ (lp y = 0 ∧ ¬ (y % 4 = 0 ∧ (y % 100 ≠ 0 ∨ y % 400 = 0))) := by
  unfold lp leapB
  by_cases h : y % 4 = 0 ∧ (y % 100 ≠ 0 ∨ y % 400 = 0)
  · left; rw [if_pos (by simpa using h)]; exact ⟨rfl, h⟩
  · right; rw [if_neg (by simpa using h)]; exact ⟨rfl, h⟩
theorem A_succ (y : Int) : A (y + 1) = A y + 365 + lp y := by
  rcases lp_of y with ⟨h, h1, h2⟩ | ⟨h, h1⟩ <;> rw [h] <;> unfold A <;> omega
theorem A_mono (a b : Int) (h : a ≤ b) : A a ≤ A b := by
  obtain ⟨n, rfl⟩ : ∃ n : Nat, b = a + n := ⟨(b - a).toNat, by omega⟩
  clear h
  induction n with
  | zero => simp
  | succ n ih =>
    have := A_succ (a + n); have := lp_01 (a + n)
    have e : a + ((n + 1 : Nat) : Int) = a + n + 1 := by omega
    rw [e]; omega
theorem dm_bd (y m : Int) : 0 ≤ dm y m ∧ dm y m ≤ 31 := by
  have := lp_01 y
  unfold dm; split
  · omega
  · split
    · omega
    · split <;> omega
theorem dm_lo (y m : Int) (h1 : 1 ≤ m) (h2 : m ≤ 12) : 28 ≤ dm y m := by
  have := lp_01 y
  unfold dm; split
  · omega
  · split
    · omega
    · split <;> omega
theorem dm_pos (y m : Int) (h : 0 < dm y m) : 1 ≤ m ∧ m ≤ 12 := by
  unfold dm at h; split at h
  · omega
  · split at h
    · omega
    · split at h <;> omega
theorem m12 (m : Int) (h1 : 1 ≤ m) (h2 : m ≤ 12) : m = 1 ∨ m = 2 ∨ m = 3 ∨ m = 4 ∨ m = 5 ∨ m = 6 ∨ m = 7 ∨ m = 8 ∨ m = 9 ∨ m = 10 ∨ m = 11 ∨ m = 12 := by omega
theorem cum_succ (y m : Int) (h1 : 1 ≤ m) (h2 : m ≤ 12) : cum y (m + 1) = cum y m + dm y m := by
  rcases m12 m h1 h2 with rfl | rfl | rfl | rfl | rfl | rfl | rfl | rfl | rfl | rfl | rfl | rfl <;> simp [cum, dm] <;> omega
theorem cum_1 (y : Int) : cum y 1 = 0 := by simp [cum]
theorem cum_13 (y : Int) : cum y 13 = 365 + lp y := by simp [cum]
theorem cum_mono (y : Int) (n : Nat) : ∀ a b : Int, 1 ≤ a → b ≤ 13 → b = a + n → cum y a ≤ cum y b := by
  induction n with
  | zero => intro a b _ _ h; have : b = a := by omega
            rw [this]; exact Int.le_refl _
  | succ n ih =>
    intro a b ha hb h
    have h1 := ih a (b - 1) ha (by omega) (by omega)
    have h2 := cum_succ y (b - 1) (by omega) (by omega)
    have h3 := dm_bd y (b - 1)
    have e : b - 1 + 1 = b := by omega
    rw [e] at h2
    omega
theorem cum_le (y a b : Int) (ha : 1 ≤ a) (hab : a ≤ b) (hb : b ≤ 13) : cum y a ≤ cum y b := cum_mono y (b - a).toNat a b ha hb (by omega)
theorem Valid.lo {y m d : Int} (h : Valid y m d) : 0 ≤ cum y m := by
  have := cum_le y 1 m (by omega) h.m1 (by have := h.m2; omega)
  rw [cum_1] at this; exact this
theorem Valid.hi {y m d : Int} (h : Valid y m d) : cum y m + d ≤ 365 + lp y := by
  have h1 := cum_le y (m + 1) 13 (by have := h.m1; omega) (by have := h.m2; omega) (by omega)
  have h2 := cum_succ y m h.m1 h.m2
  have h3 := h.d2
  rw [cum_13] at h1
  omega
theorem Valid.year {y m d : Int} (h : Valid y m d) : A y ≤ num y m d ∧ num y m d < A (y + 1) := by
  have h1 := h.lo; have h2 := h.hi; have h3 := A_succ y; have h4 := h.d1
  unfold num; omega
theorem uniq {y m d y' m' d' : Int} (h : Valid y m d) (h' : Valid y' m' d') (e : num y m d = num y' m' d') : y = y' ∧ m = m' ∧ d = d' := by
  have ey : y = y' := by
    have a := h.year; have a' := h'.year
    rcases Int.lt_trichotomy y y' with hl | hl | hl
    · have := A_mono (y + 1) y' (by omega); omega
    · exact hl
    · have := A_mono (y' + 1) y (by omega); omega
  subst ey
  have em : m = m' := by
    have b1 := cum_succ y m h.m1 h.m2; have b2 := cum_succ y m' h'.m1 h'.m2
    have c1 := h.d1; have c2 := h.d2; have c3 := h'.d1; have c4 := h'.d2
    have c5 := h.m1; have c6 := h.m2; have c7 := h'.m1; have c8 := h'.m2
    unfold num at e
    rcases Int.lt_trichotomy m m' with hl | hl | hl
    · have := cum_le y (m + 1) m' (by omega) (by omega) (by omega); omega
    · exact hl
    · have := cum_le y (m' + 1) m (by omega) (by omega) (by omega); omega
  subst em
  exact ⟨rfl, rfl, by unfold num at e; omega⟩

theorem A_1900 : A 1900 = 693595 := by decide
theorem A_1904 : A 1904 = 695055 := by decide
theorem A_10000 : A 10000 = 3652059 := by decide
theorem A_1 : A 1 = 0 := by decide

theorem A_parts (a c b q : Int) (hc : 0 ≤ c ∧ c ≤ 3) (hb : 0 ≤ b ∧ b ≤ 24) (hq : 0 ≤ q ∧ q ≤ 3) :
    A (400 * a + 100 * c + 4 * b + q + 1) = 146097 * a + 36524 * c + 1461 * b + 365 * q := by
  unfold A
  have e : 400 * a + 100 * c + 4 * b + q + 1 - 1 = 400 * a + 100 * c + 4 * b + q := by omega
  rw [e]
  have e1 : (400 * a + 100 * c + 4 * b + q) / 4 = 100 * a + 25 * c + b := by omega
  have e2 : (400 * a + 100 * c + 4 * b + q) / 100 = 4 * a + c := by omega
  have e3 : (400 * a + 100 * c + 4 * b + q) / 400 = a := by omega
  rw [e1, e2, e3]; omega
theorem len_parts (a c b q r : Int) (_hc : 0 ≤ c ∧ c ≤ 3) (hb : 0 ≤ b ∧ b ≤ 24) (hq : 0 ≤ q ∧ q ≤ 3) (h1 : q < 3 → r < 365) (h2 : r ≤ 365) (h3 : r = 365 → b = 24 → c = 3) :
    r + 1 ≤ 365 + lp (400 * a + 100 * c + 4 * b + q + 1) := by
  have h := lp_01 (400 * a + 100 * c + 4 * b + q + 1)
  by_cases hr : r < 365
  · omega
  · obtain rfl : q = 3 := by omega
    have hr' : r = 365 := by omega
    have h3' := h3 hr'
    have e4 : (400 * a + 100 * c + 4 * b + 3 + 1) % 4 = 0 := by omega
    have e5 : (400 * a + 100 * c + 4 * b + 3 + 1) % 100 ≠ 0 ∨ (400 * a + 100 * c + 4 * b + 3 + 1) % 400 = 0 := by
      by_cases b24 : b = 24
      · have := h3' b24; right; omega
      · left; omega
    rcases lp_of (400 * a + 100 * c + 4 * b + 3 + 1) with ⟨hl, _⟩ | ⟨hl, hn⟩
    · omega
    · exact absurd ⟨e4, e5⟩ hn

/-- the greatest number of a system -/
def lastP (s : Int) : Int := if s = 0 then 2958465 else if s = 1 then 2957003 else -1
/-- the day that a number counts, from the year 1 on -/
def cnt (k s : Int) : Int := if s = 1 then 695055 + k else if k > 60 then 693595 + k - 2 else 693595 + k - 1
structure InR (k s : Int) : Prop where
  k0 : 0 ≤ k
  k1 : k ≤ lastP s
theorem InR.sys {k s : Int} (h : InR k s) : s = 0 ∨ s = 1 := by
  have h1 := h.k0; have h2 := h.k1
  unfold lastP at h2
  split at h2
  · exact .inl ‹_›
  · split at h2
    · exact .inr ‹_›
    · omega
/-- the two odd days From1900 -/
def odd (k s y m d : Int) : Prop := s = 0 ∧ ((k = 0 ∧ y = 1900 ∧ m = 1 ∧ d = 0) ∨ (k = 60 ∧ y = 1900 ∧ m = 2 ∧ d = 29))
def IsDate (k s y m d : Int) : Prop := odd k s y m d ∨ (¬ (s = 0 ∧ (k = 0 ∨ k = 60)) ∧ Valid y m d ∧ num y m d = cnt k s)
theorem not_valid_feb : ¬ Valid 1900 2 29 := by
  intro h; have := h.d2; simp [dm, lp, leapB] at this
theorem odd_not_valid {k s y m d : Int} (h : odd k s y m d) : ¬ Valid y m d := by
  rcases h with ⟨_, ⟨_, rfl, rfl, rfl⟩ | ⟨_, rfl, rfl, rfl⟩⟩
  · intro h; have := h.d1; omega
  · exact not_valid_feb
theorem date_uniq {k s y m d y' m' d' : Int} (h : IsDate k s y m d) (h' : IsDate k s y' m' d') : y = y' ∧ m = m' ∧ d = d' := by
  rcases h with h | ⟨hn, hv, he⟩
  · rcases h' with h' | ⟨hn', _, _⟩
    · rcases h with ⟨rfl, ⟨rfl, rfl, rfl, rfl⟩ | ⟨rfl, rfl, rfl, rfl⟩⟩
      · rcases h' with ⟨_, ⟨_, rfl, rfl, rfl⟩ | ⟨h0, _⟩⟩
        · exact ⟨rfl, rfl, rfl⟩
        · omega
      · rcases h' with ⟨_, ⟨h0, _⟩ | ⟨_, rfl, rfl, rfl⟩⟩
        · omega
        · exact ⟨rfl, rfl, rfl⟩
    · rcases h with ⟨rfl, ⟨rfl, _⟩ | ⟨rfl, _⟩⟩
      · exact absurd ⟨rfl, .inl rfl⟩ hn'
      · exact absurd ⟨rfl, .inr rfl⟩ hn'
  · rcases h' with h' | ⟨_, hv', he'⟩
    · rcases h' with ⟨rfl, ⟨rfl, _⟩ | ⟨rfl, _⟩⟩
      · exact absurd ⟨rfl, .inl rfl⟩ hn
      · exact absurd ⟨rfl, .inr rfl⟩ hn
    · exact uniq hv hv' (he.trans he'.symm)
theorem cnt_bd {k s : Int} (h : InR k s) : 693594 ≤ cnt k s ∧ cnt k s < 3652059 := by
  have h1 := h.k0; have h2 := h.k1
  unfold lastP at h2; unfold cnt
  rcases h.sys with rfl | rfl <;> simp at h2 ⊢
  · split <;> omega
  · omega
theorem cnt_lo {k s : Int} (h : InR k s) (hn : ¬ (s = 0 ∧ (k = 0 ∨ k = 60))) : 693595 ≤ cnt k s := by
  have h1 := h.k0
  unfold cnt
  rcases h.sys with rfl | rfl <;> simp at hn ⊢
  · split <;> omega
  · omega
theorem valid_years {y m d : Int} (h : Valid y m d) (lo : 693595 ≤ num y m d) (hi : num y m d < 3652059) : 1900 ≤ y ∧ y ≤ 9999 := by
  have a := h.year
  constructor
  · apply Decidable.byContradiction; intro hc
    have := A_mono (y + 1) 1900 (by omega); rw [A_1900] at this; omega
  · apply Decidable.byContradiction; intro hc
    have := A_mono 10000 y (by omega); rw [A_10000] at this; omega
/-- the number of a day, where it has one -/
def serP (n s : Int) : Int := if s = 1 then n - 695055 else if n - 693594 ≥ 60 then n - 693594 + 1 else n - 693594
theorem serP_cnt {k s : Int} (h : InR k s) (hn : ¬ (s = 0 ∧ (k = 0 ∨ k = 60))) : serP (cnt k s) s = k := by
  have h1 := h.k0
  unfold serP cnt
  rcases h.sys with rfl | rfl <;> simp at hn ⊢
  · split <;> split <;> omega
  · omega
theorem cnt_0s (k : Int) : cnt k 0 = if k > 60 then 693595 + k - 2 else 693595 + k - 1 := by unfold cnt; rw [if_neg (by omega)]
theorem cnt_next (k : Int) (h1 : k ≠ 60) : cnt (k + 1) 0 = cnt k 0 + 1 := by
  rw [cnt_0s, cnt_0s]
  by_cases h : k > 60
  · rw [if_pos h, if_pos (by omega)]; omega
  · rw [if_neg h, if_neg (by omega)]; omega
theorem cnt_serP {n s : Int} (hs : s = 0 ∨ s = 1) : cnt (serP n s) s = n := by
  unfold serP cnt
  rcases hs with rfl | rfl <;> simp
  · split <;> split <;> omega
  · omega
theorem serP_0 (n : Int) : serP n 0 = if n - 693594 ≥ 60 then n - 693594 + 1 else n - 693594 := by unfold serP; rw [if_neg (by omega)]
theorem serP_1 (n : Int) : serP n 1 = n - 695055 := by unfold serP; rw [if_pos rfl]
end Go.Proofs.Ytncgfmbogdhgbaa.Cal
