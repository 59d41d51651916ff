/- What the functions that are proved by hand compute, in plain Lean, and the fact on the library's tables that some of them ask for; no program is walked here. -/
import Derived.Test.YtpefkehcibdjgaaDoorProg
import Derived.Test.YtpefkehcibdjgaaDoorWMore
import Derived.Below
import Derived.Deep.Draws
import Derived.WalkKit
import Derived.Lib.DecodeN
import Derived.Lib.ValidU
import Derived.Shelf.Unicode.DecodeSlow
import Derived.Lib.Repeat
namespace Go.Proofs.YtpefkehcibdjgaaDoor.H
open Go.RowKit Go.Proofs.YtpefkehcibdjgaaDoorW.PrintWords Go.Proofs.YtpefkehcibdjgaaDoorW.PrintLast Go.Proofs.YtpefkehcibdjgaaDoorW.PrintMore
/-- unicode.asciiFold, as a plain function -/
def foldT (c : Nat) : Int := if c = 75 then 107 else if c = 83 then 115 else if c = 107 then 8490 else if c = 115 then 383 else if 65 ≤ c ∧ c ≤ 90 then c + 32 else if 97 ≤ c ∧ c ≤ 122 then c - 32 else c
/-- the library's tables of UTF-8 lie in memory: unicode/utf8.first, unicode/utf8.acceptRanges -/
structure LaidU (w : World) : Prop where
  utf : Lib.Utf8Tabs 3 4 w
  size : 4 < w.heap.size
/-- .. and unicode.asciiFold -/
structure Laid (w : World) : Prop extends LaidU w where
  fold : ∀ c, c < 128 → w.cell? ⟨0, c, none⟩ = some (.int .u16 (foldT c))
theorem LaidU.below {w w' : World} (h : LaidU w) (hb : Below w.heap.size w w') : LaidU w' where
  utf := ⟨fun c hc => (hb.cell (p := ⟨3, c, none⟩) (by have := h.size; show 3 < _; omega)).trans (h.utf.1 c hc),
    fun i hi => ⟨(hb.cell (p := ⟨4, 2 * i, none⟩) (by have := h.size; show 4 < _; omega)).trans (h.utf.2 i hi).1, (hb.cell (p := ⟨4, 2 * i + 1, none⟩) (by have := h.size; show 4 < _; omega)).trans (h.utf.2 i hi).2⟩⟩
  size := by have := h.size; have := hb.size; omega
theorem Laid.below {w w' : World} (h : Laid w) (hb : Below w.heap.size w w') : Laid w' where
  toLaidU := h.toLaidU.below hb
  fold := fun c hc => (hb.cell (p := ⟨0, c, none⟩) (by have := h.size; show 0 < _; omega)).trans (h.fold c hc)
/-- a cell that is written twice -/
@[go_sem] theorem cell_set_twice (w : World) (a : Addr) (u v : Value) (h : (w.cell? a).isSome = true) : ((w.setCell a u).setCell a v).cell? a = some v := by
  obtain ⟨x, hx⟩ := Option.isSome_iff_exists.1 h
  exact World.cell?_setCell_same (w := w.setCell a u) (a := a) (u := u) (v := v) (World.cell?_setCell_same (w := w) (a := a) (u := x) (v := u) hx)
/-- a cell, and a store, behind a drawn order -/
theorem cell_dn {w : World} {a : Addr} {v : Value} (n : Nat) (h : w.cell? a = some v) : (w.drewN n).cell? a = some v := h
theorem set_dn (w : World) (n : Nat) (a : Addr) (v : Value) : (w.setCell a v).drewN n = (w.drewN n).setCell a v := rfl
/-- the greatest size of a string that is spoken of -/
def big : Nat := 70368744177664
def cont (c : Int) : Bool := decide (c / 64 = 2)
/-- the sign at a text's beginning -/
def firstP (s : ByteArray) : Int × Int × Bool :=
  let b0 := bt s 0; let b1 := bt s 1; let b2 := bt s 2; let b3 := bt s 3
  if s.size = 0 then (0, 0, false)
  else if b0 < 128 then (b0, 1, true)
  else if b0 / 32 = 6 ∧ 2 ≤ s.size ∧ b1 / 64 = 2 ∧ 128 ≤ b0 % 32 * 64 + b1 % 64 then (b0 % 32 * 64 + b1 % 64, 2, true)
  else if b0 / 16 = 14 ∧ 3 ≤ s.size ∧ b1 / 64 = 2 ∧ b2 / 64 = 2 ∧ 2048 ≤ b0 % 16 * 4096 + b1 % 64 * 64 + b2 % 64 ∧ (b0 % 16 * 4096 + b1 % 64 * 64 + b2 % 64 < 55296 ∨ 57343 < b0 % 16 * 4096 + b1 % 64 * 64 + b2 % 64) then (b0 % 16 * 4096 + b1 % 64 * 64 + b2 % 64, 3, true)
  else if b0 / 8 = 30 ∧ 4 ≤ s.size ∧ b1 / 64 = 2 ∧ b2 / 64 = 2 ∧ b3 / 64 = 2 ∧ 65536 ≤ b0 % 8 * 262144 + b1 % 64 * 4096 + b2 % 64 * 64 + b3 % 64 ∧ b0 % 8 * 262144 + b1 % 64 * 4096 + b2 % 64 * 64 + b3 % 64 ≤ 1114111 then (b0 % 8 * 262144 + b1 % 64 * 4096 + b2 % 64 * 64 + b3 % 64, 4, true)
  else (0, 0, false)
def runes_First.f (a0 : ByteArray) : Option (Int × Int × Bool) := if a0.size ≤ big then some (firstP a0) else none
def runes_lead.f (a0 : Int) : Option Int := if a0 = 0 ∨ a0 = 1 then some 0 else if a0 = 2 then some 192 else if a0 = 3 then some 224 else if a0 = 4 then some 240 else none
def runes_Right.f (a0 : ByteArray) : Option Bool := if a0.size ≤ 1073741824 then some (Lib.validD a0.data.toList) else none
/-- the kind of a sign that is a token alone -/
def singleP (c : Int) : Int × Bool :=
  if c = 48 ∨ c = 35 ∨ c = 63 then (6, true) else if c = 46 then (7, true) else if c = 44 then (8, true) else if c = 37 then (9, true) else if c = 47 then (10, true) else if c = 59 then (11, true) else if c = 64 then (12, true) else (0, false)
def token_single.f (a0 : Int) : Option (Int × Bool) := if 0 ≤ a0 ∧ a0 ≤ 255 then some (singleP a0) else none
/-- a letter, small -/
def smallN (c : Nat) : Nat := if 65 ≤ c ∧ c ≤ 90 then c + 32 else c
def wAm : ByteArray := ⟨#[65, 77, 47, 80, 77]⟩
def wA : ByteArray := ⟨#[65, 47, 80]⟩
def wGen : ByteArray := ⟨#[71, 101, 110, 101, 114, 97, 108]⟩
/-- does a text begin with a word, letters small or great -/
def beginsP (s w : ByteArray) : Bool := decide (w.size ≤ s.size) && ((s.data.toList.take w.size).map (fun b => smallN b.toNat) == w.data.toList.map (fun b => smallN b.toNat))
def token_word.f (a0 a1 : ByteArray) : Option Bool := if a0.size ≤ big ∧ (a1 = wAm ∨ a1 = wA ∨ a1 = wGen) then some (beginsP a0 a1) else none
/-- where a byte first stands; -1: nowhere -/
def indexP (l : List UInt8) (c : Int) : Int := match l.findIdx? (fun b => (b.toNat : Int) == c) with | some i => i | none => -1
def strings_IndexByte.f (a0 : ByteArray) (a1 : Int) : Option Int := if a0.size ≤ big ∧ 0 ≤ a1 ∧ a1 ≤ 255 then some (indexP a0.data.toList a1) else none
def repeatP (s : ByteArray) (n : Nat) : ByteArray := ⟨(Lib.repeatL s.data.toList n).toArray⟩
def strings_Repeat.f (a0 : ByteArray) (a1 : Int) : Option ByteArray := if 0 ≤ a1 ∧ a1 ≤ 4096 ∧ a0.size ≤ 1073741824 then some (repeatP a0 a1.toNat) else none
def lowP (s : ByteArray) : ByteArray := ⟨(s.data.toList.map (fun b => if 65 ≤ b.toNat ∧ b.toNat ≤ 90 then b + 32 else b)).toArray⟩
def numeraryref11_low.f (a0 : ByteArray) : Option ByteArray := if a0.size ≤ big then some (lowP a0) else none
/-- two texts are one but for letters of a to z, small or great; and what is beyond ASCII is whole signs -/
def strings_EqualFold.f (a0 a1 : ByteArray) : Option Bool := if a0.size ≤ big ∧ a0.data.toList.map (fun b => smallN b.toNat) = a1.data.toList.map (fun b => smallN b.toNat) then some true else none
end Go.Proofs.YtpefkehcibdjgaaDoor.H
