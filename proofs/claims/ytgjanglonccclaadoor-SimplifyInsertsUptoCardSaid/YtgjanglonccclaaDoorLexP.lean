/- The language's names, as plain Lean. No program in sight. -/
import Derived.RowKit
namespace Go.Proofs.YtgjanglonccclaaDoor
open Go.RowKit
set_option linter.unusedVariables false
set_option linter.unusedSimpArgs false

def letterB (c : Int) : Bool := decide (97 ≤ c) && decide (c ≤ 122)
def digitB (c : Int) : Bool := decide (48 ≤ c) && decide (c ≤ 57)
def wordB (c : Int) : Bool := letterB c || digitB c
def spaceB (c : Int) : Bool := c == 32 || c == 9 || c == 13 || c == 10

/-- The keywords, as bytes. -/
def kwBytes : List (List UInt8) :=
  [[105, 110, 116], [97, 114, 114, 97, 121], [115, 116, 97, 99, 107], [112, 114, 111, 99], [109, 97, 105, 110], [112, 117, 115, 104], [112, 111, 112], [114, 101, 97, 100],
   [117, 110, 114, 101, 97, 100], [119, 114, 105, 116, 101], [117, 110, 119, 114, 105, 116, 101], [99, 97, 108, 108], [117, 110, 99, 97, 108, 108], [105, 102], [101, 108, 115, 101], [102, 105],
   [102, 114, 111, 109], [108, 111, 111, 112], [117, 110, 116, 105, 108], [108, 111, 99, 97, 108], [100, 101, 108, 111, 99, 97, 108], [116, 111, 112], [115, 105, 122, 101]]
def keywordB (s : ByteArray) : Bool := kwBytes.contains s.data.toList

/-- How many bytes from the start satisfy p. -/
def spanL (p : Int → Bool) : List UInt8 → Nat
  | [] => 0
  | c :: cs => if p (c.toNat : Int) then spanL p cs + 1 else 0
theorem spanL_le (p : Int → Bool) (l : List UInt8) : spanL p l ≤ l.length := by
  induction l with
  | nil => simp [spanL]
  | cons c cs ih => simp only [spanL]; split <;> simp <;> omega
theorem spanL_all (p : Int → Bool) (l : List UInt8) : (spanL p l == l.length) = l.all fun c => p (c.toNat : Int) := by
  induction l with
  | nil => rfl
  | cons c cs ih =>
    simp only [spanL, List.all_cons, List.length_cons]
    by_cases h : p (c.toNat : Int) = true
    · rw [if_pos h, h, Bool.true_and, ← ih]; simp [Bool.eq_iff_iff]
    · rw [if_neg h]; simp [h]
/-- Position k of the walk along a string: the bytes before k satisfy p. -/
theorem spanL_at {p : Int → Bool} : ∀ {l : List UInt8} {k : Nat}, (∀ c ∈ l.take k, p (c.toNat : Int) = true) → ∀ h : k < l.length, p (l[k].toNat : Int) = false → spanL p l = k
  | [], k, _, h, _ => by simp at h
  | c :: cs, 0, _, _, h0 => by simp at h0; simp [spanL, h0]
  | c :: cs, k + 1, ha, h, h0 => by
    have h1 : p (c.toNat : Int) = true := ha c (by simp)
    simp only [spanL, h1, if_true]
    rw [spanL_at (l := cs) (k := k) (fun d hd => ha d (by simp [hd])) (by simpa using h) (by simpa using h0)]
theorem spanL_full {p : Int → Bool} {l : List UInt8} (ha : ∀ c ∈ l, p (c.toNat : Int) = true) : spanL p l = l.length := by
  have := spanL_all p l
  rw [List.all_eq_true.2 (fun c hc => ha c hc)] at this
  simpa using this

def nameL (l : List UInt8) : Bool :=
  match l with
  | [] => false
  | c :: cs => decide ((c :: cs).length ≤ 16) && !kwBytes.contains (c :: cs) && letterB (c.toNat : Int) && (c :: cs).all fun c => wordB (c.toNat : Int)
/-- Is a string a name? -/
def nameB (s : ByteArray) : Bool := nameL s.data.toList
end Go.Proofs.YtgjanglonccclaaDoor
