/-
  Plain laws about formals, types and ways, over names of kinds and ranks. No program stands in this text.
-/
import Derived.Test.YtdmdfokkibijjaaGreatDoorPlain3
import Derived.Lib.Hide
namespace Go.Proofs.YtdmdfokkibijjaaGreatDoor.Sgn

def cInt : ByteArray := ⟨#[105, 110, 116]⟩
def cBool : ByteArray := ⟨#[98, 111, 111, 108]⟩
def cNone : ByteArray := ⟨#[110, 111, 110, 101]⟩
def cDom : ByteArray := ⟨#[100, 111, 109, 97, 105, 110]⟩
def cArr : ByteArray := ⟨#[97, 114, 114, 97, 121]⟩
def cAny : ByteArray := ⟨#[97, 110, 121]⟩

/-- none of the six words -/
structure Other (k : ByteArray) : Prop where
  h1 : (k.toList == [105, 110, 116]) = false
  h2 : (k.toList == [98, 111, 111, 108]) = false
  h3 : (k.toList == [110, 111, 110, 101]) = false
  h4 : (k.toList == [100, 111, 109, 97, 105, 110]) = false
  h5 : (k.toList == [97, 114, 114, 97, 121]) = false
  h6 : (k.toList == [97, 110, 121]) = false

theorem eq_bytes {k : ByteArray} {l : List UInt8} : (k.toList == l) = true ↔ k = ⟨l.toArray⟩ := by
  rw [Lib.toList_data, beq_iff_eq]
  constructor
  · intro h; cases k with | mk d => subst h; simp
  · rintro rfl; simp

theorem kinds (k : ByteArray) : k = ⟨#[105, 110, 116]⟩ ∨ k = ⟨#[98, 111, 111, 108]⟩ ∨ k = ⟨#[110, 111, 110, 101]⟩ ∨ k = ⟨#[100, 111, 109, 97, 105, 110]⟩ ∨ k = ⟨#[97, 114, 114, 97, 121]⟩ ∨ k = ⟨#[97, 110, 121]⟩ ∨ Other k := by
  cases h1 : (k.toList == [105, 110, 116])
  · cases h2 : (k.toList == [98, 111, 111, 108])
    · cases h3 : (k.toList == [110, 111, 110, 101])
      · cases h4 : (k.toList == [100, 111, 109, 97, 105, 110])
        · cases h5 : (k.toList == [97, 114, 114, 97, 121])
          · cases h6 : (k.toList == [97, 110, 121])
            · exact .inr (.inr (.inr (.inr (.inr (.inr ⟨h1, h2, h3, h4, h5, h6⟩)))))
            · exact .inr (.inr (.inr (.inr (.inr (.inl (eq_bytes.1 h6))))))
          · exact .inr (.inr (.inr (.inr (.inl (eq_bytes.1 h5)))))
        · exact .inr (.inr (.inr (.inl (eq_bytes.1 h4))))
      · exact .inr (.inr (.inl (eq_bytes.1 h3)))
    · exact .inr (.inl (eq_bytes.1 h2))
  · exact .inl (eq_bytes.1 h1)

/-- is it a type, by its word and its rank -/
def isType (k : ByteArray) (n : Int) : Bool :=
  if (k.toList == [105, 110, 116]) || (k.toList == [98, 111, 111, 108]) || (k.toList == [110, 111, 110, 101]) then n == 0
  else if (k.toList == [100, 111, 109, 97, 105, 110]) || (k.toList == [97, 114, 114, 97, 121]) then decide (1 ≤ n) && decide (n ≤ 3)
  else false
def isShaped (k : ByteArray) : Bool := (k.toList == [100, 111, 109, 97, 105, 110]) || (k.toList == [97, 114, 114, 97, 121])
def isPlain (k : ByteArray) (n : Int) : Bool := ((k.toList == [105, 110, 116]) || (k.toList == [98, 111, 111, 108])) && n == 0
def isActual (k : ByteArray) (n : Int) : Bool := isType k n && !(k.toList == [110, 111, 110, 101])
def isFormal (k : ByteArray) (n : Int) : Bool := isActual k n || (isShaped k && n == 0) || ((k.toList == [97, 110, 121]) && n == 0)

/-- the way in which an actual fits a formal; below 0: it does not (the program's switch) -/
def fitsOf (k : List UInt8) (n : Int) (k' : List UInt8) (n' : Int) : Int :=
  if k = k' ∧ n = n' then 0
  else if k = [105, 110, 116] ∧ k' = [98, 111, 111, 108] then 1
  else if n = 0 ∧ k = k' then 2
  else if k = [97, 110, 121] then 3
  else if k = [105, 110, 116] ∧ k' = [97, 114, 114, 97, 121] then 4
  else -1
/-- the same, of the document's answer -/
def wayOf (k : List UInt8) (n : Int) (k' : List UInt8) (n' : Int) : Int :=
  if k = k' ∧ n = n' then 0
  else if k = [105, 110, 116] ∧ k' = [98, 111, 111, 108] then 1
  else if (k = [100, 111, 109, 97, 105, 110] ∨ k = [97, 114, 114, 97, 121]) ∧ n = 0 ∧ k = k' then 2
  else if k = [97, 110, 121] then 3
  else if k = [105, 110, 116] ∧ k' = [97, 114, 114, 97, 121] then 4
  else -1

end Go.Proofs.YtdmdfokkibijjaaGreatDoor.Sgn
