/- Tokens, plainly: which bytes are digits, parts of runs, blanks. No program in sight. -/
namespace Go.Tk

def digit (c : UInt8) : Bool := decide (48 ≤ c.toNat) && decide (c.toNat ≤ 57)
def part (c : UInt8) : Bool := (decide (97 ≤ c.toNat) && decide (c.toNat ≤ 122)) || (decide (65 ≤ c.toNat) && decide (c.toNat ≤ 90)) || c.toNat == 95 || digit c
def blank (c : UInt8) : Bool := c.toNat == 32 || c.toNat == 9 || c.toNat == 10 || c.toNat == 13

end Go.Tk
namespace Go.Tk
/-- the reserved words: use pub const fn type trait impl for macro let while if else print new true false int bool unit Self -/
def wordBytes : List (List UInt8) := [[117, 115, 101], [112, 117, 98], [99, 111, 110, 115, 116], [102, 110], [116, 121, 112, 101], [116, 114, 97, 105, 116], [105, 109, 112, 108], [102, 111, 114], [109, 97, 99, 114, 111], [108, 101, 116], [119, 104, 105, 108, 101], [105, 102], [101, 108, 115, 101], [112, 114, 105, 110, 116], [110, 101, 119], [116, 114, 117, 101], [102, 97, 108, 115, 101], [105, 110, 116], [98, 111, 111, 108], [117, 110, 105, 116], [83, 101, 108, 102]]
def reserved (l : List UInt8) : Bool := wordBytes.contains l
end Go.Tk
namespace Go.Tk
/-- the kind of a run -/
def kind (l : List UInt8) : Int := if digit (l.headD 0) then (if l.all digit && decide (l.length ≤ 18) then 3 else 5) else if reserved l then 2 else 1
theorem kind_int {l : List UInt8} (h : digit (l.headD 0) = true) (ha : ∀ x ∈ l, digit x = true) (hl : l.length ≤ 18) : kind l = 3 := by
  unfold kind
  rw [if_pos h, if_pos (by rw [Bool.and_eq_true]; exact ⟨List.all_eq_true.2 ha, by simpa using hl⟩)]
theorem kind_bad {l : List UInt8} (h : digit (l.headD 0) = true) (hb : (∃ x ∈ l, digit x = false) ∨ 18 < l.length) : kind l = 5 := by
  unfold kind
  rw [if_pos h, if_neg]
  rw [Bool.and_eq_true]
  intro ⟨ha, hl⟩
  rcases hb with ⟨x, hx, hd⟩ | hb
  · rw [List.all_eq_true.1 ha x hx] at hd; cases hd
  · simp at hl; omega
theorem kind_word {l : List UInt8} (h : digit (l.headD 0) = false) (hr : reserved l = true) : kind l = 2 := by
  unfold kind; rw [if_neg (by rw [h]; simp), if_pos hr]
theorem kind_name {l : List UInt8} (h : digit (l.headD 0) = false) (hr : reserved l = false) : kind l = 1 := by
  unfold kind; rw [if_neg (by rw [h]; simp), if_neg (by rw [hr]; simp)]
end Go.Tk
namespace Go.Tk
/-- the marks -/
def twos : List (List UInt8) := [[38, 38], [124, 124], [61, 61], [45, 62]]
def ones : List UInt8 := [40, 41, 123, 125, 60, 62, 44, 59, 58, 46, 61, 43, 45, 42, 47, 37, 33]
def mark (l : List UInt8) : Int := if twos.any (fun t => t.isPrefixOf l) then 2 else if ones.contains (l.headD 0) then 1 else 0
end Go.Tk
