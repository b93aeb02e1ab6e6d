/- Objects, plainly: an object is read. -/
import Derived.Test.YtabeimmjclkobaaObL
namespace Go.Ob
/-- where the reader is, and its error -/
abbrev St := Nat × Int
def rNum (b : List UInt8) (s : St) : Int × St :=
  if s.2 = 0 then ((read (b.drop s.1)).1, (s.1 + (read (b.drop s.1)).2.1, if len (b.drop s.1) = 0 then 8 else if (read (b.drop s.1)).2.2 = true then 0 else 5)) else (0, s)
def rCount (b : List UInt8) (s : St) : Nat × St :=
  if (rNum b s).1 < 0 then (0, ((rNum b s).2.1, 5)) else if 4000 < (rNum b s).1 then (0, ((rNum b s).2.1, 3)) else if (rNum b s).2.2 = 0 then ((rNum b s).1.toNat, (rNum b s).2) else (0, (rNum b s).2)
def rMany (b : List UInt8) : Nat → St → List Int × St
  | 0, s => ([], s)
  | k + 1, s => ((rMany b k s).1 ++ [(rNum b (rMany b k s).2).1], (rNum b (rMany b k s).2).2)
def rList (b : List UInt8) (s : St) : List Int × St := rMany b (rCount b s).1 (rCount b s).2
def rText (b : List UInt8) (s : St) : List UInt8 × St :=
  if b.length - (rCount b s).2.1 < (rCount b s).1 then ([], ((rCount b s).2.1, 8)) else ((b.drop (rCount b s).2.1).take (rCount b s).1, ((rCount b s).2.1 + (rCount b s).1, (rCount b s).2.2))
theorem read_size (b : List UInt8) : (read b).2.1 ≤ b.length := by
  unfold read
  split
  · exact len_le b
  · exact Nat.zero_le _
theorem rNum_at {b : List UInt8} {s : St} (h : s.1 ≤ b.length) : (rNum b s).2.1 ≤ b.length := by
  unfold rNum
  split
  · have := read_size (b.drop s.1)
    rw [List.length_drop] at this
    show s.1 + _ ≤ _
    omega
  · exact h
theorem rCount_at {b : List UInt8} {s : St} (h : s.1 ≤ b.length) : (rCount b s).2.1 ≤ b.length := by
  have := rNum_at h
  unfold rCount
  split
  · exact this
  · split
    · exact this
    · split <;> exact this
theorem rCount_le (b : List UInt8) (s : St) : (rCount b s).1 ≤ 4000 := by
  unfold rCount
  split
  · exact Nat.zero_le _
  · split
    · exact Nat.zero_le _
    · split
      · show (rNum b s).1.toNat ≤ 4000; omega
      · exact Nat.zero_le _
theorem rMany_at {b : List UInt8} {s : St} (h : s.1 ≤ b.length) : ∀ k, (rMany b k s).2.1 ≤ b.length
  | 0 => h
  | k + 1 => rNum_at (rMany_at h k)
theorem rMany_len {b : List UInt8} {s : St} : ∀ k, (rMany b k s).1.length = k
  | 0 => rfl
  | k + 1 => by
    show ((rMany b k s).1 ++ [_]).length = k + 1
    rw [List.length_append, rMany_len k]; rfl
theorem rList_at {b : List UInt8} {s : St} (h : s.1 ≤ b.length) : (rList b s).2.1 ≤ b.length := rMany_at (rCount_at h) _
theorem rText_at {b : List UInt8} {s : St} (h : s.1 ≤ b.length) : (rText b s).2.1 ≤ b.length := by
  have := rCount_at h
  unfold rText
  split
  · exact this
  · show _ + _ ≤ _; omega
theorem unzz_wf {u : Nat} (h : u < 18446744073709551616) : wf (unzz u) := by
  unfold unzz wf
  split <;> omega
theorem read_wf (b : List UInt8) : wf (read b).1 := by
  unfold read
  split
  · rename_i h
    exact unzz_wf (val_good h)
  · exact ⟨by decide, by decide⟩
theorem rNum_wf (b : List UInt8) (s : St) : wf (rNum b s).1 := by
  unfold rNum
  split
  · exact read_wf _
  · show wf 0; exact ⟨by decide, by decide⟩
/-- one operation -/
def rOp (b : List UInt8) (s : St) : Op × St :=
  (⟨(rNum b s).1, (rNum b (rNum b s).2).1, (rNum b (rNum b (rNum b s).2).2).1, (rNum b (rNum b (rNum b (rNum b s).2).2).2).1,
    (rList b (rNum b (rNum b (rNum b (rNum b s).2).2).2).2).1, (rText b (rList b (rNum b (rNum b (rNum b (rNum b s).2).2).2).2).2).1⟩,
   (rText b (rList b (rNum b (rNum b (rNum b (rNum b s).2).2).2).2).2).2)
def rOps (b : List UInt8) : Nat → St → List Op × St
  | 0, s => ([], s)
  | k + 1, s => if (rOps b k s).2.2 = 0 then ((rOps b k s).1 ++ [(rOp b (rOps b k s).2).1], (rOp b (rOps b k s).2).2) else rOps b k s
def zero : Plc := ⟨0, [], 0, 0, []⟩
def rPlaced (b : List UInt8) (s : St) : Plc × St :=
  if b[s.1]? = some 79 then
    let x := rNum b (s.1 + 1, s.2)
    let l := rList b x.2
    let r := rNum b l.2
    let c := rCount b r.2
    let o := rOps b c.1 c.2
    (⟨x.1, l.1, l.1.length, r.1, o.1⟩, o.2)
  else (zero, (s.1, 5))
/-- what ReadObject returns -/
def readObj (b : List UInt8) : Plc × Nat × Int :=
  if (rPlaced b (0, 0)).2.2 = 0 then ((rPlaced b (0, 0)).1, (rPlaced b (0, 0)).2.1, 0) else (zero, 0, (rPlaced b (0, 0)).2.2)
theorem rOp_at {b : List UInt8} {s : St} (h : s.1 ≤ b.length) : (rOp b s).2.1 ≤ b.length :=
  rText_at (rList_at (rNum_at (rNum_at (rNum_at (rNum_at h)))))
theorem rOps_at {b : List UInt8} {s : St} (h : s.1 ≤ b.length) : ∀ k, (rOps b k s).2.1 ≤ b.length
  | 0 => h
  | k + 1 => by
    have := rOps_at h k
    unfold rOps
    split
    · exact rOp_at this
    · exact this
theorem rOps_len {b : List UInt8} {s : St} : ∀ k, (rOps b k s).1.length ≤ k
  | 0 => Nat.le_refl _
  | k + 1 => by
    have := rOps_len (b := b) (s := s) k
    unfold rOps
    split
    · show ((rOps b k s).1 ++ [_]).length ≤ k + 1
      rw [List.length_append]; simp; omega
    · omega
theorem rOps_stop {b : List UInt8} {s : St} {j : Nat} (h : (rOps b j s).2.2 ≠ 0) : ∀ m, rOps b (j + m) s = rOps b j s
  | 0 => rfl
  | m + 1 => by
    have := rOps_stop h m
    show rOps b (j + m + 1) s = _
    rw [rOps, this, if_neg h]
end Go.Ob
