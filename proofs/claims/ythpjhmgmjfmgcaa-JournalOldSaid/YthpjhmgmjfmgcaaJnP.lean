/- Journals, plainly: the bytes of a disk, and the blocks that stand in them. No program in sight. -/
import Derived.Test.YthpjhmgmjfmgcaaDig
import Derived.Test.YthpjhmgmjfmgcaaDkP
namespace Go.Jn
open Go

abbrev Bytes := List UInt8
/-- how many sectors a block takes -/
def need (n : Nat) : Nat := (n + 95) / 64
/-- the head's first half -/
def first (count n : Nat) : Bytes := Dg.bs8 count ++ Dg.bs8 n
/-- the digest of a block behind a chain -/
def mark (len : Int) (sum : BitVec 64) (count : Nat) (p : Bytes) : BitVec 64 := Dg.sum Dg.start (Dg.bsOf len sum ++ (first count p.length ++ p))
/-- the payload of the block that stands at the beginning of some bytes -/
def stands (b : Bytes) (count : Nat) (len : Int) (sum : BitVec 64) : Option Bytes :=
  if b.length < 32 then none
  else if Dg.rd (b.take 8) ≠ count then none
  else if b.length - 32 < Dg.rd ((b.drop 8).take 8) then none
  else if Dg.bsOf (32 + Dg.rd ((b.drop 8).take 8) : Nat) (mark len sum count ((b.drop 32).take (Dg.rd ((b.drop 8).take 8)))) = (b.drop 16).take 16 then some ((b.drop 32).take (Dg.rd ((b.drop 8).take 8)))
  else none

structure St where
  count : Nat
  next : Nat
  len : Nat
  sum : BitVec 64
def St.zero : St := ⟨0, 0, 0, 0#64⟩
def St.push (s : St) (p : Bytes) : St := ⟨s.count + 1, s.next + need p.length, 32 + p.length, mark s.len s.sum (s.count + 1) p⟩
def step (b : Bytes) (s : St) : Option Bytes := stands (b.drop (64 * s.next)) (s.count + 1) s.len s.sum
def scan (b : Bytes) : Nat → List Bytes → St → List Bytes × St
  | 0, l, s => (l, s)
  | f + 1, l, s => match step b s with
    | none => (l, s)
    | some p => scan b f (l ++ [p]) (s.push p)
/-- the bytes of a disk -/
def img (D : Dk.Dsk) : Bytes := (List.range D.cells.length).flatMap (Dk.read D)
/-- what a disk's journal is -/
def read (D : Dk.Dsk) : List Bytes × St := scan (img D) (D.cells.length + 1) [] St.zero

theorem rows_length {f : Nat → Bytes} : ∀ {n : Nat}, (∀ k, k < n → (f k).length = 64) → ((List.range n).flatMap f).length = 64 * n
  | 0, _ => rfl
  | n + 1, h => by
    rw [List.range_succ, List.flatMap_append, List.length_append, rows_length (n := n) fun k hk => h k (by omega)]
    simp [h n (by omega)]; omega
theorem img_length {D : Dk.Dsk} (h : Dk.Good D) : (img D).length = 64 * D.cells.length := rows_length fun _ hk => Dk.read_length h hk

theorem stands_some {b : Bytes} {count : Nat} {len : Int} {sum : BitVec 64} {p : Bytes} (h : stands b count len sum = some p) : 32 + p.length ≤ b.length := by
  unfold stands at h
  split at h
  · cases h
  split at h
  · cases h
  split at h
  · cases h
  split at h
  · injection h with h
    subst h
    rw [List.length_take, List.length_drop]
    omega
  · cases h

/-- what is known between two rounds of a scan of some whole sectors -/
structure Ok (n : Nat) (s : St) : Prop where
  count : s.count ≤ s.next
  next : s.next ≤ n
  len : s.len ≤ 64 * n
theorem Ok.zero (n : Nat) : Ok n St.zero := ⟨Nat.le_refl _, Nat.zero_le _, Nat.zero_le _⟩
theorem step_len {b : Bytes} {s : St} {p : Bytes} (h : step b s = some p) : 32 + p.length + 64 * s.next ≤ b.length := by
  have := stands_some h
  rw [List.length_drop] at this
  omega
theorem Ok.push {n : Nat} {b : Bytes} {s : St} {p : Bytes} (hb : b.length = 64 * n) (h : step b s = some p) (ho : Ok n s) : Ok n (s.push p) := by
  have h1 := step_len h
  have h2 := ho.count
  refine ⟨?_, ?_, ?_⟩
  · show s.count + 1 ≤ s.next + need p.length
    unfold need; omega
  · show s.next + need p.length ≤ n
    unfold need; omega
  · show 32 + p.length ≤ 64 * n
    omega
theorem scan_none {b : Bytes} {f : Nat} {l : List Bytes} {s : St} (h : step b s = none) : scan b f l s = (l, s) := by
  cases f with
  | zero => rfl
  | succ f => rw [scan, h]
theorem scan_some {b : Bytes} {f : Nat} {l : List Bytes} {s : St} {p : Bytes} (h : step b s = some p) : scan b (f + 1) l s = scan b f (l ++ [p]) (s.push p) := by rw [scan, h]
/-- a state of the scan from which the rest is scanned -/
def At (b : Bytes) (n : Nat) (R : List Bytes × St) (l : List Bytes) (s : St) : Prop := Ok n s ∧ ∃ f, n < s.next + f ∧ scan b f l s = R
theorem At.zero {D : Dk.Dsk} : At (img D) D.cells.length (read D) [] St.zero := ⟨Ok.zero _, D.cells.length + 1, by show _ < 0 + _; omega, rfl⟩
theorem At.none {b : Bytes} {n : Nat} {R : List Bytes × St} {l : List Bytes} {s : St} (h : At b n R l s) (hs : step b s = none) : R = (l, s) := by
  obtain ⟨_, f, _, h⟩ := h
  rw [← h, scan_none hs]
theorem At.some {b : Bytes} {n : Nat} {R : List Bytes × St} {l : List Bytes} {s : St} {p : Bytes} (hb : b.length = 64 * n) (h : At b n R l s) (hs : step b s = some p) : At b n R (l ++ [p]) (s.push p) := by
  obtain ⟨ho, f, hf, h⟩ := h
  have h1 := step_len hs
  refine ⟨ho.push hb hs, f - 1, ?_, ?_⟩
  · show n < s.next + need p.length + (f - 1)
    unfold need; omega
  · cases f with
    | zero => have := ho.next; omega
    | succ f => rw [scan_some hs] at h; exact h
end Go.Jn
