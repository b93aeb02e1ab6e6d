/- Parts of slices of bytes. -/
import Derived.Test.YtabeimmjclkobaaSl
import Derived.Test.YtabeimmjclkobaaLs
namespace Go.Proofs.Ytabeimmjclkobaa
open Go.ChangeShapes Go.WideShapes Go.RowKit

theorem part_holds {A : Nat → Prop} {w : World} {p : Option Addr} {bs : List UInt8} (h : Holds A w p (bs.map byteVal)) (l r m : Nat) (hr : r ≤ m) :
    Holds A w (if m = l then p else p.map (·.add (l * 1))) (((bs.drop l).take (r - l)).map byteVal) := by
  by_cases hm : m = l
  · rw [show r - l = 0 by omega]; exact .inl (by simp)
  · rw [if_neg hm]
    by_cases hb : bs = []
    · subst hb; exact .inl (by simp)
    · obtain ⟨g, off, rfl, _⟩ := h.at (by rw [List.length_map]; exact List.length_pos_iff.2 hb)
      have := h.part l (r - l)
      rw [List.map_take, List.map_drop]
      simpa [Addr.add_lit] using this
theorem size_byte (w : World) : (sizeOf (Try.prog.elem 22)).run Try.prog w = .ok 1 w := by
  have hs : (Try.prog.info? 5).map (fun i => (i.zero, i.size, i.bytes)) = some (some (.int .u8 0), 1, 1) := by kernel_rfl
  obtain ⟨i, hi, hz, hsize, hby⟩ := info_parts hs
  rw [show Try.prog.elem 22 = 5 by kernel_rfl]
  simp [sizeOf, typeInfo, hi, hsize]
theorem under_bytes : Try.prog.underlying 22 = some (.slice (Try.prog.elem 22)) := by
  rw [show Try.prog.elem 22 = 5 by kernel_rfl]; exact Try.underlying22
/-- 's[l:r]' -/
theorem cut_lr {A : Nat → Prop} {w : World} {p : Option Addr} {bs : List UInt8} (h : Holds A w p (bs.map byteVal)) (n c l r k : Nat) (X Y : Int) (hX : X = l) (hY : Y = r) (hk : r - l = k) (hl : l ≤ r) (hr : r ≤ c) :
    ∃ p', (∀ w', (Instr.sliceAt 22 (.slice p n c) (some (.int .i64 X)) (some (.int .i64 Y)) none).run Try.prog w' = .ok (.slice p' k (c - l)) w') ∧ Holds A w p' (((bs.drop l).take k).map byteVal) := by
  subst hX hY hk
  refine ⟨_, fun w' => ?_, part_holds h l r c hr⟩
  rw [run_sliceAt_slice w' _ _ _ _ _ under_bytes, run_slice_lh w' _ p n c under_bytes .i64 .i64 l r (by omega) (by omega) (by omega), size_byte]
  rfl
/-- 's[l:]' -/
theorem cut_l {A : Nat → Prop} {w : World} {p : Option Addr} {bs : List UInt8} (h : Holds A w p (bs.map byteVal)) (n c l : Nat) (X : Int) (hX : X = l) (hl : l ≤ n) (hn : n ≤ c) :
    ∃ p', (∀ w', (Instr.sliceAt 22 (.slice p n c) (some (.int .i64 X)) none none).run Try.prog w' = .ok (.slice p' (n - l) (c - l)) w') ∧ Holds A w p' (((bs.drop l).take (n - l)).map byteVal) := by
  subst hX
  refine ⟨_, fun w' => ?_, part_holds h l n c hn⟩
  rw [run_sliceAt_slice w' _ _ _ _ _ under_bytes, run_slice_l w' _ p n c under_bytes .i64 l (by omega) (by omega), size_byte]
  rfl
/-- 's[:r]' -/
theorem cut_r {A : Nat → Prop} {w : World} {p : Option Addr} {bs : List UInt8} (h : Holds A w p (bs.map byteVal)) (n c r : Nat) (Y : Int) (hY : Y = r) (hr : r ≤ c) :
    ∃ p', (∀ w', (Instr.sliceAt 22 (.slice p n c) none (some (.int .i64 Y)) none).run Try.prog w' = .ok (.slice p' r c) w') ∧ Holds A w p' ((bs.take r).map byteVal) := by
  subst hY
  refine ⟨_, fun w' => ?_, by have := part_holds h 0 r c hr; simpa using this⟩
  rw [run_sliceAt_slice w' _ _ _ _ _ under_bytes, run_slice_h w' _ p n c under_bytes .i64 r (by omega) (by omega), size_byte]
  simp [Result.andThen, sliced]
/-- 's[l:r:m]' -/
theorem cut_lrm {A : Nat → Prop} {w : World} {p : Option Addr} {bs : List UInt8} (h : Holds A w p (bs.map byteVal)) (n c l r m : Nat) (hl : l ≤ r) (hr : r ≤ m) (hm : m ≤ c) :
    ∃ p', (∀ w', (Instr.sliceAt 22 (.slice p n c) (some (.int .i64 (l : Int))) (some (.int .i64 (r : Int))) (some (.int .i64 (m : Int)))).run Try.prog w' = .ok (.slice p' (r - l) (m - l)) w') ∧ Holds A w p' (((bs.drop l).take (r - l)).map byteVal) := by
  refine ⟨_, fun w' => ?_, part_holds h l r m hr⟩
  rw [run_sliceAt_slice w' _ _ _ _ _ under_bytes, run_slice_lhm w' _ p n c under_bytes .i64 .i64 .i64 l r m (by omega) (by omega) (by omega) (by omega), size_byte]
  rfl
theorem but_set {g o : Nat} {w w' : World} {v : Value} (h : Ls.But g w w') : Ls.But g w (w'.setCell ⟨g, o, none⟩ v) :=
  h.trans ⟨rfl, rfl, rfl, by simp [World.setCell], fun k hk hg => agree_at w' g o v k hg hk⟩
theorem run_cut_l (p : Option Addr) (n c l k : Nat) (X : Int) (hX : X = l) (hk : n - l = k) (hl : l ≤ n) (w' : World) :
    (Instr.sliceAt 22 (.slice p n c) (some (.int .i64 X)) none none).run Try.prog w' = .ok (.slice (if c = l then p else p.map (·.add (l * 1))) k (c - l)) w' := by
  subst hX hk
  rw [run_sliceAt_slice w' _ _ _ _ _ under_bytes, run_slice_l w' _ p n c under_bytes .i64 l (by omega) (by omega), size_byte]
  rfl
theorem run_cut_lrm (g off n c l k : Nat) (X Y : Int) (hX : X = l) (hY : Y = (l + k : Nat)) (hk : 0 < k) (hc : l + k ≤ c) (w' : World) :
    (Instr.sliceAt 22 (.slice (some ⟨g, off, none⟩) n c) (some (.int .i64 X)) (some (.int .i64 Y)) (some (.int .i64 Y))).run Try.prog w' = .ok (.slice (some ⟨g, off + l, none⟩) k k) w' := by
  subst hX hY
  rw [run_sliceAt_slice w' _ _ _ _ _ under_bytes, run_slice_lhm w' _ _ n c under_bytes .i64 .i64 .i64 l (l + k : Nat) (l + k : Nat) (by omega) (by omega) (by omega) (by omega), size_byte]
  simp only [Result.andThen, sliced, Int.toNat_natCast]
  rw [if_neg (by omega), Nat.add_sub_cancel_left, Nat.mul_one]
  show Result.ok (Value.slice (some ((⟨g, off, none⟩ : Addr).add l)) k k) w' = _
  rw [Addr.add_lit]
theorem but_held {g : Nat} {w w' : World} (h : Ls.But g w w') : (∀ b o, b ≠ g → b < w.heap.size → w'.cell? ⟨b, o, none⟩ = w.cell? ⟨b, o, none⟩) ∧ (∀ b o, b ≠ g → b < w.heap.size → w'.frozen? ⟨b, o, none⟩ = w.frozen? ⟨b, o, none⟩) ∧ w.heap.size ≤ w'.heap.size :=
  ⟨fun b o hg hb => by
    have := h.block b hb hg
    simp [World.cell?, this], fun b o hg hb => by
    have := h.block b hb hg
    simp [World.frozen?, this], h.size⟩
theorem agree_lo {B : Nat} {w w' : World} (hb : Below B w w') : Agree (· < B) w w' := fun g hA _ => hb.block g hA
theorem agree_but {g : Nat} {w w' : World} (h : Ls.But g w w') : Agree (· ≠ g) w w' := fun k hk hlt => h.block k hlt hk
/-- equal strings, by their bytes -/
theorem str_same (a b : List UInt8) : (ByteArray.toList ⟨a.toArray⟩ == ByteArray.toList ⟨b.toArray⟩) = (a == b) := by
  by_cases h : a = b
  · subst h; simp
  · rw [beq_eq_false_iff_ne.2 h]
    refine str_ne fun e => h ?_
    injection e with e
    have := congrArg Array.toList e
    simpa using this
theorem conv_but {A : Nat → Prop} {w : World} {p : Option Addr} {n cap g : Nat} {bs : List UInt8} (h : Holds A w p (bs.map byteVal)) (hA : ∀ b, A b → b ≠ g) (hn : bs.length = n) :
    ∀ w', Ls.But g w w' → (convert 22 9 (.slice p n cap)).run Try.prog w' = .ok (.string ⟨bs.toArray⟩) w' := fun w' hw =>
  conv_bytes Try.underlying22 Try.underlying5 Try.underlying9 (h.keep ((agree_but hw).mono hA)) hn
theorem but_new {g b o : Nat} {w w' : World} {v : Value} (h : Ls.But g w w') (hb : w.heap.size ≤ b) : Ls.But g w (w'.setCell ⟨b, o, none⟩ v) :=
  ⟨h.os, h.tape, h.output, by simpa [World.setCell] using h.size, fun k hk hg => (agree_at w' b o v k (by omega) (Nat.lt_of_lt_of_le hk h.size)).trans (h.block k hk hg)⟩
theorem but_grown {g : Nat} {w x y : World} {row : Option Nat} (h : Ls.But g w x) (hg : x.grownBy y row) (hr : ∀ b, row = some b → w.heap.size ≤ b) : Ls.But g w y :=
  ⟨hg.os.trans h.os, hg.tape.trans h.tape, hg.output.trans h.output, Nat.le_trans h.size hg.size, fun k hk hkg => (hg.block k (Nat.lt_of_lt_of_le hk h.size) (fun e => by have := hr k e.symm; omega)).trans (h.block k hk hkg)⟩
/-- six cells of one block are written -/
def set6 (w : World) (g : Nat) (a b c d e f : Value) : World := (((((w.setCell ⟨g, 0, none⟩ a).setCell ⟨g, 1, none⟩ b).setCell ⟨g, 2, none⟩ c).setCell ⟨g, 3, none⟩ d).setCell ⟨g, 4, none⟩ e).setCell ⟨g, 5, none⟩ f
theorem set6_size (w : World) (g : Nat) (a b c d e f : Value) : (set6 w g a b c d e f).heap.size = w.heap.size := by simp [set6, World.setCell]
theorem agree6 (w : World) (g : Nat) (a b c d e f : Value) : Agree (· ≠ g) w (set6 w g a b c d e f) :=
  (agree_at w g 0 a).trans (by simp [World.setCell]) ((agree_at _ g 1 b).trans (by simp [World.setCell]) ((agree_at _ g 2 c).trans (by simp [World.setCell]) ((agree_at _ g 3 d).trans (by simp [World.setCell]) ((agree_at _ g 4 e).trans (by simp [World.setCell]) (agree_at _ g 5 f)))))
theorem blk6 {w : World} {g : Nat} {x0 x1 x2 x3 x4 x5 : Value} (h : Blk w g [x0, x1, x2, x3, x4, x5]) (a b c d e f : Value) : Blk (set6 w g a b c d e f) g [a, b, c, d, e, f] := by
  have h0 := h.set 0 a (by simp)
  have h1 := h0.set 1 b (by simp)
  have h2 := h1.set 2 c (by simp)
  have h3 := h2.set 3 d (by simp)
  have h4 := h3.set 4 e (by simp)
  have h5 := h4.set 5 f (by simp)
  simpa [set6] using h5
theorem below6 {B : Nat} {w0 w : World} (h : Below B w0 w) {g : Nat} (hg : B ≤ g) (a b c d e f : Value) : Below B w0 (set6 w g a b c d e f) :=
  (((((h.setCell (p := ⟨g, 0, none⟩) hg a).setCell (p := ⟨g, 1, none⟩) hg b).setCell (p := ⟨g, 2, none⟩) hg c).setCell (p := ⟨g, 3, none⟩) hg d).setCell (p := ⟨g, 4, none⟩) hg e).setCell (p := ⟨g, 5, none⟩) hg f
end Go.Proofs.Ytabeimmjclkobaa
