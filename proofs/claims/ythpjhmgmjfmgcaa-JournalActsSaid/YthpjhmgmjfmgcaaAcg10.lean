import Derived.Test.YthpjhmgmjfmgcaaAcg3
import Derived.Test.YthpjhmgmjfmgcaaAcg9
import Derived.Test.YthpjhmgmjfmgcaaAcg0
import Derived.Test.YthpjhmgmjfmgcaaAcg1
/- Parts of slices of bytes. -/
namespace Go.Proofs.Ythpjhmgmjfmgcaa
open Go.ChangeShapes Go.WideShapes Go.RowKit

theorem part_holds {A : Nat → Prop} {w : World} {p : Option Addr} {bs : List UInt8} (h : Holds A w p (bs.map byteVal)) (l r m : Nat) (hr : r ≤ m) :
    Holds A w (if m = l then p else p.map (·.add (l * 1))) (((bs.drop l).take (r - l)).map byteVal) := by
  by_cases hm : m = l
  · rw [show r - l = 0 by omega]; exact .inl (by simp)
  · rw [if_neg hm]
    by_cases hb : bs = []
    · subst hb; exact .inl (by simp)
    · obtain ⟨g, off, rfl, _⟩ := h.at (by rw [List.length_map]; exact List.length_pos_iff.2 hb)
      have := h.part l (r - l)
      rw [List.map_take, List.map_drop]
      simpa [Addr.add_lit] using this
theorem size_byte (w : World) : (sizeOf (Try.prog.elem 27)).run Try.prog w = .ok 1 w := by
  have hs : (Try.prog.info? 5).map (fun i => (i.zero, i.size, i.bytes)) = some (some (.int .u8 0), 1, 1) := by kernel_rfl
  obtain ⟨i, hi, hz, hsize, hby⟩ := info_parts hs
  rw [show Try.prog.elem 27 = 5 by rfl]
  simp [sizeOf, typeInfo, hi, hsize]
theorem under_bytes : Try.prog.underlying 27 = some (.slice (Try.prog.elem 27)) := Try.underlying27
/-- 's[l:r]' -/
theorem cut_lr {A : Nat → Prop} {w : World} {p : Option Addr} {bs : List UInt8} (h : Holds A w p (bs.map byteVal)) (n c l r k : Nat) (X Y : Int) (hX : X = l) (hY : Y = r) (hk : r - l = k) (hl : l ≤ r) (hr : r ≤ c) :
    ∃ p', (∀ w', (Instr.sliceAt 27 (.slice p n c) (some (.int .i64 X)) (some (.int .i64 Y)) none).run Try.prog w' = .ok (.slice p' k (c - l)) w') ∧ Holds A w p' (((bs.drop l).take k).map byteVal) := by
  subst hX hY hk
  refine ⟨_, fun w' => ?_, part_holds h l r c hr⟩
  rw [run_sliceAt_slice w' _ _ _ _ _ under_bytes, run_slice_lh w' _ p n c under_bytes .i64 .i64 l r (by omega) (by omega) (by omega), size_byte]
  rfl
/-- 's[l:]' -/
theorem cut_l {A : Nat → Prop} {w : World} {p : Option Addr} {bs : List UInt8} (h : Holds A w p (bs.map byteVal)) (n c l : Nat) (X : Int) (hX : X = l) (hl : l ≤ n) (hn : n ≤ c) :
    ∃ p', (∀ w', (Instr.sliceAt 27 (.slice p n c) (some (.int .i64 X)) none none).run Try.prog w' = .ok (.slice p' (n - l) (c - l)) w') ∧ Holds A w p' (((bs.drop l).take (n - l)).map byteVal) := by
  subst hX
  refine ⟨_, fun w' => ?_, part_holds h l n c hn⟩
  rw [run_sliceAt_slice w' _ _ _ _ _ under_bytes, run_slice_l w' _ p n c under_bytes .i64 l (by omega) (by omega), size_byte]
  rfl
/-- 's[:r]' -/
theorem cut_r {A : Nat → Prop} {w : World} {p : Option Addr} {bs : List UInt8} (h : Holds A w p (bs.map byteVal)) (n c r : Nat) (Y : Int) (hY : Y = r) (hr : r ≤ c) :
    ∃ p', (∀ w', (Instr.sliceAt 27 (.slice p n c) none (some (.int .i64 Y)) none).run Try.prog w' = .ok (.slice p' r c) w') ∧ Holds A w p' ((bs.take r).map byteVal) := by
  subst hY
  refine ⟨_, fun w' => ?_, by have := part_holds h 0 r c hr; simpa using this⟩
  rw [run_sliceAt_slice w' _ _ _ _ _ under_bytes, run_slice_h w' _ p n c under_bytes .i64 r (by omega) (by omega), size_byte]
  simp [Result.andThen, sliced]
/-- 's[l:r:m]' -/
theorem cut_lrm {A : Nat → Prop} {w : World} {p : Option Addr} {bs : List UInt8} (h : Holds A w p (bs.map byteVal)) (n c l r m : Nat) (hl : l ≤ r) (hr : r ≤ m) (hm : m ≤ c) :
    ∃ p', (∀ w', (Instr.sliceAt 27 (.slice p n c) (some (.int .i64 (l : Int))) (some (.int .i64 (r : Int))) (some (.int .i64 (m : Int)))).run Try.prog w' = .ok (.slice p' (r - l) (m - l)) w') ∧ Holds A w p' (((bs.drop l).take (r - l)).map byteVal) := by
  refine ⟨_, fun w' => ?_, part_holds h l r m hr⟩
  rw [run_sliceAt_slice w' _ _ _ _ _ under_bytes, run_slice_lhm w' _ p n c under_bytes .i64 .i64 .i64 l r m (by omega) (by omega) (by omega) (by omega), size_byte]
  rfl
theorem but_set {g o : Nat} {w w' : World} {v : Value} (h : Ls.But g w w') : Ls.But g w (w'.setCell ⟨g, o, none⟩ v) :=
  h.trans ⟨rfl, rfl, rfl, by simp [World.setCell], fun k hk hg => agree_at w' g o v k hg hk⟩
theorem run_cut_l (p : Option Addr) (n c l k : Nat) (X : Int) (hX : X = l) (hk : n - l = k) (hl : l ≤ n) (w' : World) :
    (Instr.sliceAt 27 (.slice p n c) (some (.int .i64 X)) none none).run Try.prog w' = .ok (.slice (if c = l then p else p.map (·.add (l * 1))) k (c - l)) w' := by
  subst hX hk
  rw [run_sliceAt_slice w' _ _ _ _ _ under_bytes, run_slice_l w' _ p n c under_bytes .i64 l (by omega) (by omega), size_byte]
  rfl
theorem run_cut_lrm (g off n c l k : Nat) (X Y : Int) (hX : X = l) (hY : Y = (l + k : Nat)) (hk : 0 < k) (hc : l + k ≤ c) (w' : World) :
    (Instr.sliceAt 27 (.slice (some ⟨g, off, none⟩) n c) (some (.int .i64 X)) (some (.int .i64 Y)) (some (.int .i64 Y))).run Try.prog w' = .ok (.slice (some ⟨g, off + l, none⟩) k k) w' := by
  subst hX hY
  rw [run_sliceAt_slice w' _ _ _ _ _ under_bytes, run_slice_lhm w' _ _ n c under_bytes .i64 .i64 .i64 l (l + k : Nat) (l + k : Nat) (by omega) (by omega) (by omega) (by omega), size_byte]
  simp only [Result.andThen, sliced, Int.toNat_natCast]
  rw [if_neg (by omega), Nat.add_sub_cancel_left, Nat.mul_one]
  show Result.ok (Value.slice (some ((⟨g, off, none⟩ : Addr).add l)) k k) w' = _
  rw [Addr.add_lit]
theorem but_held {g : Nat} {w w' : World} (h : Ls.But g w w') : (∀ b o, b ≠ g → b < w.heap.size → w'.cell? ⟨b, o, none⟩ = w.cell? ⟨b, o, none⟩) ∧ (∀ b o, b ≠ g → b < w.heap.size → w'.frozen? ⟨b, o, none⟩ = w.frozen? ⟨b, o, none⟩) ∧ w.heap.size ≤ w'.heap.size :=
  ⟨fun b o hg hb => by
    have := h.block b hb hg
    simp [World.cell?, this], fun b o hg hb => by
    have := h.block b hb hg
    simp [World.frozen?, this], h.size⟩
theorem agree_lo {B : Nat} {w w' : World} (hb : Below B w w') : Agree (· < B) w w' := fun g hA _ => hb.block g hA
theorem agree_but {g : Nat} {w w' : World} (h : Ls.But g w w') : Agree (· ≠ g) w w' := fun k hk hlt => h.block k hlt hk
/-- equal strings, by their bytes -/
theorem str_same (a b : List UInt8) : (ByteArray.toList ⟨a.toArray⟩ == ByteArray.toList ⟨b.toArray⟩) = (a == b) := by
  by_cases h : a = b
  · subst h; simp
  · rw [beq_eq_false_iff_ne.2 h]
    refine str_ne fun e => h ?_
    injection e with e
    have := congrArg Array.toList e
    simpa using this
theorem conv_but {A : Nat → Prop} {w : World} {p : Option Addr} {n cap g : Nat} {bs : List UInt8} (h : Holds A w p (bs.map byteVal)) (hA : ∀ b, A b → b ≠ g) (hn : bs.length = n) :
    ∀ w', Ls.But g w w' → (convert 27 9 (.slice p n cap)).run Try.prog w' = .ok (.string ⟨bs.toArray⟩) w' := fun w' hw =>
  conv_bytes Try.underlying27 Try.underlying5 Try.underlying9 (h.keep ((agree_but hw).mono hA)) hn
theorem but_new {g b o : Nat} {w w' : World} {v : Value} (h : Ls.But g w w') (hb : w.heap.size ≤ b) : Ls.But g w (w'.setCell ⟨b, o, none⟩ v) :=
  ⟨h.os, h.tape, h.output, by simpa [World.setCell] using h.size, fun k hk hg => (agree_at w' b o v k (by omega) (Nat.lt_of_lt_of_le hk h.size)).trans (h.block k hk hg)⟩
theorem but_grown {g : Nat} {w x y : World} {row : Option Nat} (h : Ls.But g w x) (hg : x.grownBy y row) (hr : ∀ b, row = some b → w.heap.size ≤ b) : Ls.But g w y :=
  ⟨hg.os.trans h.os, hg.tape.trans h.tape, hg.output.trans h.output, Nat.le_trans h.size hg.size, fun k hk hkg => (hg.block k (Nat.lt_of_lt_of_le hk h.size) (fun e => by have := hr k e.symm; omega)).trans (h.block k hk hkg)⟩
/-- six cells of one block are written -/
def set6 (w : World) (g : Nat) (a b c d e f : Value) : World := (((((w.setCell ⟨g, 0, none⟩ a).setCell ⟨g, 1, none⟩ b).setCell ⟨g, 2, none⟩ c).setCell ⟨g, 3, none⟩ d).setCell ⟨g, 4, none⟩ e).setCell ⟨g, 5, none⟩ f
theorem set6_size (w : World) (g : Nat) (a b c d e f : Value) : (set6 w g a b c d e f).heap.size = w.heap.size := by simp [set6, World.setCell]
theorem agree6 (w : World) (g : Nat) (a b c d e f : Value) : Agree (· ≠ g) w (set6 w g a b c d e f) :=
  (agree_at w g 0 a).trans (by simp [World.setCell]) ((agree_at _ g 1 b).trans (by simp [World.setCell]) ((agree_at _ g 2 c).trans (by simp [World.setCell]) ((agree_at _ g 3 d).trans (by simp [World.setCell]) ((agree_at _ g 4 e).trans (by simp [World.setCell]) (agree_at _ g 5 f)))))
theorem blk6 {w : World} {g : Nat} {x0 x1 x2 x3 x4 x5 : Value} (h : Blk w g [x0, x1, x2, x3, x4, x5]) (a b c d e f : Value) : Blk (set6 w g a b c d e f) g [a, b, c, d, e, f] := by
  have h0 := h.set 0 a (by simp)
  have h1 := h0.set 1 b (by simp)
  have h2 := h1.set 2 c (by simp)
  have h3 := h2.set 3 d (by simp)
  have h4 := h3.set 4 e (by simp)
  have h5 := h4.set 5 f (by simp)
  simpa [set6] using h5
theorem below6 {B : Nat} {w0 w : World} (h : Below B w0 w) {g : Nat} (hg : B ≤ g) (a b c d e f : Value) : Below B w0 (set6 w g a b c d e f) :=
  (((((h.setCell (p := ⟨g, 0, none⟩) hg a).setCell (p := ⟨g, 1, none⟩) hg b).setCell (p := ⟨g, 2, none⟩) hg c).setCell (p := ⟨g, 3, none⟩) hg d).setCell (p := ⟨g, 4, none⟩) hg e).setCell (p := ⟨g, 5, none⟩) hg f
end Go.Proofs.Ythpjhmgmjfmgcaa
/- Journals: the program's small functions. -/

namespace Go.Proofs.Ythpjhmgmjfmgcaa
open Go.ChangeShapes Go.WideShapes Go.RowKit

theorem sectors_any (n : Nat) (w : World) (hn : n ≤ 1000000000) :
    Calls Try.prog 53 #[.int .i64 n] w fun e w' => e = .returned (.int .i64 (Jn.need n : Nat)) ∧ w' = w := by
  have h1 : IntKind.i64.wrap (32 + (n : Int)) = 32 + (n : Int) := by rw [IntKind.wrap_i64]; omega
  have h2 : IntKind.i64.wrap (32 + (n : Int) + 64) = 32 + (n : Int) + 64 := by rw [IntKind.wrap_i64]; omega
  have h3 : IntKind.i64.wrap (32 + (n : Int) + 64 - 1) = 32 + (n : Int) + 64 - 1 := by rw [IntKind.wrap_i64]; omega
  have h4 : IntKind.i64.wrap ((32 + (n : Int) + 64 - 1).tdiv 64) = (Jn.need n : Nat) := by
    unfold Jn.need
    rw [Int.tdiv_eq_ediv_of_nonneg (by omega), IntKind.wrap_i64]; omega
  clear hn
  go_enter Try.func53, Try.ntmps53
  go_wp2
  go_ret
  exact ⟨rfl, rfl⟩
theorem sectors_below (n : Nat) (w : World) (hn : n ≤ 1000000000) :
    Calls Try.prog 53 #[.int .i64 n] w fun e w' => e = .returned (.int .i64 (Jn.need n : Nat)) ∧ Below w.heap.size w w' :=
  (sectors_any n w hn).mono fun e w' ⟨he, hw⟩ => ⟨he, by rw [hw]; exact Below.refl _ _⟩

set_option maxRecDepth 100000 in
theorem long_any (n : Int) (w : World) :
    Calls Try.prog 68 #[.int .i64 n] w fun e w' => ∃ v', e = .returned v' ∧ Below w.heap.size w w' ∧ BRow (w.heap.size ≤ ·) w' v' (Dg.bs8 (Dg.u n)) := by
  go_enter Try.func68, Try.ntmps68
  go_wp2
  go_loopw [3, 4] (fun v i w2 => ∃ j : Nat, j ≤ 8 ∧ i = .int .i64 (7 - (j : Int)) ∧ w2.ownsRow w.heap.size 5 1 v j (((List.range j).map (Dg.byteAt (Dg.u n))).map byteVal) ∧ Below w.heap.size w w2) (fun _ i _ => (intOf i + 1).toNat)
  case atStart => exact ⟨0, by omega, rfl, World.ownsRow_nil _ _ _ _, Below.refl _ _⟩
  case round =>
    obtain ⟨j, hj, rfl, hown, hbel⟩ := hrel
    have Ho := Lib.hid hown
    clear hown
    have hb1 : w.heap.size ≤ wr.heap.size := hbel.size
    have hu := Dg.w_u n
    by_cases hl8 : j < 8
    · go_wp2_with (at_builtin; refine app_new _ _ 27 5 (.int .u8 0) 1 1 rfl rfl Try.underlying27 (by kernel_rfl) rfl (by decide) _ Ho.out hb1 rfl rfl rfl ?c1 ?c2 ?c3 ?_)
      case c1 => simp [Value.oneCell']
      case c2 => unfold maxLen; omega
      case c3 => omega
      intro v' w' ho' hg'
      have hbel' := below_own hbel Ho.out hg' hb1
      rw [Dg.w_byte'] at ho'
      have Ho' := Lib.hid ho'
      clear ho'
      go_wp2
      go_roundw
      case rel => exact ⟨j + 1, by omega, val_int (by omega), by have := Ho'.out; simpa [Dg.bs8_take _ j hl8, byteVal] using this, hbel'⟩
      case measure => simp [intOf]; omega
    · obtain rfl : j = 8 := by omega
      go_wp2
      obtain ⟨p, cap, hv, hh, hc⟩ := ownsRow_holds3 Ho.out
      subst hv
      go_ret
      exact ⟨_, rfl, hbel, p, cap, by simp [Dg.bs8], hh.mono fun g hg => hg.2, by simpa [Dg.bs8] using hc⟩

/-- the number in some bytes; -1 if it is too great -/
def numOf (n : Nat) : Int := if n < 9223372036854775808 then n else -1
set_option maxRecDepth 100000 in
theorem num_any {A : Nat → Prop} (p : Option Addr) (cap : Nat) (bs : List UInt8) (w : World) (h : Holds A w p (bs.map byteVal)) (h8 : bs.length = 8) :
    Calls Try.prog 73 #[.slice p 8 cap] w fun e w' => e = .returned (.int .i64 (numOf (Dg.rd bs))) ∧ w' = w := by
  obtain ⟨g, off, rfl, _, hgl, hcell⟩ := h.at (by simp [h8])
  have Hcell := Lib.hid hcell
  have H8 := Lib.hid h8
  clear hcell h8 h
  go_enter Try.func73, Try.ntmps73
  go_wp2
  go_loop [3, 5, 8] (fun v _ k => ∃ n : Nat, n ≤ 8 ∧ k = .int .i64 n ∧ v = .int .u64 (Dg.rd (bs.take n))) (fun _ _ k => 8 - (intOf k).toNat)
  case atStart => exact ⟨0, by omega, rfl, rfl⟩
  case round =>
    obtain ⟨n, hn, rfl, rfl⟩ := hrel
    by_cases hlt : n < 8
    · have hr : Dg.rd (bs.take n) < 72057594037927936 := by
        refine Nat.lt_of_lt_of_le (Dg.rd_lt _) ?_
        rw [List.length_take]
        exact Nat.le_trans (Nat.pow_le_pow_right (by omega) (show min n _ ≤ 7 by omega)) (by decide)
      have Hr := Lib.hid hr
      clear hr
      generalize hx : Dg.rd (bs.take n) = x at *
      have Hx := Lib.hid hx
      clear hx
      obtain ⟨b, hb⟩ : ∃ b, bs[n]? = some b := ⟨_, List.getElem?_eq_getElem (by have := H8.out; omega)⟩
      have ck : w.cell? ⟨g, off + n, none⟩ = some (.int .u8 b.toNat) := Hcell.out n (byteVal b) (by rw [List.getElem?_map, hb]; rfl)
      have Hb := Lib.hid hb
      clear hb
      go_wp2
      go_round
      case rel => exact ⟨n + 1, by omega, by go_num, val_int (by
        rw [Dg.w_or _ _ Hr.out, List.take_add_one, Hb.out]
        show _ = ((Dg.rd (List.take n bs ++ [b]) : Nat) : Int)
        rw [Dg.rd_snoc, Hx.out])⟩
      case measure => simp [intOf]; omega
    · obtain rfl : n = 8 := by omega
      have hx8 : Dg.rd bs < 18446744073709551616 := by
        have := Dg.rd_lt bs
        rw [H8.out] at this
        exact this
      have ht : bs.take 8 = bs := List.take_of_length_le (by rw [H8.out]; exact Nat.le_refl _)
      rw [ht]
      obtain ⟨x, hx⟩ : ∃ x, Dg.rd bs = x := ⟨_, rfl⟩
      rw [hx] at hx8 ⊢
      have Hx := Lib.hid hx
      clear hx ht
      by_cases hb : x < 9223372036854775808
      · have e1 : ((x : Int) / 9223372036854775808 == 1) = false := beq_eq_false_iff_ne.2 (by omega)
        have e2 : wrap64 (x : Int) = (x : Int) := by unfold wrap64; omega
        have E3 : Hid (numOf x = (x : Int)) := if_pos hb
        clear hx8 hb
        go_wp2
        go_ret
        exact ⟨ret_int (by rw [Hx.out, E3.out]), rfl⟩
      · have e1 : ((x : Int) / 9223372036854775808 == 1) = true := by rw [beq_iff_eq]; omega
        have E3 : Hid (numOf x = -1) := if_neg hb
        clear hx8 hb
        go_wp2
        go_ret
        exact ⟨ret_int (by rw [Hx.out, E3.out]), rfl⟩

/-- the digest of a block behind a chain -/
def sealRes (count : Nat) (len : Int) (sum : BitVec 64) (s : ByteArray) : Value := .tuple #[.string ⟨(Jn.first count s.size).toArray⟩, dval (32 + s.size : Nat) (Jn.mark len sum count s.data.toList)]
set_option maxRecDepth 100000 in
theorem seal_any (count : Nat) (len : Int) (sum : BitVec 64) (s : ByteArray) (w : World) (hc : count ≤ 1000000) (hs : s.size ≤ 100000) :
    Calls Try.prog 55 #[.int .i64 count, dval len sum, .string s] w fun e w' => e = .returned (sealRes count len sum s) ∧ Below w.heap.size w w' := by
  have Hc := Lib.hid hc
  have Hs := Lib.hid hs
  clear hc hs
  unfold dval
  go_enter Try.func55, Try.ntmps55
  go_upto_region 1 with fail
  obtain ⟨w1, hw1, B4, hb1⟩ := fresh_blk w [Value.int IntKind.i64 len, Value.int IntKind.u64 sum.toNat] 51
  rw [hw1]
  obtain ⟨w2, hw2, B7, hb2⟩ := fresh_blk w1 [Value.int IntKind.i64 0, Value.int IntKind.u64 0] 51
  rw [hw2]
  have hz1 : w1.heap.size = w.heap.size + 1 := by rw [← hw1]; simp
  rw [hz1] at B7
  have B4b := B4.call hb2
  have Hb := Lib.hid (hb1.trans (hb2.mono hb1.size))
  have hu1 : Dg.u (count : Int) = count := by have := Hc.out; unfold Dg.u; omega
  have hu2 : Dg.u (s.size : Int) = s.size := by have := Hs.out; unfold Dg.u; omega
  clear hw1 hw2 hb1 hb2 B4 hz1
  refine Lx.region Lx.below_steps [(0, true), (3, true), (4, true), (1, false), (2, true), (5, false), (6, true), (7, true)] [(8, false)] (fun w' => (∀ b o, b < w2.heap.size → w'.cell? ⟨b, o, none⟩ = w2.cell? ⟨b, o, none⟩) ∧ (∀ b o, b < w2.heap.size → w'.frozen? ⟨b, o, none⟩ = w2.frozen? ⟨b, o, none⟩) ∧ Below w2.heap.size w2 w') (by kernel_rfl) (by kernel_rfl) (fun _ _ _ _ _ h => h) (fun _ h => held_below h) (fun _ _ h hb => held_call h hb) ?_; intro xa hbxa; replace hbxa : Below w2.heap.size w2 xa := hbxa; simp only [Lx.pick, List.filterMap_cons, List.filterMap_nil, List.getElem?_cons_succ, List.getElem?_cons_zero, List.map_cons, List.map_nil]; have hSxa := held_below hbxa
  repeat (first | (refine Lx.takeY ?_ (by rfl) ?_ (by assumption) ?_; rotate_left; (focus (intro w' hSw; (try dsimp only at hSw); go_simp; (try with_reducible rfl))); simp only [Act.put, List.setIfInBounds_toArray, List.set_cons_zero, List.set_cons_succ]) | (refine Lx.takeN (by rfl) (by assumption) ?_; simp only [Act.put, List.setIfInBounds_toArray, List.set_cons_zero, List.set_cons_succ]))
  refine Lx.go ?_; intro K hK; go_simp; go_at_call 68; refine (long_any _ _).mono ?_; rintro e w0xb ⟨v1, rfl, hb0xb, hr1⟩; refine hK _ _ hb0xb ?_; clear hK K; intro wxb hbxb; replace hbxb : Below w0xb.heap.size w0xb wxb := hbxb; have hSxb := held_call (held_call hSxa hb0xb) hbxb; try simp only [Act.put, List.setIfInBounds_toArray, List.set_cons_zero, List.set_cons_succ]
  obtain ⟨q1, c1, rfl, hq1, hc1⟩ := hr1
  rw [Dg.bs8_length]
  have s1 := conv_bytes_held (P := Try.prog) (w := wxb) (n := 8) (cap := c1) Try.underlying27 Try.underlying5 Try.underlying9 (hq1.keep (agree_below hbxb)) (Dg.bs8_length _)
  clear hq1 hc1
  refine Lx.takeR ?_ (by rfl) ?_ ?_; rotate_left; (focus (intro w' hRw; (try dsimp only at hRw); have hsq := s1 w' hRw; go_simp; (try with_reducible rfl))); simp only [Act.put, List.setIfInBounds_toArray, List.set_cons_zero, List.set_cons_succ]
  clear s1
  refine Lx.go ?_; intro K hK; go_simp; go_at_call 68; refine (long_any _ _).mono ?_; rintro e w0xc ⟨v2, rfl, hb0xc, hr2⟩; refine hK _ _ hb0xc ?_; clear hK K; intro wxc hbxc; replace hbxc : Below w0xc.heap.size w0xc wxc := hbxc; have hSxc := held_call (held_call hSxb hb0xc) hbxc; try simp only [Act.put, List.setIfInBounds_toArray, List.set_cons_zero, List.set_cons_succ]
  obtain ⟨q2, c2, rfl, hq2, hc2⟩ := hr2
  rw [Dg.bs8_length]
  have s2 := conv_bytes_held (P := Try.prog) (w := wxc) (n := 8) (cap := c2) Try.underlying27 Try.underlying5 Try.underlying9 (hq2.keep (agree_below hbxc)) (Dg.bs8_length _)
  clear hq2 hc2
  refine Lx.takeR ?_ (by rfl) ?_ ?_; rotate_left; (focus (intro w' hRw; (try dsimp only at hRw); have hsq := s2 w' hRw; go_simp; (try with_reducible rfl))); simp only [Act.put, List.setIfInBounds_toArray, List.set_cons_zero, List.set_cons_succ]
  clear s2
  have hcat : (9223372036854775807 < (Dg.bs8 count).length + (Dg.bs8 s.size).length) = False := by rw [Dg.bs8_length, Dg.bs8_length]; exact eq_false (by decide)
  repeat (first | (refine Lx.takeY ?_ (by rfl) ?_ (by assumption) ?_; rotate_left; (focus (intro w' hSw; (try dsimp only at hSw); go_simp; (try with_reducible rfl))); simp only [Act.put, List.setIfInBounds_toArray, List.set_cons_zero, List.set_cons_succ]) | (refine Lx.takeN (by rfl) (by assumption) ?_; simp only [Act.put, List.setIfInBounds_toArray, List.set_cons_zero, List.set_cons_succ]))
  refine Lx.tail ?_
  have Hb2 := Lib.hid (Hb.out.trans (hSxc.2.2.mono Hb.out.size))
  have B4c := (B4b.call hSxc.2.2)
  have B7c := (B7.call hSxc.2.2)
  have k0 := B4c.cells 0
  have k1 := B4c.cells 1
  have k2 := B4c.lt
  have j0 := B7c.frozen 0
  have j1 := B7c.frozen 1
  have j2 := B7c.lt
  have j3 := B7c.cells 0
  have j4 := B7c.cells 1
  simp only [List.getElem?_cons_zero, List.getElem?_cons_succ] at k0 k1 j3 j4
  clear hSxa hSxb hSxc hbxa hbxb hbxc hb0xb hb0xc hu1 hu2 hcat B4b B7 Hb
  have hf : (⟨(Dg.bs8 count).toArray⟩ ++ ⟨(Dg.bs8 s.size).toArray⟩ : ByteArray) = ⟨(Jn.first count s.size).toArray⟩ := by
    apply ByteArray.ext; simp [Jn.first]
  rw [hf]
  have hcat : (9223372036854775807 < (Jn.first count s.size).length + s.size) = False := by
    have := Hs.out
    simp [Jn.first, Dg.bs8_length]; omega
  go_wp2_with fail
  have hch : chained len sum (⟨(Jn.first count s.size).toArray⟩ ++ s) = dval (32 + s.size : Nat) (Jn.mark len sum count s.data.toList) := by
    unfold chained Jn.mark
    congr 1
    · simp [ByteArray.size_append, string_size, Jn.first, Dg.bs8_length]; omega
  have hsz : (⟨(Jn.first count s.size).toArray⟩ ++ s : ByteArray).size ≤ 1000000 := by
    have := Hs.out
    simp [ByteArray.size_append, string_size, Jn.first, Dg.bs8_length]; omega
  refine (chain_any len sum _ _ hsz).mono ?_
  rw [hch]
  rintro e w3 ⟨rfl, hb3⟩
  have B7d := B7c.call hb3
  have Hb3 := Lib.hid (Hb2.out.trans (hb3.mono Hb2.out.size))
  clear k0 k1 k2 j0 j1 j2 j3 j4 B7c B4c hb3 Hb2 hch hsz hcat hf
  have j0 := B7d.frozen 0
  have j1 := B7d.frozen 1
  have j2 := B7d.lt
  have j3 := B7d.cells 0
  have j4 := B7d.cells 1
  simp only [List.getElem?_cons_zero, List.getElem?_cons_succ] at j3 j4
  unfold dval
  go_wp2_with fail
  refine bodyPost_ret (v := sealRes count len sum s) (by simp [results, Try.results55, go_sem, sealRes, dval, j0, j1, j2, j3, j4]) rfl ⟨rfl, (Hb3.out.setCell (by simp) _).setCell (by simp) _⟩

/-- what stands at the beginning of some bytes, as a value -/
def standsRes (b : List UInt8) (count : Nat) (len : Int) (sum : BitVec 64) (v : Value) : Prop :=
  match Jn.stands b count len sum with
  | some p => v = .tuple #[.string ⟨p.toArray⟩, dval (32 + p.length : Nat) (Jn.mark len sum count p), .bool true]
  | none => ∃ s n c, v = .tuple #[.string s, dval n c, .bool false]
set_option maxRecDepth 100000 in
theorem jstands_any {A : Nat → Prop} (p : Option Addr) (cap : Nat) (b : List UInt8) (count : Nat) (len : Int) (sum : BitVec 64) (w : World) (h : Holds A w p (b.map byteVal)) (hcap : b.length ≤ cap) (hb : b.length ≤ 65536) (hc : count ≤ 1000000) (hc0 : 0 < count) :
    Calls Try.prog 67 #[.slice p b.length cap, .int .i64 count, dval len sum] w fun e w' => ∃ v, e = .returned v ∧ standsRes b count len sum v ∧ Below w.heap.size w w' := by
  have Hh := Lib.hid h
  have Hb := Lib.hid hb
  have Hc := Lib.hid hc
  have Hc0 := Lib.hid hc0
  obtain ⟨n, hn⟩ : ∃ n, b.length = n := ⟨_, rfl⟩
  have Hn := Lib.hid hn
  rw [hn] at hcap ⊢
  have Hcap := Lib.hid hcap
  clear h hb hc hc0 hn hcap
  unfold dval
  go_enter Try.func67, Try.ntmps67
  go_upto_region 1 with fail
  obtain ⟨w1, hw1, B5, hb1⟩ := fresh_blk w [Value.int IntKind.i64 len, Value.int IntKind.u64 sum.toNat] 51
  rw [hw1]
  obtain ⟨w2, hw2, B7, hb2⟩ := fresh_blk w1 [Value.int IntKind.i64 0, Value.int IntKind.u64 0] 51
  rw [hw2]
  have hz1 : w1.heap.size = w.heap.size + 1 := by rw [← hw1]; simp
  have hz2 : w2.heap.size = w.heap.size + 2 := by rw [← hw2]; simp [hz1]
  rw [hz1] at B7
  have hhw := Hh.out.lt
  have HB5 := Lib.hid (B5.call hb2)
  have HB7 := Lib.hid B7
  have Hbel := Lib.hid (hb1.trans (hb2.mono hb1.size))
  have Hh2 : Hid (Holds (fun g => g < w.heap.size) w2 p (b.map byteVal)) := (Hh.out.lt.mono fun g hg => hg.2).keep (agree_lo Hbel.out)
  obtain ⟨g5, hg5⟩ : ∃ g, g = w.heap.size := ⟨_, rfl⟩
  clear hw1 hw2 hb1 hb2 B5 B7 hz1 hhw Hh
  by_cases hn32 : n < 32
  · have d1 : decide ((n : Int) < 32) = true := decide_eq_true (by omega)
    have Hno : Hid (Jn.stands b count len sum = none) := by
      show Jn.stands b count len sum = none
      have hn := Hn.out
      unfold Jn.stands
      rw [if_pos (by omega)]
    clear hn32
    have j0 := HB7.out.frozen 0
    have j1 := HB7.out.frozen 1
    have j2 := HB7.out.lt
    have j3 := HB7.out.cells 0
    have j4 := HB7.out.cells 1
    simp only [List.getElem?_cons_zero, List.getElem?_cons_succ] at j3 j4
    go_wp2_with fail
    refine bodyPost_ret (v := .tuple #[.string ⟨#[]⟩, .agg #[.int .i64 0, .int .u64 0], .bool false]) (by simp [results, Try.results67, go_sem, j0, j1, j2, j3, j4]) rfl ⟨_, rfl, ?_, (Hbel.out.setCell (by simp) _).setCell (by simp) _⟩
    unfold standsRes
    rw [Hno.out]
    exact ⟨⟨#[]⟩, 0, 0#64, rfl⟩
  · have d1 : decide ((n : Int) < 32) = false := decide_eq_false (by omega)
    obtain ⟨p8, e8, h8⟩ := cut_r Hh2.out n cap 8 8 rfl (by have := Hcap.out; omega)
    have H32 : Hid (32 ≤ n) := Nat.le_of_not_lt hn32
    clear hn32
    go_wp2_with fail
    refine (num_any p8 cap (b.take 8) _ h8 (by rw [List.length_take]; have := Hn.out; have := H32.out; omega)).mono ?_
    rintro e w2 ⟨rfl, rfl⟩
    obtain ⟨x8, hx8⟩ : ∃ x, Dg.rd (b.take 8) = x := ⟨_, rfl⟩
    rw [hx8]
    have Hx8 := Lib.hid hx8
    clear hx8 h8 e8
    by_cases hxc : x8 = count
    · have hnum : numOf x8 = (count : Int) := by
        have := Hc.out
        unfold numOf; rw [if_pos (by omega)]; omega
      rw [hnum]
      have Hxc := Lib.hid hxc
      clear hxc hnum
      obtain ⟨p16, e16, h16⟩ := cut_lr Hh2.out n cap 8 16 8 8 16 rfl rfl rfl (by omega) (by have := Hcap.out; have := H32.out; omega)
      go_wp2_with fail
      refine (num_any p16 (cap - 8) ((b.drop 8).take 8) _ h16 (by rw [List.length_take, List.length_drop]; have := Hn.out; have := H32.out; omega)).mono ?_
      rintro e w2 ⟨rfl, rfl⟩
      obtain ⟨y, hy⟩ : ∃ x, Dg.rd ((b.drop 8).take 8) = x := ⟨_, rfl⟩
      rw [hy]
      have Hy := Lib.hid hy
      clear hy h16 e16
      have hnlt : n < 70000 := by have := Hn.out; have := Hb.out; omega
      have hwn : IntKind.i64.wrap ((n : Int) - 32) = (n : Int) - 32 := by rw [IntKind.wrap_i64]; omega
      have Hnlt := Lib.hid hnlt
      clear hnlt
      by_cases hyn : y ≤ n - 32
      · have hnum : numOf y = (y : Int) := by
          have := Hnlt.out
          unfold numOf; rw [if_pos (by omega)]
        rw [hnum]
        have d2 : decide ((y : Int) < 0) = false := decide_eq_false (by omega)
        have d3 : decide ((y : Int) > (n : Int) - 32) = false := decide_eq_false (by have := H32.out; omega)
        have d3' : decide ((n : Int) - 32 < (y : Int)) = false := decide_eq_false (by have := H32.out; omega)
        have hw32 : IntKind.i64.wrap (32 + (y : Int)) = 32 + (y : Int) := by have := Hnlt.out; rw [IntKind.wrap_i64]; omega
        obtain ⟨p32, e32, h32⟩ := cut_lr Hh2.out n cap 32 (32 + y) y 32 (32 + (y : Int)) rfl (by omega) (by omega) (by omega) (by have := Hcap.out; have := H32.out; omega)
        obtain ⟨q, hq⟩ : ∃ q, (b.drop 32).take y = q := ⟨_, rfl⟩
        have hql : q.length = y := by rw [← hq, List.length_take, List.length_drop]; have := Hn.out; have := H32.out; omega
        rw [hq] at h32
        have Hq := Lib.hid hq
        have Hql := Lib.hid hql
        have Hyn := Lib.hid hyn
        have s1 := conv_bytes (P := Try.prog) (w := w2) (n := y) (cap := cap - 32) Try.underlying27 Try.underlying5 Try.underlying9 h32 hql
        have k0 := HB5.out.cells 0
        have k1 := HB5.out.cells 1
        have k2 := HB5.out.lt
        simp only [List.getElem?_cons_zero, List.getElem?_cons_succ] at k0 k1
        clear hq hql hnum hyn h32
        go_wp2_with fail
        refine (seal_any count len sum ⟨q.toArray⟩ _ Hc.out (by rw [string_size, Hql.out]; have := Hnlt.out; have := Hyn.out; omega)).mono ?_
        rintro e w3 ⟨rfl, hb3⟩
        unfold sealRes dval
        rw [string_size, Hql.out]
        go_upto_region 8 with fail
        obtain ⟨mk, hmk⟩ : ∃ m, Jn.mark len sum count q = m := ⟨_, rfl⟩
        have Hmk := Lib.hid hmk
        rw [hmk]
        obtain ⟨w4, hw4, B12, hb4⟩ := fresh_blk w3 [Value.int IntKind.i64 (32 + (y : Int)), Value.int IntKind.u64 mk.toNat] 51
        rw [hw4]
        have hb24 := hb3.trans (hb4.mono hb3.size)
        have HB7b := Lib.hid (HB7.out.call hb24)
        have Hbel2 := Lib.hid (Hbel.out.trans (hb24.mono Hbel.out.size))
        have hh4 := Hh2.out.keep (agree_below hb24)
        obtain ⟨p17, e17, h17⟩ := cut_lr hh4 n cap 16 32 16 16 32 rfl rfl rfl (by omega) (by have := Hcap.out; have := H32.out; omega)
        have hl17 : ((b.drop 16).take 16).length = 16 := by rw [List.length_take, List.length_drop]; have := Hn.out; have := H32.out; omega
        obtain ⟨r17, hr17⟩ : ∃ r, (b.drop 16).take 16 = r := ⟨_, rfl⟩
        rw [hr17] at h17 hl17
        have Hr17 := Lib.hid hr17
        obtain ⟨g12, hg12⟩ : ∃ g, g = w3.heap.size := ⟨_, rfl⟩
        have hne : g12 ≠ w.heap.size + 1 := by have := hb3.size; omega
        rw [← hg12] at B12 ⊢
        have c0 := B12.cells 0
        have c1 := B12.cells 1
        have c2 := B12.lt
        have j0 := HB7b.out.frozen 0
        have j1 := HB7b.out.frozen 1
        have j2 := HB7b.out.lt
        have j3 := HB7b.out.cells 0
        have j4 := HB7b.out.cells 1
        simp only [List.getElem?_cons_zero, List.getElem?_cons_succ] at c0 c1 j3 j4
        clear k0 k1 k2 hw4 hb4 hb3 hb24 hh4 hr17 hg12 B12 HB7 HB5 Hh2 Hbel hmk s1 hz2 hwn e32
        have q1 := str_same (Dg.bsOf (32 + (y : Int)) mk) r17
        refine Ls.region (Ls.pair (w.heap.size + 1)) [9] [(0, 0), (1, 0), (2, 0), (4, 1), (5, 1), (6, 1), (3, 2), (7, 1), (8, 0), (9, 3)] [(10, false)] (fun w' => (∀ b o, b < w4.heap.size → w'.cell? ⟨b, o, none⟩ = w4.cell? ⟨b, o, none⟩) ∧ (∀ b o, b < w4.heap.size → w'.frozen? ⟨b, o, none⟩ = w4.frozen? ⟨b, o, none⟩) ∧ Below w4.heap.size w4 w') (by kernel_rfl) (by kernel_rfl) (fun _ _ _ _ _ h => h) (fun _ _ h hb => held_call h hb) ?_; intro ya hbya; replace hbya : Below w4.heap.size w4 ya := hbya; simp only [Ls.pick, Lx.pick, List.filterMap_cons, List.filterMap_nil, List.getElem?_cons_succ, List.getElem?_cons_zero, List.map_cons, List.map_nil]; have hSya := held_below hbya
        have s6 := conv_but (w := ya) (g := w.heap.size + 1) (cap := cap - 16) (h17.keep (agree_below hbya)) (fun b hb => by omega) hl17
        repeat (first | (refine Ls.takeY ?_ (by rfl) ?_ (by assumption) ?_; rotate_left; (focus (intro w' hSw; (try dsimp only at hSw); go_simp; (try with_reducible rfl))); simp only [Act.put, List.setIfInBounds_toArray, List.set_cons_zero, List.set_cons_succ]) | (refine Ls.takeN (by rfl) (by assumption) ?_; simp only [Act.put, List.setIfInBounds_toArray, List.set_cons_zero, List.set_cons_succ]) | (refine Ls.takeT ?_ (by rfl) ?_ ?_; rotate_left; (focus (intro w' hRw; (try dsimp only at hRw); have hSw := but_held hRw; go_simp; (try with_reducible rfl))); simp only [Act.put, List.setIfInBounds_toArray, List.set_cons_zero, List.set_cons_succ]))
        refine Ls.go ?_; intro K hK; go_simp; go_at_call 56; refine (bytes_any _ _ _).mono ?_; rintro e w0yb ⟨rfl, hb0yb⟩; refine hK _ _ hb0yb ?_; clear hK K; intro wyb hbyb; replace hbyb : Below w0yb.heap.size w0yb wyb := hbyb; have hSyb := held_call (held_call hSya hb0yb) hbyb; try simp only [Act.put, List.setIfInBounds_toArray, List.set_cons_zero, List.set_cons_succ]
        repeat (first | (refine Ls.takeY ?_ (by rfl) ?_ (by assumption) ?_; rotate_left; (focus (intro w' hSw; (try dsimp only at hSw); go_simp; (try with_reducible rfl))); simp only [Act.put, List.setIfInBounds_toArray, List.set_cons_zero, List.set_cons_succ]) | (refine Ls.takeN (by rfl) (by assumption) ?_; simp only [Act.put, List.setIfInBounds_toArray, List.set_cons_zero, List.set_cons_succ]) | (refine Ls.takeT ?_ (by rfl) ?_ ?_; rotate_left; (focus (intro w' hRw; (try dsimp only at hRw); have hSw := but_held hRw; go_simp; (try with_reducible rfl))); simp only [Act.put, List.setIfInBounds_toArray, List.set_cons_zero, List.set_cons_succ]))
        have Hbel3 := Lib.hid (Hbel2.out.trans (hSyb.2.2.mono Hbel2.out.size))
        have HB7c := Lib.hid (((HB7b.out.call hSyb.2.2).set 0 (.int .i64 (32 + (y : Int))) (by simp)).set 1 (.int .u64 mk.toNat) (by simp))
        refine Ls.goX (by rfl) ?_; intro K hK; go_simp; refine hK _ _ (by repeat (first | exact Ls.But.of (Below.refl _ _) | refine but_set ?_)) ?_; clear hK K; intro wyc hbyc; try simp only [Act.put, List.setIfInBounds_toArray, List.set_cons_zero, List.set_cons_succ]
        have HB7d := Lib.hid (HB7c.out.call hbyc)
        have Hbel4 := Lib.hid (((Hbel3.out.setCell (p := ⟨w.heap.size + 1, 0, none⟩) (by simp) (.int .i64 (32 + (y : Int)))).setCell (p := ⟨w.heap.size + 1, 1, none⟩) (by simp) (.int .u64 mk.toNat)).trans (hbyc.mono (by simpa [World.setCell] using Hbel3.out.size)))
        refine Ls.tail ?_
        clear hSya hSyb hbya hbyb hb0yb hbyc c0 c1 c2 j0 j1 j2 j3 j4 s6 q1 h17 e17 HB7b HB7c Hbel2 Hbel3 hne
        have j2 := HB7d.out.lt
        have j3 := HB7d.out.cells 0
        have j4 := HB7d.out.cells 1
        simp at j3 j4
        go_wp2_with fail
        have Hst : Hid (Jn.stands b count len sum = if Dg.bsOf (32 + y : Nat) mk = r17 then some q else none) := by
          show Jn.stands b count len sum = _
          have hn := Hn.out
          have h32 := H32.out
          have hyn := Hyn.out
          unfold Jn.stands
          rw [if_neg (by omega), if_neg (by rw [Hx8.out, Hxc.out]; exact fun h => h rfl), if_neg (by rw [Hy.out, hn]; omega), Hy.out, Hq.out, Hmk.out, Hr17.out]
        refine bodyPost_ret (v := .tuple #[.string ⟨q.toArray⟩, .agg #[.int .i64 (32 + (y : Int)), .int .u64 mk.toNat], .bool (Dg.bsOf (32 + (y : Int)) mk == r17)]) (by simp [results, Try.results67, go_sem, j2, j3, j4]) rfl ⟨_, rfl, ?_, Hbel4.out⟩
        have hcast : ((32 + y : Nat) : Int) = 32 + (y : Int) := by omega
        unfold standsRes
        rw [Hst.out, hcast]
        by_cases heq : Dg.bsOf (32 + (y : Int)) mk = r17
        · rw [if_pos heq]
          show _ = _
          rw [Hql.out, Hmk.out, hcast, heq]
          simp [dval]
        · rw [if_neg heq, beq_eq_false_iff_ne.2 heq]
          exact ⟨_, _, _, rfl⟩
      · have Hno : Hid (Jn.stands b count len sum = none) := by
          show Jn.stands b count len sum = none
          have hn := Hn.out
          have h32 := H32.out
          unfold Jn.stands
          rw [if_neg (by omega), if_neg (by rw [Hx8.out, Hxc.out]; exact fun h => h rfl), if_pos (by rw [Hy.out, hn]; omega)]
        by_cases hbig : y < 9223372036854775808
        · have hnum : numOf y = (y : Int) := by unfold numOf; rw [if_pos hbig]
          rw [hnum]
          have d2 : decide ((y : Int) < 0) = false := decide_eq_false (by omega)
          have d3 : decide ((y : Int) > (n : Int) - 32) = true := decide_eq_true (by have := H32.out; omega)
          have d3' : decide ((n : Int) - 32 < (y : Int)) = true := decide_eq_true (by have := H32.out; omega)
          clear hbig hyn hnum
          have j0 := HB7.out.frozen 0
          have j1 := HB7.out.frozen 1
          have j2 := HB7.out.lt
          have j3 := HB7.out.cells 0
          have j4 := HB7.out.cells 1
          simp only [List.getElem?_cons_zero, List.getElem?_cons_succ] at j3 j4
          go_wp2_with fail
          refine bodyPost_ret (v := .tuple #[.string ⟨#[]⟩, .agg #[.int .i64 0, .int .u64 0], .bool false]) (by simp [results, Try.results67, go_sem, j0, j1, j2, j3, j4]) rfl ⟨_, rfl, ?_, (Hbel.out.setCell (by simp) _).setCell (by simp) _⟩
          unfold standsRes
          rw [Hno.out]
          exact ⟨⟨#[]⟩, 0, 0#64, rfl⟩
        · have hnum : numOf y = -1 := by unfold numOf; rw [if_neg hbig]
          rw [hnum]
          clear hbig hyn hnum
          have j0 := HB7.out.frozen 0
          have j1 := HB7.out.frozen 1
          have j2 := HB7.out.lt
          have j3 := HB7.out.cells 0
          have j4 := HB7.out.cells 1
          simp only [List.getElem?_cons_zero, List.getElem?_cons_succ] at j3 j4
          go_wp2_with fail
          refine bodyPost_ret (v := .tuple #[.string ⟨#[]⟩, .agg #[.int .i64 0, .int .u64 0], .bool false]) (by simp [results, Try.results67, go_sem, j0, j1, j2, j3, j4]) rfl ⟨_, rfl, ?_, (Hbel.out.setCell (by simp) _).setCell (by simp) _⟩
          unfold standsRes
          rw [Hno.out]
          exact ⟨⟨#[]⟩, 0, 0#64, rfl⟩
    · have e1 : (numOf x8 == (count : Int)) = false := by
        have := Hc.out
        rw [beq_eq_false_iff_ne]
        unfold numOf
        split <;> omega
      have Hno : Hid (Jn.stands b count len sum = none) := by
        show Jn.stands b count len sum = none
        have hn := Hn.out
        unfold Jn.stands
        have h32 := H32.out
        rw [if_neg (by omega), if_pos (by rw [Hx8.out]; exact hxc)]
      clear hxc
      have j0 := HB7.out.frozen 0
      have j1 := HB7.out.frozen 1
      have j2 := HB7.out.lt
      have j3 := HB7.out.cells 0
      have j4 := HB7.out.cells 1
      simp only [List.getElem?_cons_zero, List.getElem?_cons_succ] at j3 j4
      go_wp2_with fail
      refine bodyPost_ret (v := .tuple #[.string ⟨#[]⟩, .agg #[.int .i64 0, .int .u64 0], .bool false]) (by simp [results, Try.results67, go_sem, j0, j1, j2, j3, j4]) rfl ⟨_, rfl, ?_, (Hbel.out.setCell (by simp) _).setCell (by simp) _⟩
      unfold standsRes
      rw [Hno.out]
      exact ⟨⟨#[]⟩, 0, 0#64, rfl⟩
end Go.Proofs.Ythpjhmgmjfmgcaa
