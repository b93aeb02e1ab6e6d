import Derived.Test.YthpjhmgmjfmgcaaAcg24
import Derived.Test.YthpjhmgmjfmgcaaAcg14
/- Journals: made blocks. -/
namespace Go.Proofs.Ythpjhmgmjfmgcaa
open Go.ChangeShapes Go.WideShapes Go.RowKit

theorem block_pick {w : World} {g k j : Nat} (h : Blk w g [Value.int .i64 0, Value.int .i64 1, Value.int .i64 31, Value.int .i64 32, Value.int .i64 33, Value.int .i64 60, Value.int .i64 96, Value.int .i64 97, Value.int .i64 150, Value.int .i64 k]) (hk : k ≤ 150) (hj : j < 10) :
    ∃ x : Nat, x ≤ 150 ∧ w.cell? ⟨g, j, none⟩ = some (.int .i64 x) := by
  match j, hj with
  | 0, _ => exact ⟨0, by omega, h.cells 0⟩
  | 1, _ => exact ⟨1, by omega, h.cells 1⟩
  | 2, _ => exact ⟨31, by omega, h.cells 2⟩
  | 3, _ => exact ⟨32, by omega, h.cells 3⟩
  | 4, _ => exact ⟨33, by omega, h.cells 4⟩
  | 5, _ => exact ⟨60, by omega, h.cells 5⟩
  | 6, _ => exact ⟨96, by omega, h.cells 6⟩
  | 7, _ => exact ⟨97, by omega, h.cells 7⟩
  | 8, _ => exact ⟨150, by omega, h.cells 8⟩
  | 9, _ => exact ⟨k, hk, h.cells 9⟩

set_option maxRecDepth 100000 in
set_option maxHeartbeats 800000 in
theorem block_any (gd : Nat) (tv : Value) (ts : List Int) (w : World) (hd : DiceAt gd tv ts w) (ht : IntsAt (· ≠ gd) w tv ts) :
    Calls Try.prog 38 #[.pointer (some ⟨gd, 0, none⟩)] w fun e w' => ∃ bs : List UInt8, e = .returned (.string ⟨bs.toArray⟩) ∧ bs.length ≤ 200 ∧ DR gd tv ts w w' := by
  have Hd := Lib.hid hd
  have Ht := Lib.hid ht
  have hgd := hd.lt
  clear hd ht
  go_enter Try.func38, Try.ntmps38
  go_wp2_with fail
  refine (next_any gd tv ts 100 w Hd.out Ht.out (by omega) (by omega)).mono ?_
  rintro e w1 ⟨k, rfl, hk0, hk1, hD1⟩
  obtain ⟨k, rfl⟩ := Int.eq_ofNat_of_zero_le hk0
  have HD1 := Lib.hid hD1
  clear hD1 hk0
  obtain ⟨w2, hw2, B2, hb2⟩ := fresh_blk w1 [Value.int .i64 0, Value.int .i64 1, Value.int .i64 31, Value.int .i64 32, Value.int .i64 33, Value.int .i64 60, Value.int .i64 96, Value.int .i64 97, Value.int .i64 150, Value.int .i64 k] 3
  have HD2 := Lib.hid (HD1.out.trans (DR.of_below hb2))
  have hw1 := HD1.out.size
  go_wp2_with fail
  clear hw2
  refine (next_any gd tv ts 10 w2 (HD2.out.dice Hd.out) (Ht.out.keep (HD2.out.agree)) (by omega) (by omega)).mono ?_
  rintro e w3 ⟨j, rfl, hj0, hj1, hD3⟩
  obtain ⟨j, rfl⟩ := Int.eq_ofNat_of_zero_le hj0
  have B3 := B2.keep hD3.agree hD3.size (by omega)
  obtain ⟨x, hx, hcx⟩ := block_pick B3 (show k ≤ 150 by omega) (show j < 10 by omega)
  have hlx := B3.lt
  have HD3 := Lib.hid (HD2.out.trans hD3)
  have hj10 : j < 10 := by omega
  clear hD3 B3 B2 hb2 HD1 HD2 hj0 hj1 hk1
  obtain ⟨w4, hm4, Hrow, hb4, hz4⟩ := make_new (P := Try.prog) 27 5 (.int .u8 0) 1 Try.underlying27 (by kernel_rfl) rfl x (by omega) (by omega) w3
  go_upto_region 3 with fail
  clear hm4 hcx
  have HD4 := Lib.hid (HD3.out.trans (DR.of_below hb4))
  have hw3 := HD3.out.size
  obtain ⟨gr, hgr⟩ : ∃ g, g = w3.heap.size := ⟨_, rfl⟩
  rw [← hgr] at Hrow hz4 ⊢
  have hgr1 := Nat.le_of_eq hgr.symm
  have hr0 : rowOf w4 gr ((List.replicate x (0 : UInt8)).map byteVal) := by rw [List.map_replicate]; exact Hrow.out
  have HR := Lib.hid hr0
  clear Hrow hgr hr0 HD3 hb4
  go_upto_region 4 with fail
  go_loopw [5, 17] (fun _ k wr => ∃ (n : Nat) (bs : List UInt8), k = .int .i64 n ∧ Hid (n ≤ x) ∧ Hid (bs.length = x) ∧ Hid (rowOf wr gr (bs.map byteVal)) ∧ Hid (DR gd tv ts w wr) ∧ Hid (gr < wr.heap.size)) (fun _ k _ => x - (intOf k).toNat)
  case atStart => exact ⟨0, List.replicate x 0, rfl, Nat.zero_le _, by show _ = _; simp, HR, HD4, by show gr < _; omega⟩
  case round =>
    obtain ⟨n, bs, rfl, hn, hl, hrow, hD, hg⟩ := hrel
    have hn0 := hn.out
    by_cases hlt : n < x
    · have d1 : decide ((n : Int) < (x : Int)) = true := decide_eq_true (by omega)
      go_wp2_with fail
      refine (next_any gd tv ts 256 wr (hD.out.dice Hd.out) (Ht.out.keep hD.out.agree) (by omega) (by omega)).mono ?_
      rintro e w5 ⟨c, rfl, hc0, hc1, hD5⟩
      obtain ⟨c, rfl⟩ := Int.eq_ofNat_of_zero_le hc0
      have hgn : gr ≠ gd := by omega
      have hrow5 := hrow.out.keep hD5.agree hgn hg.out
      have hg5 : gr < w5.heap.size := Nat.lt_of_lt_of_le hg.out hD5.size
      have HD5 := Lib.hid (hD.out.trans hD5)
      have hcb : IntKind.u8.wrap (c : Int) = (c : Int) := by rw [IntKind.wrap_u8]; omega
      have hnb : n < (bs.map byteVal).length := by rw [List.length_map, hl.out]; exact hlt
      have k0 := hrow5.cell (List.getElem?_eq_getElem hnb)
      have k1 := hrow5.2 n hnb
      clear hD5 hc0
      go_wp2_with fail
      go_roundw
      case rel => exact ⟨n + 1, bs.set n (UInt8.ofNat c), val_int (by omega), by show n + 1 ≤ x; omega, by show _ = _; rw [List.length_set]; exact hl.out, by
        have := hrow5.set n (.int .u8 (c : Int)) hnb
        show rowOf _ gr _
        rw [List.map_set, show byteVal (UInt8.ofNat c) = .int .u8 (c : Int) from by unfold byteVal; rw [UInt8.toNat_ofNat', Nat.mod_eq_of_lt (by omega)]]
        exact this, HD5.out.set ⟨gr, n, none⟩ _ hgn (by show w.heap.size ≤ gr; omega), by show gr < _; simpa [World.setCell] using hg5⟩
      case measure => simp [intOf]; omega
    · have d1 : decide ((n : Int) < (x : Int)) = false := decide_eq_false (by omega)
      have s1 := conv_bytes (P := Try.prog) (w := wr) (n := x) (cap := x) Try.underlying27 Try.underlying5 Try.underlying9 (holds_row (A := fun _ => True) hrow.out trivial) hl.out
      go_wp2_with fail
      go_ret
      exact ⟨bs, rfl, by rw [hl.out]; omega, hD.out⟩
end Go.Proofs.Ythpjhmgmjfmgcaa
/- Journals, plainly: what is read of a disk that was synced, or to which a block was appended. -/
namespace Go.Jn
open Go Go.Proofs.Ythpjhmgmjfmgcaa

theorem rd_bs8 (x : Nat) (h : x < 18446744073709551616) : Dg.rd (Dg.bs8 x) = x := by
  have e : Dg.bs8 x = [Dg.byteAt x 0, Dg.byteAt x 1, Dg.byteAt x 2, Dg.byteAt x 3, Dg.byteAt x 4, Dg.byteAt x 5, Dg.byteAt x 6, Dg.byteAt x 7] := rfl
  rw [e]
  simp only [Dg.rd, List.foldl_cons, List.foldl_nil, Dg.byteAt, UInt8.toNat_ofNat', Nat.mul_zero, Nat.sub_zero, Nat.reduceMul, Nat.reduceSub, Nat.reducePow, Nat.zero_mul, Nat.zero_add, Nat.div_one]
  omega
theorem rows_congr {f g : Nat → Bytes} : ∀ {n : Nat}, (∀ k, k < n → f k = g k) → (List.range n).flatMap f = (List.range n).flatMap g
  | 0, _ => rfl
  | n + 1, h => by
    rw [List.range_succ, List.flatMap_append, List.flatMap_append, rows_congr (n := n) fun k hk => h k (by omega)]
    simp [h n (by omega)]
theorem img_congr {D E : Dk.Dsk} (hl : D.cells.length = E.cells.length) (h : ∀ k, k < D.cells.length → Dk.read D k = Dk.read E k) : img D = img E := by
  unfold img
  rw [← hl]
  exact rows_congr h
theorem read_congr {D E : Dk.Dsk} (hl : D.cells.length = E.cells.length) (h : ∀ k, k < D.cells.length → Dk.read D k = Dk.read E k) : read D = read E := by
  unfold read
  rw [img_congr hl h, hl]
theorem read_sync {D : Dk.Dsk} (h : Dk.Good D) : read (Dk.sync D) = read D := by
  have h1 := (sync_good h).2.2
  exact read_congr h1 fun k hk => Dk.read_sync h (by omega)
theorem scan_count {b : Bytes} : ∀ (f : Nat) (l : List Bytes) (s : St), s.count = l.length → (scan b f l s).2.count = (scan b f l s).1.length
  | 0, _, _, h => h
  | f + 1, l, s, h => by
    unfold scan
    split
    · exact h
    · exact scan_count f _ _ (by simp [St.push, h])
theorem read_count (D : Dk.Dsk) : (read D).2.count = (read D).1.length := scan_count _ _ _ rfl

theorem blockOf_length (len : Int) (sum : BitVec 64) (count : Nat) (p : Bytes) : (blockOf len sum count p).length = 64 * need p.length := by
  unfold blockOf first
  simp only [List.length_append, Dg.bs8_length, bsOf_length, List.length_replicate]
  unfold need
  omega

/-- a block that has room -/
theorem app_good {D : Dk.Dsk} (h : Dk.Good D) {p : Bytes} (hf : fitsB p.length D.cells.length D.writes.length (read D).2.next = true) : Dk.Good (app D (read D).2 p) := by
  have hf := of_decide_eq_true hf
  rw [Int.toNat_natCast] at hf
  have hc := clear_len D (((read D).2.next + need p.length : Nat) : Int)
  unfold app
  exact puts_good (clear_good h _) (blockOf_length ..) (by omega) (by omega) (Nat.le_refl _)
theorem appRR_ok {D : Dk.Dsk} (h : Dk.Good D) (p : Bytes) (R : Ans) (hR : appRR D (read D).2.count (read D).2.next (read D).2.len (read D).2.sum p = R) :
    Dk.Good R.disk ∧ (R.err = 0 → R.count = (read R.disk).2.count ∧ R.next = (read R.disk).2.next ∧ R.len = (read R.disk).2.len ∧ R.sum = (read R.disk).2.sum) := by
  unfold appRR at hR
  rw [if_neg (by rintro h; exact h ⟨rfl, rfl, rfl, rfl⟩)] at hR
  split at hR
  · subst hR
    exact ⟨h, fun he => by cases he⟩
  · rename_i hf
    subst hR
    exact ⟨app_good h (by simpa using hf), fun _ => ⟨rfl, rfl, rfl, rfl⟩⟩

/-- what lies in a row of a disk to which rows were put -/
theorem read_puts {D : Dk.Dsk} {next : Nat} {b : Bytes} {j : Nat} : ∀ {k : Nat}, Dk.read (puts D next b k) j = if next ≤ j ∧ j < next + k then (b.drop (64 * (j - next))).take 64 else Dk.read D j
  | 0 => by rw [puts_zero, if_neg (by omega)]
  | k + 1 => by
    rw [puts_succ, Dk.read_put, read_puts (k := k)]
    by_cases h : next + k = j
    · rw [if_pos h, if_pos (by omega)]
      rw [show j - next = k by omega]
    · rw [if_neg h]
      by_cases h2 : next ≤ j ∧ j < next + k
      · rw [if_pos h2, if_pos (by omega)]
      · rw [if_neg h2, if_neg (by omega)]
theorem read_clear {D : Dk.Dsk} (h : Dk.Good D) {j k : Nat} (hj : j < D.cells.length) : Dk.read (clear D (k : Nat)) j = if k = j then Dk.zeros else Dk.read D j := by
  unfold clear
  split
  · rename_i hk
    rw [Int.toNat_natCast] at hk
    obtain ⟨h1, h2, h3⟩ := sync_good h
    have hg : Dk.Good (Dk.put (Dk.sync D) (k : Nat) Dk.zeros) := Dk.put_good h1 hk.1 (by rw [h3]; exact hk.2.1) (by simp [Dk.zeros]) (by rw [h2]; decide)
    rw [Dk.read_sync hg (by show j < (Dk.sync D).cells.length; rw [h3]; exact hj), Dk.read_put, Dk.read_sync h hj]
  · rename_i hk
    by_cases hkj : k = j
    · subst hkj
      rw [if_pos rfl]
      rw [Int.toNat_natCast] at hk
      apply Classical.byContradiction
      intro hne
      exact hk ⟨by omega, by omega, hne⟩
    · rw [if_neg hkj]

theorem range_two (f : Nat → Bytes) (m : Nat) : ∀ d : Nat, (List.range (m + d)).flatMap f = (List.range m).flatMap f ++ (List.range d).flatMap fun i => f (m + i)
  | 0 => by simp
  | d + 1 => by
    rw [← Nat.add_assoc, List.range_succ, List.flatMap_append, range_two f m d, List.range_succ (n := d), List.flatMap_append, List.append_assoc]
    simp
theorem chunks (b : Bytes) : ∀ k : Nat, (List.range k).flatMap (fun i => (b.drop (64 * i)).take 64) = b.take (64 * k)
  | 0 => by simp
  | k + 1 => by
    rw [List.range_succ, List.flatMap_append, chunks b k, show 64 * (k + 1) = 64 * k + 64 by omega, List.take_add]
    simp
/-- the bytes before a sector, and from it on -/
theorem img_split {D : Dk.Dsk} (h : Dk.Good D) {m : Nat} (hm : m ≤ D.cells.length) :
    (img D).take (64 * m) = (List.range m).flatMap (Dk.read D) ∧ (img D).drop (64 * m) = (List.range (D.cells.length - m)).flatMap fun i => Dk.read D (m + i) := by
  obtain ⟨d, hd⟩ := Nat.exists_eq_add_of_le hm
  unfold img
  rw [hd, range_two, show m + d - m = d by omega]
  have hl : ((List.range m).flatMap (Dk.read D)).length = 64 * m := rows_length fun k hk => Dk.read_length h (by omega)
  exact ⟨by rw [List.take_append_of_le_length (by omega), List.take_of_length_le (by omega)], by rw [List.drop_append_of_le_length (by omega), List.drop_of_length_le (by omega), List.nil_append]⟩

theorem take_drop_of {b b' : Bytes} {N i j : Nat} (h : b.take N = b'.take N) (hij : i + j ≤ N) : (b.drop i).take j = (b'.drop i).take j := by
  have : ∀ c : Bytes, (c.drop i).take j = ((c.take N).drop i).take j := by
    intro c
    rw [List.drop_take, List.take_take, Nat.min_eq_left (by omega)]
  rw [this b, this b', h]
/-- a block stands by its own sectors -/
theorem stands_prefix {b b' : Bytes} {count : Nat} {len : Int} {sum : BitVec 64} {p : Bytes} (hl : b.length = b'.length) (hs : stands b count len sum = some p) (h : b.take (64 * need p.length) = b'.take (64 * need p.length)) : stands b' count len sum = some p := by
  have hs0 := hs
  unfold stands at hs
  split at hs
  · cases hs
  rename_i h1
  split at hs
  · cases hs
  rename_i h2
  split at hs
  · cases hs
  rename_i h3
  split at hs
  · rename_i h4
    injection hs with hs
    have hn : p.length = Dg.rd ((b.drop 8).take 8) := by rw [← hs, List.length_take, List.length_drop]; omega
    have hN : 32 + p.length ≤ 64 * need p.length := by unfold need; omega
    have e1 : b.take 8 = b'.take 8 := by have := take_drop_of (i := 0) (j := 8) h (by omega); simpa using this
    have e2 := take_drop_of (i := 8) (j := 8) h (by omega)
    have e3 := take_drop_of (i := 16) (j := 16) h (by omega)
    have e4 := take_drop_of (i := 32) (j := p.length) h (by omega)
    rw [hn] at e4
    unfold stands
    rw [← hl, ← e1, ← e2, ← e3, ← e4, if_neg h1, if_neg h2, if_neg h3, if_pos h4, hs]
  · cases hs
theorem scan_next {b : Bytes} : ∀ (f : Nat) (l : List Bytes) (s : St), s.next ≤ (scan b f l s).2.next
  | 0, _, _ => Nat.le_refl _
  | f + 1, l, s => by
    unfold scan
    split
    · exact Nat.le_refl _
    · exact Nat.le_trans (by show s.next ≤ s.next + _; omega) (scan_next f _ _)
/-- two disks that are the same as far as the first one's blocks go -/
theorem scan_prefix {b b' : Bytes} {n : Nat} (hb : b.length = 64 * n) (hb' : b'.length = 64 * n) {L : List Bytes} {S : St} (h : b.take (64 * S.next) = b'.take (64 * S.next)) (R' : List Bytes × St) :
    ∀ (f : Nat) (l : List Bytes) (s : St), scan b f l s = (L, S) → At b' n R' l s → At b' n R' L S
  | 0, l, s, hs, ha => by
    cases hs; exact ha
  | f + 1, l, s, hs, ha => by
    cases hp : step b s with
    | none => rw [scan_none hp] at hs; cases hs; exact ha
    | some p =>
      rw [scan_some hp] at hs
      have hn : (s.push p).next ≤ S.next := by have := scan_next (b := b) f (l ++ [p]) (s.push p); rw [hs] at this; exact this
      have hn2 : s.next + need p.length ≤ S.next := hn
      have hp' : step b' s = some p := by
        unfold step at hp ⊢
        refine stands_prefix (by rw [List.length_drop, List.length_drop, hb, hb']) hp ?_
        exact take_drop_of h (by omega)
      exact scan_prefix hb hb' h R' f _ _ hs (ha.some hb' hp')

theorem parts4 (a b c p z : Bytes) (ha : a.length = 8) (hb : b.length = 8) (hc : c.length = 16) : (a ++ (b ++ (c ++ (p ++ z)))).take 8 = a ∧ ((a ++ (b ++ (c ++ (p ++ z)))).drop 8).take 8 = b ∧ ((a ++ (b ++ (c ++ (p ++ z)))).drop 16).take 16 = c ∧ ((a ++ (b ++ (c ++ (p ++ z)))).drop 32).take p.length = p := by
  have d1 : (a ++ (b ++ (c ++ (p ++ z)))).drop 8 = b ++ (c ++ (p ++ z)) := by rw [← ha, List.drop_left]
  have d2 : (a ++ (b ++ (c ++ (p ++ z)))).drop 16 = c ++ (p ++ z) := by rw [show 16 = 8 + 8 from rfl, ← List.drop_drop, d1]; conv => lhs; rw [← hb, List.drop_left]
  have d3 : (a ++ (b ++ (c ++ (p ++ z)))).drop 32 = p ++ z := by rw [show 32 = 16 + 16 from rfl, ← List.drop_drop, d2]; conv => lhs; rw [← hc, List.drop_left]
  refine ⟨?_, ?_, ?_, ?_⟩
  · rw [← ha, List.take_left]
  · rw [d1, ← hb, List.take_left]
  · rw [d2, ← hc, List.take_left]
  · rw [d3, List.take_left]
/-- a block stands where it was written -/
theorem stands_block (len : Int) (sum : BitVec 64) (count : Nat) (p r : Bytes) (hc : count < 18446744073709551616) (hp : p.length < 18446744073709551616) : stands (blockOf len sum count p ++ r) count len sum = some p := by
  have hb := blockOf_length len sum count p
  have hN : 32 + p.length ≤ 64 * need p.length := by unfold need; omega
  obtain ⟨z, hz⟩ : ∃ z, z = List.replicate (64 * need p.length - (32 + p.length)) (0 : UInt8) ++ r := ⟨_, rfl⟩
  have e : blockOf len sum count p ++ r = Dg.bs8 count ++ (Dg.bs8 p.length ++ (Dg.bsOf (32 + p.length : Nat) (mark len sum count p) ++ (p ++ z))) := by
    rw [hz]; unfold blockOf first; simp only [List.append_assoc]
  have e0 : (blockOf len sum count p ++ r).length = 64 * need p.length + r.length := by rw [List.length_append, hb]
  obtain ⟨t1, t2, t3, t4⟩ := parts4 (Dg.bs8 count) (Dg.bs8 p.length) (Dg.bsOf (32 + p.length : Nat) (mark len sum count p)) p z (Dg.bs8_length _) (Dg.bs8_length _) (bsOf_length _ _)
  rw [← e] at t1 t2 t3 t4
  unfold stands
  rw [t1, t2, t3, rd_bs8 _ hc, rd_bs8 _ hp, t4, if_neg (by omega), if_neg (by simp), if_neg (by omega), if_pos rfl]

/-- what is read of a disk to which a block was appended -/
theorem read_app {D : Dk.Dsk} (h : Dk.Good D) {p : Bytes} (hf : fitsB p.length D.cells.length D.writes.length (read D).2.next = true) : read (app D (read D).2 p) = ((read D).1 ++ [p], (read D).2.push p) := by
  have hg := app_good h hf
  have hf' := of_decide_eq_true hf
  rw [Int.toNat_natCast] at hf'
  have hok := read_ok h
  have hcount := hok.count
  have hfew : D.cells.length ≤ 1024 := h.few
  obtain ⟨S, hS⟩ : ∃ S, (read D).2 = S := ⟨_, rfl⟩
  obtain ⟨L, hL⟩ : ∃ L, (read D).1 = L := ⟨_, rfl⟩
  have hR : read D = (L, S) := by rw [← hL, ← hS]
  rw [hS] at hg hf' hok hcount
  rw [hL, hS]
  obtain ⟨hc1, hc2⟩ := clear_len D ((S.next + need p.length : Nat) : Int)
  have hlen : (app D S p).cells.length = D.cells.length := hc1
  -- the rows
  have hrow : ∀ j, j < D.cells.length → Dk.read (app D S p) j = if S.next ≤ j ∧ j < S.next + need p.length then ((blockOf S.len S.sum (S.count + 1) p).drop (64 * (j - S.next))).take 64 else if S.next + need p.length = j then Dk.zeros else Dk.read D j := by
    intro j hj
    unfold app
    rw [read_puts, read_clear h hj]
  have hb := img_length h
  have hb' := img_length hg
  rw [hlen] at hb'
  have hn0 : S.next + need p.length ≤ D.cells.length := by omega
  have hpre : (img D).take (64 * S.next) = (img (app D S p)).take (64 * S.next) := by
    rw [(img_split h (m := S.next) (by omega)).1, (img_split hg (m := S.next) (by omega)).1]
    refine rows_congr fun k hk => ?_
    rw [hrow k (by omega), if_neg (by omega), if_neg (by omega)]
  have hat : At (img (app D S p)) D.cells.length (read (app D S p)) [] St.zero := by have := At.zero (D := app D S p); rwa [hlen] at this
  have hR' : scan (img D) (D.cells.length + 1) [] St.zero = (L, S) := hR
  have h1 := scan_prefix hb hb' hpre _ _ _ _ hR' hat
  have hdrop : ∃ r, (img (app D S p)).drop (64 * S.next) = blockOf S.len S.sum (S.count + 1) p ++ r := by
    rw [(img_split hg (m := S.next) (by omega)).2, hlen]
    obtain ⟨d, hd⟩ := Nat.exists_eq_add_of_le (show need p.length ≤ D.cells.length - S.next by omega)
    rw [hd, range_two]
    refine ⟨_, congrArg (· ++ _) ?_⟩
    rw [← List.take_of_length_le (Nat.le_of_eq (blockOf_length S.len S.sum (S.count + 1) p)), ← chunks]
    refine rows_congr fun k hk => ?_
    rw [hrow _ (by omega), if_pos (by omega), show S.next + k - S.next = k by omega]
  have hs1 : step (img (app D S p)) S = some p := by
    obtain ⟨r, hr⟩ := hdrop
    unfold step
    rw [hr]
    exact stands_block _ _ _ _ _ (by omega) (by omega)
  have h2 := h1.some hb' hs1
  refine h2.none ?_
  unfold step stands
  show (if ((img (app D S p)).drop (64 * (S.next + need p.length))).length < 32 then _ else _) = _
  by_cases hend : S.next + need p.length = D.cells.length
  · rw [if_pos (by rw [List.length_drop, hb', hend]; omega)]
  · have hz : ((img (app D S p)).drop (64 * (S.next + need p.length))).take 8 = List.replicate 8 0 := by
      rw [(img_split hg (m := S.next + need p.length) (by omega)).2, hlen]
      obtain ⟨d, hd⟩ := Nat.exists_eq_add_of_le (show 1 ≤ D.cells.length - (S.next + need p.length) by omega)
      rw [hd, range_two]
      rw [show (List.range 1).flatMap (fun i => Dk.read (app D S p) (S.next + need p.length + i)) = Dk.read (app D S p) (S.next + need p.length) by simp [List.range_succ]]
      rw [hrow _ (by omega), if_neg (by omega), if_pos rfl]
      rfl
    split
    · rfl
    · show (if Dg.rd (((img (app D S p)).drop (64 * (S.next + need p.length))).take 8) ≠ S.count + 1 + 1 then _ else _) = _
      have h8 : Dg.rd (List.replicate 8 0) = 0 := by decide
      rw [hz, h8, if_pos (by omega)]
theorem appRR_eq {D : Dk.Dsk} (h : Dk.Good D) (cnt nxt len : Int) (sum : BitVec 64) (p : Bytes) : appRR D cnt nxt len sum p = appR D cnt nxt len sum p := by
  unfold appRR appR
  split
  · rfl
  rename_i hst
  have hst := Classical.not_not.1 hst
  split
  · rfl
  · rename_i hf
    rw [read_app h (by rw [hst.2.1] at hf; simpa using hf)]

end Go.Jn
