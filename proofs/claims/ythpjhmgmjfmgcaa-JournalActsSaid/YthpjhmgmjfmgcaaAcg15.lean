import Derived.Test.YthpjhmgmjfmgcaaAcg10
import Derived.Test.YthpjhmgmjfmgcaaAcg11
import Derived.Test.YthpjhmgmjfmgcaaAcg14
/- Journals: the program's image and scan. -/
namespace Go.Proofs.Ythpjhmgmjfmgcaa
open Go.ChangeShapes Go.WideShapes Go.RowKit

def rowsTo (D : Dk.Dsk) (j : Nat) : List UInt8 := (List.range j).flatMap (Dk.read D)
theorem rowsTo_succ (D : Dk.Dsk) (j : Nat) : rowsTo D (j + 1) = rowsTo D j ++ Dk.read D j := by unfold rowsTo; rw [List.range_succ, List.flatMap_append]; simp
theorem rowsTo_length {D : Dk.Dsk} (hD : Dk.Good D) {j : Nat} (hj : j ≤ D.cells.length) : (rowsTo D j).length = 64 * j := Jn.rows_length fun k hk => Dk.read_length hD (by omega)

set_option maxRecDepth 100000 in
theorem image_any {A : Nat → Prop} (v : Value) (D : Dk.Dsk) (w : World) (hv : DiskAt A w v D) (hD : Dk.Good D) :
    Calls Try.prog 66 #[v] w fun e w' => ∃ v', e = .returned v' ∧ Below w.heap.size w w' ∧ BRow (w.heap.size ≤ ·) w' v' (Jn.img D) := by
  obtain ⟨p, c, p2, c2, rfl⟩ := hv.parts
  obtain ⟨n, hn⟩ : ∃ n, D.cells.length = n := ⟨_, rfl⟩
  obtain ⟨m, hm⟩ : ∃ m, D.writes.length = m := ⟨_, rfl⟩
  rw [hn, hm] at hv ⊢
  have Hn := Lib.hid hn
  have HD := Lib.hid hD
  have hn1 : n ≤ 1024 := by have := hD.few; omega
  have Hn1 := Lib.hid hn1
  clear hn hm hD hn1
  go_enter Try.func66, Try.ntmps66
  go_upto_region 2 with fail
  obtain ⟨w1, hw1, B1, hb1⟩ := fresh_blk w [Value.slice p n c, Value.slice p2 m c2] 25
  rw [hw1]
  have HV := Lib.hid (DV.new hv B1 hb1)
  have Hb1 := Lib.hid hb1
  obtain ⟨g1, hg1⟩ : ∃ g, g = w.heap.size := ⟨_, rfl⟩
  rw [← hg1] at HV ⊢
  have c0 := HV.out.blk.cells 0
  have cl := HV.out.blk.lt
  simp only [List.getElem?_cons_zero] at c0
  clear hw1 B1 hb1 hv hg1
  go_upto_region 3 with fail
  go_loopw [3, 10] (fun v i wr => ∃ j : Nat, i = .int .i64 j ∧ Hid (j ≤ n) ∧ Hid (wr.ownsRow w1.heap.size 5 1 v (64 * j) ((rowsTo D j).map byteVal)) ∧ Hid (Below w1.heap.size w1 wr)) (fun _ i _ => n - (intOf i).toNat)
  case atStart => exact ⟨0, rfl, Nat.zero_le _, World.ownsRow_nil _ _ _ _, Below.refl _ _⟩
  case round =>
    obtain ⟨j, rfl, hj, hown, hbel⟩ := hrel
    clear c0 cl
    have hV := HV.out.call hbel.out
    have c0 := hV.blk.cells 0
    have c1 := hV.blk.cells 1
    have cl := hV.blk.lt
    simp only [List.getElem?_cons_zero, List.getElem?_cons_succ] at c0 c1
    by_cases hjn : j < n
    · have dj : decide ((j : Int) < (n : Int)) = true := decide_eq_true (by omega)
      have hjc : j < D.cells.length := by have := Hn.out; omega
      have hrd := read_any (k := (j : Int)) _ D wr hV.disk HD.out
      rw [readR_in hjc] at hrd
      have Hrd := Lib.hid hrd
      have Hl := Lib.hid (Dk.read_length HD.out hjc)
      have hbig : w1.heap.size ≤ wr.heap.size := hbel.out.size
      clear hrd hV hjc
      go_wp2_with fail
      refine Hrd.out.mono ?_
      rintro e w5 ⟨v5, rfl, hb5, hrow⟩
      obtain ⟨q, cq, rfl, hq, hcq⟩ := hrow
      dsimp only at hq hcq ⊢
      rw [Hl.out] at hcq ⊢
      unfold newRes
      have ho5 := ownsRow_below hown.out hb5
      have hbig5 : w1.heap.size ≤ w5.heap.size := Nat.le_trans hbig hb5.size
      have hbel5 := Lib.hid (hbel.out.trans (hb5.mono hbig))
      have HO := Lib.hid ho5
      have HQ := Lib.hid hq
      have hj1 := Hn1.out
      clear hb5 hq ho5 c0 c1 cl Hrd
      go_wp2_with (at_builtin; refine app_src _ _ 27 27 5 (.int .u8 0) 1 1 rfl rfl Try.underlying27 (by kernel_rfl) rfl (by decide) w1.heap.size HO.out hbig5 rfl rfl (Holds.src (e' := 5) Try.underlying27 HQ.out (by simp [Hl.out]) (by decide) (bytes_one _)) ?c1 ?c2 ?_)
      case c1 => unfold maxLen; omega
      case c2 => omega
      intro v' w' ho' hg'
      have hbel' := Lib.hid (below_own hbel5.out HO.out hg' hbig5)
      rw [← List.map_append, ← rowsTo_succ] at ho'
      have Ho' := Lib.hid ho'
      clear ho' hg'
      go_wp2_with fail
      go_roundw
      case rel => exact ⟨j + 1, by simp, by show j + 1 ≤ n; omega, by have := Ho'.out; rwa [show 64 * j + 64 = 64 * (j + 1) by omega] at this, hbel'⟩
      case measure => simp [intOf]; omega
    · have dj : decide ((j : Int) < (n : Int)) = false := decide_eq_false (by omega)
      obtain rfl : j = n := by have := hj.out; omega
      go_wp2_with fail
      obtain ⟨q, cq, hvv, hh, hcc⟩ := ownsRow_holds3 hown.out
      subst hvv
      go_ret
      have hl := rowsTo_length HD.out (Nat.le_of_eq Hn.out.symm)
      refine ⟨_, rfl, Hb1.out.trans (hbel.out.mono Hb1.out.size), q, cq, ?_, ?_, ?_⟩
      · show Value.slice q (64 * j) cq = Value.slice q (rowsTo D D.cells.length).length cq
        rw [Hn.out, hl]
      · show Holds _ _ _ ((rowsTo D D.cells.length).map byteVal)
        rw [Hn.out]
        exact hh.mono fun g hg => Nat.le_trans Hb1.out.size hg.2
      · show (rowsTo D D.cells.length).length ≤ cq
        rw [Hn.out, hl]; exact hcc

/-- a slice of strings that is only read -/
def strVal (l : List UInt8) : Value := .string ⟨l.toArray⟩
def SRow (A : Nat → Prop) (w : World) (v : Value) (l : List (List UInt8)) : Prop := ∃ p cap, v = .slice p l.length cap ∧ Holds A w p (l.map strVal) ∧ l.length ≤ cap
/-- a journal as a value -/
def jval (cv wv : Value) (count next len : Int) (sum : BitVec 64) : Value := .agg #[cv, wv, .int .i64 count, .int .i64 next, .int .i64 len, .int .u64 sum.toNat]
def JAt (A : Nat → Prop) (w : World) (v : Value) (D : Dk.Dsk) (count next len : Int) (sum : BitVec 64) : Prop := ∃ cv wv, v = jval cv wv count next len sum ∧ DiskAt A w (.agg #[cv, wv]) D

theorem stands_split {b : List UInt8} {count : Nat} {len : Int} {sum : BitVec 64} {v : Value} (h : standsRes b count len sum v) :
    ∃ (str : ByteArray) (n : Int) (c : BitVec 64) (bo : Bool), v = .tuple #[.string str, dval n c, .bool bo] ∧
      ((bo = false ∧ Jn.stands b count len sum = none) ∨ (bo = true ∧ ∃ p, Jn.stands b count len sum = some p ∧ str = ⟨p.toArray⟩ ∧ n = (32 + p.length : Nat) ∧ c = Jn.mark len sum count p)) := by
  unfold standsRes at h
  cases hs : Jn.stands b count len sum with
  | none => rw [hs] at h; obtain ⟨s, n, c, rfl⟩ := h; exact ⟨s, n, c, false, rfl, .inl ⟨rfl, rfl⟩⟩
  | some p => rw [hs] at h; exact ⟨_, _, _, true, h, .inr ⟨rfl, p, rfl, rfl, rfl, rfl⟩⟩

theorem jstands_n {A : Nat → Prop} (p : Option Addr) (cap : Nat) (b : List UInt8) (n count : Nat) (X : Int) (len : Int) (sum : BitVec 64) (w : World) (h : Holds A w p (b.map byteVal)) (hn : b.length = n) (hcap : n ≤ cap) (hb : n ≤ 65536) (hc : count ≤ 1000000) (hc0 : 0 < count) (hX : X = count) :
    Calls Try.prog 67 #[.slice p n cap, .int .i64 X, dval len sum] w fun e w' => ∃ v, e = .returned v ∧ standsRes b count len sum v ∧ Below w.heap.size w w' := by
  subst hn hX
  exact jstands_any p cap b count len sum w h hcap hb hc hc0

set_option maxRecDepth 100000 in
set_option maxHeartbeats 800000 in
theorem scan_any {A : Nat → Prop} (v : Value) (D : Dk.Dsk) (w : World) (hv : DiskAt A w v D) (hD : Dk.Good D) :
    Calls Try.prog 52 #[v] w fun e w' => ∃ lv jv, e = .returned (.tuple #[lv, jv]) ∧ Below w.heap.size w w' ∧ SRow (w.heap.size ≤ ·) w' lv (Jn.read D).1 ∧
      JAt (w.heap.size ≤ ·) w' jv D (Jn.read D).2.count (Jn.read D).2.next (Jn.read D).2.len (Jn.read D).2.sum := by
  obtain ⟨p, c, p2, c2, rfl⟩ := hv.parts
  have HD := Lib.hid hD
  have hn1 : D.cells.length ≤ 1024 := hD.few
  have hm1 : D.writes.length ≤ 64 := hD.room
  obtain ⟨n, hn⟩ : ∃ n, D.cells.length = n := ⟨_, rfl⟩
  obtain ⟨m, hm⟩ : ∃ m, D.writes.length = m := ⟨_, rfl⟩
  rw [hn] at hn1
  rw [hn, hm] at hv ⊢
  have Hn := Lib.hid hn
  have Hm := Lib.hid hm
  have Hn1 := Lib.hid hn1
  clear hn hm hD hn1 hm1
  go_enter Try.func52, Try.ntmps52
  go_upto_region 1 with fail
  obtain ⟨w1, hw1, B1, hb1⟩ := fresh_blk w [Value.slice p n c, Value.slice p2 m c2] 25
  rw [hw1]
  obtain ⟨w2, hw2, B3, hb2⟩ := fresh_blk w1 [Value.slice none 0 0, Value.slice none 0 0, Value.int .i64 0, Value.int .i64 0, Value.int .i64 0, Value.int .u64 0] 53
  rw [hw2]
  have hz1 : w1.heap.size = w.heap.size + 1 := by rw [← hw1]; simp
  have hz2 : w2.heap.size = w.heap.size + 2 := by rw [← hw2]; simp [hz1]
  have HV := Lib.hid ((DVH.of (DV.new hv B1 hb1)).call hb2)
  rw [hz1] at B3
  have HB3 := Lib.hid B3
  have Hb2 := Lib.hid (hb1.trans (hb2.mono hb1.size))
  have c0 := HV.out.blk.cells 0
  have c1 := HV.out.blk.cells 1
  have cl := HV.out.blk.lt
  simp only [List.getElem?_cons_zero, List.getElem?_cons_succ] at c0 c1
  clear hw1 hw2 B1 B3 hb1 hb2 hv hz1
  go_wp2_with fail
  refine (copy_any _ D _ HV.out.disk HD.out).mono ?_
  rintro e w3 ⟨v3, rfl, hb3, hC⟩
  have hC3 := hC.disk
  obtain ⟨q1, d1, q2, d2, rfl⟩ := hC3.parts
  rw [Hn.out, Hm.out] at hC3 ⊢
  go_upto_region 2 with fail
  obtain ⟨w4, hw4, B4, hb4⟩ := fresh_blk w3 [Value.slice q1 n d1, Value.slice q2 m d2, Value.int .i64 0, Value.int .i64 0, Value.int .i64 0, Value.int .u64 0] 53
  rw [hw4]
  obtain ⟨g4, hg4⟩ : ∃ g, g = w3.heap.size := ⟨_, rfl⟩
  have hD4 : DiskAt (fun b => w2.heap.size ≤ b ∧ b ≠ g4) w4 (.agg #[.slice q1 n d1, .slice q2 m d2]) D := (hC3.lt.keep (agree_below hb4)).mono fun b hb => ⟨hb.1, by rw [hg4]; omega⟩
  have hg4b : w.heap.size + 2 ≤ g4 := by rw [hg4, ← hz2]; exact hb3.size
  have HD4 := Lib.hid hD4
  have hb34 := ext_trans hb3 hb4
  have HV4 := Lib.hid (HV.out.call hb34)
  have HB34 := Lib.hid (HB3.out.call hb34)
  have Hb4 := Lib.hid (Hb2.out.trans (hb34.mono Hb2.out.size))
  rw [← hg4] at B4 ⊢
  have HB4 := Lib.hid B4
  have Hz2 := Lib.hid hz2
  clear c0 c1 cl hw4 hb4 hb3 hb34 hC hC3 hD4 B4 hg4 HV HB3 Hb2 hz2
  have c0 := HV4.out.blk.cells 0
  have c1 := HV4.out.blk.cells 1
  have cl := HV4.out.blk.lt
  simp only [List.getElem?_cons_zero, List.getElem?_cons_succ] at c0 c1
  go_wp2_with fail
  refine (image_any _ D _ HV4.out.disk HD.out).mono ?_
  rintro e w5 ⟨v5, rfl, hb5, hrow⟩
  obtain ⟨b, hb⟩ : ∃ b, Jn.img D = b := ⟨_, rfl⟩
  have hbl : b.length = 64 * n := by rw [← hb, Jn.img_length HD.out, Hn.out]
  rw [hb] at hrow
  obtain ⟨q5, d5, rfl, hq5, hd5⟩ := hrow
  rw [hbl] at hd5 ⊢
  have hat : Jn.At b n (Jn.read D) [] Jn.St.zero := by rw [← hb, ← Hn.out]; exact Jn.At.zero
  have hg45 : g4 < w4.heap.size := HB4.out.lt
  have HQ5 := Lib.hid (hq5.lt.mono (B := fun g => w4.heap.size ≤ g ∧ g ≠ g4 ∧ g < w5.heap.size) fun g hg => ⟨hg.1, by omega, hg.2⟩)
  have HD5 := Lib.hid (HD4.out.lt.keep (agree_below hb5))
  have HB35 := Lib.hid (HB34.out.call hb5)
  have HB45 := Lib.hid (HB4.out.call hb5)
  have Hb5 := Lib.hid (Hb4.out.trans (hb5.mono Hb4.out.size))
  have Hbl := Lib.hid hbl
  have Hd5 := Lib.hid hd5
  have hsz45 : w4.heap.size ≤ w5.heap.size := hb5.size
  obtain ⟨RD, hRD⟩ : ∃ R, Jn.read D = R := ⟨_, rfl⟩
  rw [hRD] at hat
  have HRD := Lib.hid hRD
  have Hat := Lib.hid hat
  have hg4w5 : g4 < w5.heap.size := by omega
  clear c0 c1 cl hb5 hq5 hd5 hbl hat hRD hb HB4 HB34 Hb4 HD4 HV4
  go_upto_region 4 with fail
  go_loopw [6] (fun v wr => ∃ (l : List (List UInt8)) (s : Jn.St), Hid (Jn.At b n RD l s) ∧ Hid (l.length = s.count) ∧ Hid (wr.ownsRow w5.heap.size 9 1 v l.length (l.map strVal)) ∧ Hid (Blk wr g4 [Value.slice q1 n d1, Value.slice q2 m d2, Value.int .i64 s.count, Value.int .i64 s.next, Value.int .i64 s.len, Value.int .u64 s.sum.toNat]) ∧ Hid (Ls.But g4 w5 wr))
    (fun _ wr => match wr.cell? ⟨g4, 3, none⟩ with | some (.int _ k) => n + 1 - k.toNat | _ => 0)
  case atStart => exact ⟨[], Jn.St.zero, Hat, rfl, World.ownsRow_nil _ _ _ _, HB45, Ls.But.of (Below.refl _ _)⟩
  case round =>
    obtain ⟨l, ⟨cnt, nxt, len, sum⟩, hAt, hlc, hown, hblk, hbut⟩ := hrel
    dsimp only at hblk
    have hok := hAt.out.1
    have hk1 : cnt ≤ nxt := hok.count
    have hk2 : nxt ≤ n := hok.next
    have hk3 : len ≤ 64 * n := hok.len
    have hn1 := Hn1.out
    have c0 := hblk.out.cells 0
    have c1 := hblk.out.cells 1
    have c2 := hblk.out.cells 2
    have c3 := hblk.out.cells 3
    have c4 := hblk.out.cells 4
    have c5 := hblk.out.cells 5
    have cl := hblk.out.lt
    simp only [List.getElem?_cons_zero, List.getElem?_cons_succ] at c0 c1 c2 c3 c4 c5
    have hw1 : IntKind.i64.wrap ((nxt : Int) * 64) = (nxt : Int) * 64 := by rw [IntKind.wrap_i64]; omega
    have hw2 : IntKind.i64.wrap ((cnt : Int) + 1) = (cnt : Int) + 1 := by rw [IntKind.wrap_i64]; omega
    have hmin : (if (nxt : Int) * 64 < 64 * (n : Int) then (nxt : Int) * 64 else 64 * (n : Int)) = 64 * (nxt : Int) := by split <;> omega
    obtain ⟨q6, e6, h6⟩ := cut_l (HQ5.out.keep (agree_but hbut.out |>.mono fun g hg => hg.2.1)) (64 * n) d5 (64 * nxt) (64 * (nxt : Int)) (by omega) (by omega) Hd5.out
    have hbl := Hbl.out
    rw [List.take_of_length_le (by rw [List.length_drop, hbl]; exact Nat.le_refl _)] at h6
    have hl6 : (b.drop (64 * nxt)).length = 64 * n - 64 * nxt := by rw [List.length_drop, hbl]
    have hc5 : 64 * n - 64 * nxt ≤ d5 - 64 * nxt := by have := Hd5.out; omega
    clear hbl
    go_upto_region 4 with fail
    refine Lx.region1 Lx.below_steps [(0, true), (1, true), (2, true), (3, true), (4, true), (5, true), (6, true), (7, true), (8, true), (9, true), (10, true), (11, true), (12, true), (13, false), (14, true)] [(15, true), (16, true), (17, true)] [(19, false), (20, false), (21, false)] 18 _ (fun w' => (∀ b o, b < wr.heap.size → w'.cell? ⟨b, o, none⟩ = wr.cell? ⟨b, o, none⟩) ∧ (∀ b o, b < wr.heap.size → w'.frozen? ⟨b, o, none⟩ = wr.frozen? ⟨b, o, none⟩) ∧ Below wr.heap.size wr w') (NewBlk wr.heap.size 51 [Value.int .i64 0, Value.int .u64 0]) (by kernel_rfl) (by kernel_rfl) rfl (fun _ _ _ _ _ h => h) (fun _ _ _ _ _ h => h) (fun _ h => held_below h) (fun _ _ h hb => held_call h hb) (fun _ _ _ h hb => h.call hb) (fun a w1 h => new_alloc (z := (Value.agg #[.int .i64 0, .int .u64 0])) (by rfl) (by kernel_rfl) h.2.2) ?_; intro xa hbxa; replace hbxa : Below wr.heap.size wr xa := hbxa; simp only [Lx.pick, List.filterMap_cons, List.filterMap_nil, List.getElem?_cons_succ, List.getElem?_cons_zero, List.map_cons, List.map_nil, List.cons_append, List.nil_append]; have hSxa := held_below hbxa
    repeat (first | (refine Lx.takeY ?_ (by rfl) ?_ (by assumption) ?_; rotate_left; (focus (intro w' hSw; (try dsimp only at hSw); go_simp; (try with_reducible rfl))); simp only [Act.put, List.setIfInBounds_toArray, List.set_cons_zero, List.set_cons_succ]) | (refine Lx.takeN (by rfl) (by assumption) ?_; simp only [Act.put, List.setIfInBounds_toArray, List.set_cons_zero, List.set_cons_succ]))
    refine Lx.go ?_; intro K hK; go_simp; go_at_call 67; refine (jstands_n q6 (d5 - 64 * nxt) (b.drop (64 * nxt)) (64 * n - 64 * nxt) (cnt + 1) _ len sum _ (h6.keep (agree_below hbxa)) hl6 hc5 (by omega) (by omega) (by omega) (by omega)).mono ?_; rintro e w0xb ⟨sv, rfl, hsr, hb0xb⟩; refine hK _ _ hb0xb ?_; clear hK K; intro wxb hbxb; replace hbxb : Below w0xb.heap.size w0xb wxb := hbxb; have hSxb := held_call (held_call hSxa hb0xb) hbxb; try simp only [Act.put, List.setIfInBounds_toArray, List.set_cons_zero, List.set_cons_succ]
    obtain ⟨str, sn, sc, bo, rfl, hsplit⟩ := stands_split hsr
    unfold dval
    repeat (first | (refine Lx.takeY ?_ (by rfl) ?_ (by assumption) ?_; rotate_left; (focus (intro w' hSw; (try dsimp only at hSw); go_simp; (try with_reducible rfl))); simp only [Act.put, List.setIfInBounds_toArray, List.set_cons_zero, List.set_cons_succ]) | (refine Lx.takeN (by rfl) (by assumption) ?_; simp only [Act.put, List.setIfInBounds_toArray, List.set_cons_zero, List.set_cons_succ]))
    refine Lx.tail ?_
    intro vv hv
    obtain ⟨gy, rfl, hgy, BN, _⟩ := hv
    simp only [Act.put, List.setIfInBounds_toArray, List.set_cons_zero, List.set_cons_succ]
    have hbr := hSxb.2.2
    have hown2 := ownsRow_below hown.out hbr
    have hblk2 := hblk.out.call hbr
    have hbut2 := hbut.out.trans (Ls.But.of hbr)
    have hw5r := hbut.out.size
    have hgr : g4 < wr.heap.size := cl
    have hk : Agree (· ≠ gy) wxb ((wxb.setCell ⟨gy, 0, none⟩ (.int .i64 sn)).setCell ⟨gy, 1, none⟩ (.int .u64 sc.toNat)) := (agree_at wxb gy 0 _).trans (by simp [World.setCell]) (agree_at _ gy 1 _)
    have hks : wxb.heap.size ≤ ((wxb.setCell ⟨gy, 0, none⟩ (.int .i64 sn)).setCell ⟨gy, 1, none⟩ (.int .u64 sc.toNat)).heap.size := by simp [World.setCell]
    have HO := Lib.hid (ownsRow_keep hown2 hk (fun b e => by have := (hown.out.lt b e).2; omega))
    have HB := Lib.hid (hblk2.keep hk hks (by omega))
    have HBY := Lib.hid ((BN.set 0 (.int .i64 sn) (by simp)).set 1 (.int .u64 sc.toNat) (by simp))
    have HBT := Lib.hid (but_new (o := 1) (v := .int .u64 sc.toNat) (but_new (o := 0) (v := .int .i64 sn) hbut2 (Nat.le_trans hw5r hgy)) (Nat.le_trans hw5r hgy))
    have e0 := BN.cells 0
    have e1 := BN.cells 1
    have f0 := BN.frozen 0
    have f1 := BN.frozen 1
    have l8 := BN.lt
    simp only [List.getElem?_cons_zero, List.getElem?_cons_succ] at e0 e1
    have hgy4 : g4 ≠ gy := by omega
    have Hsp := Lib.hid hsplit
    have Hlt6 := Lib.hid fun (b : Nat) e => hown.out.lt b e
    have Hc3 := Lib.hid c3
    clear hbr hown2 hblk2 hbut2 hk hks BN hSxa hSxb hbxa hbxb hb0xb hsr c0 c1 c2 c3 c4 c5 cl h6 e6 hl6 hc5 hmin hsplit hw1 hw2
    go_upto_region 5 with fail
    clear e0 e1 f0 f1 l8
    generalize hwf : (wxb.setCell ⟨gy, 0, none⟩ (.int .i64 sn)).setCell ⟨gy, 1, none⟩ (.int .u64 sc.toNat) = wz at *
    clear hwf
    rcases Hsp.out with ⟨rfl, hno⟩ | ⟨rfl, pl, hsome, rfl, rfl, rfl⟩
    · have hst : Jn.step b ⟨cnt, nxt, len, sum⟩ = none := hno
      have hR := Jn.At.none hAt.out hst
      have HR := Lib.hid hR
      obtain ⟨pl, cl, hpl, hhl, hcl⟩ := ownsRow_holds3 HO.out
      subst hpl
      have hhl2 : Holds (fun g => w5.heap.size ≤ g) wz pl (l.map strVal) := hhl.mono fun g hg => hg.2
      have Hhl := Lib.hid hhl2
      have Hcl := Lib.hid hcl
      have HB3z := Lib.hid (HB35.out.keep (agree_but HBT.out) HBT.out.size (show w.heap.size + 1 ≠ g4 by omega))
      have HDz := Lib.hid (HD5.out.keep ((agree_but HBT.out).mono fun g hg => hg.1.2))
      have Hbz := Lib.hid (Hb5.out.trans (HBT.out.below (B := w.heap.size) (by omega) (by omega)))
      clear hno hst hR hhl hhl2 hcl Hsp HBY Hlt6 Hc3 HO hAt hlc
      have c0 := HB.out.cells 0
      have c1 := HB.out.cells 1
      have c2 := HB.out.cells 2
      have c3 := HB.out.cells 3
      have c4 := HB.out.cells 4
      have c5 := HB.out.cells 5
      have c6 := HB.out.lt
      have j0 := HB3z.out.frozen 0
      have j1 := HB3z.out.frozen 1
      have j2 := HB3z.out.frozen 2
      have j3 := HB3z.out.frozen 3
      have j4 := HB3z.out.frozen 4
      have j5 := HB3z.out.frozen 5
      have k0 := HB3z.out.cells 0
      have k1 := HB3z.out.cells 1
      have k2 := HB3z.out.cells 2
      have k3 := HB3z.out.cells 3
      have k4 := HB3z.out.cells 4
      have k5 := HB3z.out.cells 5
      have k6 := HB3z.out.lt
      simp only [List.getElem?_cons_zero, List.getElem?_cons_succ] at c0 c1 c2 c3 c4 c5 k0 k1 k2 k3 k4 k5
      go_upto_region 6 with fail
      refine Lx.region Lx.below_steps [(0, true), (1, true), (2, true)] [(3, false)] (fun w' => (∀ b o, b < wz.heap.size → w'.cell? ⟨b, o, none⟩ = wz.cell? ⟨b, o, none⟩) ∧ (∀ b o, b < wz.heap.size → w'.frozen? ⟨b, o, none⟩ = wz.frozen? ⟨b, o, none⟩) ∧ Below wz.heap.size wz w') (by kernel_rfl) (by kernel_rfl) (fun _ _ _ _ _ h => h) (fun _ h => held_below h) (fun _ _ h hb => held_call h hb) ?_; intro ya hbya; replace hbya : Below wz.heap.size wz ya := hbya; simp only [Lx.pick, List.filterMap_cons, List.filterMap_nil, List.getElem?_cons_succ, List.getElem?_cons_zero, List.map_cons, List.map_nil]; have hSya := held_below hbya
      repeat (first | (refine Lx.takeY ?_ (by rfl) ?_ (by assumption) ?_; rotate_left; (focus (intro w' hSw; (try dsimp only at hSw); go_simp; (try with_reducible rfl))); simp only [Act.put, List.setIfInBounds_toArray, List.set_cons_zero, List.set_cons_succ]) | (refine Lx.takeN (by rfl) (by assumption) ?_; simp only [Act.put, List.setIfInBounds_toArray, List.set_cons_zero, List.set_cons_succ]))
      have HBf := Lib.hid (blk6 (HB3z.out.call hbya) (.slice q1 n d1) (.slice q2 m d2) (.int .i64 cnt) (.int .i64 nxt) (.int .i64 len) (.int .u64 sum.toNat))
      have hsf := set6_size ya (w.heap.size + 1) (.slice q1 n d1) (.slice q2 m d2) (.int .i64 cnt) (.int .i64 nxt) (.int .i64 len) (.int .u64 sum.toNat)
      have haf := agree6 ya (w.heap.size + 1) (.slice q1 n d1) (.slice q2 m d2) (.int .i64 cnt) (.int .i64 nxt) (.int .i64 len) (.int .u64 sum.toNat)
      have hz2 := Hz2.out
      have HDf := Lib.hid ((HDz.out.keep (agree_below hbya)).keep (haf.mono fun g hg => by omega))
      have Hhf := Lib.hid ((Hhl.out.keep (agree_below hbya)).keep (haf.mono fun g hg => by have := Hb5.out.size; omega))
      have Hbf := Lib.hid (below6 (Hbz.out.trans (hbya.mono Hbz.out.size)) (show w.heap.size ≤ w.heap.size + 1 by omega) (.slice q1 n d1) (.slice q2 m d2) (.int .i64 cnt) (.int .i64 nxt) (.int .i64 len) (.int .u64 sum.toNat))
      clear hsf haf HDz Hhl Hbz
      refine Lx.tail ?_
      go_wp2_with fail
      have c0 := HBf.out.cells 0
      have c1 := HBf.out.cells 1
      have c2 := HBf.out.cells 2
      have c3 := HBf.out.cells 3
      have c4 := HBf.out.cells 4
      have c5 := HBf.out.cells 5
      have c6 := HBf.out.lt
      simp only [List.getElem?_cons_zero, List.getElem?_cons_succ] at c0 c1 c2 c3 c4 c5
      unfold set6 at c0 c1 c2 c3 c4 c5 c6
      refine bodyPost_ret (v := .tuple #[.slice pl l.length cl, jval (.slice q1 n d1) (.slice q2 m d2) cnt nxt len sum]) ?_ rfl ⟨_, _, rfl, Hbf.out, ?_, ?_⟩
      · simp [results, Try.results52, go_sem, jval, c0, c1, c2, c3, c4, c5, c6]
      · rw [HRD.out, HR.out]
        exact ⟨pl, cl, rfl, Hhf.out.mono fun g hg => by have := Hb5.out.size; omega, Hcl.out⟩
      · rw [HRD.out, HR.out]
        exact ⟨_, _, rfl, HDf.out.mono fun g hg => by have := Hz2.out; omega⟩
    · have hst : Jn.step b ⟨cnt, nxt, len, sum⟩ = some pl := hsome
      have HAt2 := Lib.hid (Jn.At.some Hbl.out hAt.out hst)
      have hpl := Jn.step_len hst
      dsimp only at hpl
      have hbl := Hbl.out
      have hpl2 : pl.length ≤ 65536 := by omega
      have hl5 : l.length = cnt := hlc.out
      have hbig : w5.heap.size ≤ wz.heap.size := HBT.out.size
      have Hpl := Lib.hid hpl
      clear hsome hst Hsp hbl hpl hAt
      go_upto_region 8 with (at_builtin; refine app_new _ _ 58 9 (.string ⟨#[]⟩) 1 16 rfl rfl Try.underlying58 (by kernel_rfl) rfl (by decide) _ HO.out hbig rfl rfl rfl ?c1 ?c2 ?c3 ?_)
      case c1 => simp [Value.oneCell']
      case c2 => unfold maxLen; omega
      case c3 => omega
      intro v' w7 ho' hg'
      have HO7 := Lib.hid ho'
      have hag : Agree (fun g => some g ≠ u6.ownBlock) wz w7 := agree_grown hg' (fun g hg => hg)
      have HB7 := Lib.hid (HB.out.keep hag hg'.size (fun e => by have := (Hlt6.out g4 e.symm).1; omega))
      have HBY7 := Lib.hid (HBY.out.keep hag hg'.size (fun e => by have := (Hlt6.out gy e.symm).2; omega))
      have HBT7 := Lib.hid (but_grown HBT.out hg' (fun b e => (Hlt6.out b e).1))
      have hlt7 : ∀ b, v'.ownBlock = some b → b ≠ g4 := fun b e => by have := (ho'.lt b e).1; omega
      have Hlt7 := Lib.hid hlt7
      clear ho' hg' hag HO HB HBY HBT Hlt6 hlt7 hbig hl5
      obtain ⟨mk, hmk⟩ : ∃ m, Jn.mark (len : Int) sum (cnt + 1) pl = m := ⟨_, rfl⟩
      have Hmk := Lib.hid hmk
      rw [hmk] at HBY7 ⊢
      clear hmk
      have c0 := HB7.out.cells 0
      have c1 := HB7.out.cells 1
      have c2 := HB7.out.cells 2
      have c3 := HB7.out.cells 3
      have c4 := HB7.out.cells 4
      have c5 := HB7.out.cells 5
      have c6 := HB7.out.lt
      have f0 := HB7.out.frozen 2
      have f1 := HB7.out.frozen 3
      have f2 := HB7.out.frozen 4
      have f3 := HB7.out.frozen 5
      have y0 := HBY7.out.cells 0
      have y1 := HBY7.out.cells 1
      have y2 := HBY7.out.lt
      simp only [List.getElem?_cons_zero, List.getElem?_cons_succ] at c0 c1 c2 c3 c4 c5
      simp at y0 y1
      have hgy5 : gy ≠ g4 := Ne.symm hgy4
      have hwc : IntKind.i64.wrap ((cnt : Int) + 1) = (cnt : Int) + 1 := by rw [IntKind.wrap_i64]; omega
      have hneed : Jn.need pl.length ≤ 2000 := by unfold Jn.need; omega
      have hwn : IntKind.i64.wrap ((nxt : Int) + (Jn.need pl.length : Nat)) = (nxt : Int) + (Jn.need pl.length : Nat) := by rw [IntKind.wrap_i64]; omega
      go_upto_region 8 with fail
      refine Ls.region (Ls.pair (g4)) [11, 13] [(0, 0), (1, 0), (2, 0), (3, 0), (4, 0), (5, 0), (6, 0), (9, 1), (10, 0), (7, 2), (8, 1), (11, 3), (12, 1), (13, 3), (14, 1)] [(15, false)] (fun w' => (∀ b o, b < w7.heap.size → w'.cell? ⟨b, o, none⟩ = w7.cell? ⟨b, o, none⟩) ∧ (∀ b o, b < w7.heap.size → w'.frozen? ⟨b, o, none⟩ = w7.frozen? ⟨b, o, none⟩) ∧ Below w7.heap.size w7 w') (by kernel_rfl) (by kernel_rfl) (fun _ _ _ _ _ h => h) (fun _ _ h hb => held_call h hb) ?_; intro ya hbya; replace hbya : Below w7.heap.size w7 ya := hbya; simp only [Ls.pick, Lx.pick, List.filterMap_cons, List.filterMap_nil, List.getElem?_cons_succ, List.getElem?_cons_zero, List.map_cons, List.map_nil]; have hSya := held_below hbya
      have HBYa := HBY7.out.call hbya
      have ya0 := HBYa.cells 0
      have ya1 := HBYa.cells 1
      have ya2 := HBYa.lt
      simp at ya0 ya1
      repeat (first | (refine Ls.takeY ?_ (by rfl) ?_ (by assumption) ?_; rotate_left; (focus (intro w' hSw; (try dsimp only at hSw); go_simp; (try with_reducible rfl))); simp only [Act.put, List.setIfInBounds_toArray, List.set_cons_zero, List.set_cons_succ]) | (refine Ls.takeN (by rfl) (by assumption) ?_; simp only [Act.put, List.setIfInBounds_toArray, List.set_cons_zero, List.set_cons_succ]) | (refine Ls.takeT ?_ (by rfl) ?_ ?_; rotate_left; (focus (intro w' hRw; (try dsimp only at hRw); have hSw := but_held hRw; go_simp; (try with_reducible rfl))); simp only [Act.put, List.setIfInBounds_toArray, List.set_cons_zero, List.set_cons_succ]))
      refine Ls.go ?_; intro K hK; go_simp; go_at_call 53; refine (sectors_below pl.length _ (by omega)).mono ?_; rintro e w0yb ⟨rfl, hb0yb⟩; refine hK _ _ hb0yb ?_; clear hK K; intro wyb hbyb; replace hbyb : Below w0yb.heap.size w0yb wyb := hbyb; have hSyb := held_call (held_call hSya hb0yb) hbyb; try simp only [Act.put, List.setIfInBounds_toArray, List.set_cons_zero, List.set_cons_succ]
      repeat (first | (refine Ls.takeY ?_ (by rfl) ?_ (by assumption) ?_; rotate_left; (focus (intro w' hSw; (try dsimp only at hSw); go_simp; (try with_reducible rfl))); simp only [Act.put, List.setIfInBounds_toArray, List.set_cons_zero, List.set_cons_succ]) | (refine Ls.takeN (by rfl) (by assumption) ?_; simp only [Act.put, List.setIfInBounds_toArray, List.set_cons_zero, List.set_cons_succ]) | (refine Ls.takeT ?_ (by rfl) ?_ ?_; rotate_left; (focus (intro w' hRw; (try dsimp only at hRw); have hSw := but_held hRw; go_simp; (try with_reducible rfl))); simp only [Act.put, List.setIfInBounds_toArray, List.set_cons_zero, List.set_cons_succ]))
      have HBb := Lib.hid ((HB7.out.call hSyb.2.2).set 2 (.int .i64 ((cnt : Int) + 1)) (by simp))
      have HOb := Lib.hid (ownsRow_keep (ownsRow_below HO7.out hSyb.2.2) (agree_at wyb g4 2 (.int .i64 ((cnt : Int) + 1))) (fun b e => Hlt7.out b e))
      have HTb := Lib.hid (but_set (o := 2) (v := .int .i64 ((cnt : Int) + 1)) (HBT7.out.trans (Ls.But.of hSyb.2.2)))
      refine Ls.goX (by rfl) ?_; intro K hK; go_simp; refine hK _ _ (by repeat (first | exact Ls.But.of (Below.refl _ _) | refine but_set ?_)) ?_; clear hK K; intro wyc hbyc; try simp only [Act.put, List.setIfInBounds_toArray, List.set_cons_zero, List.set_cons_succ]
      have HBc := HBb.out.call hbyc
      have z1 := HBc.cells 3
      have z2 := HBc.frozen 3
      have z3 := HBc.lt
      simp at z1
      repeat (first | (refine Ls.takeY ?_ (by rfl) ?_ (by assumption) ?_; rotate_left; (focus (intro w' hSw; (try dsimp only at hSw); go_simp; (try with_reducible rfl))); simp only [Act.put, List.setIfInBounds_toArray, List.set_cons_zero, List.set_cons_succ]) | (refine Ls.takeN (by rfl) (by assumption) ?_; simp only [Act.put, List.setIfInBounds_toArray, List.set_cons_zero, List.set_cons_succ]) | (refine Ls.takeT ?_ (by rfl) ?_ ?_; rotate_left; (focus (intro w' hRw; (try dsimp only at hRw); have hSw := but_held hRw; go_simp; (try with_reducible rfl))); simp only [Act.put, List.setIfInBounds_toArray, List.set_cons_zero, List.set_cons_succ]))
      have HBc2 := Lib.hid (HBc.set 3 (.int .i64 ((nxt : Int) + (Jn.need pl.length : Nat))) (by simp))
      have HOc := Lib.hid (ownsRow_keep (ownsRow_below HOb.out hbyc) (agree_at wyc g4 3 (.int .i64 ((nxt : Int) + (Jn.need pl.length : Nat)))) (fun b e => Hlt7.out b e))
      have HTc := Lib.hid (but_set (o := 3) (v := .int .i64 ((nxt : Int) + (Jn.need pl.length : Nat))) (HTb.out.trans (Ls.But.of hbyc)))
      refine Ls.goX (by rfl) ?_; intro K hK; go_simp; refine hK _ _ (by repeat (first | exact Ls.But.of (Below.refl _ _) | refine but_set ?_)) ?_; clear hK K; intro wyd hbyd; try simp only [Act.put, List.setIfInBounds_toArray, List.set_cons_zero, List.set_cons_succ]
      have HBd := HBc2.out.call hbyd
      have z4 := HBd.cells 4
      have z5 := HBd.cells 5
      have z6 := HBd.frozen 4
      have z7 := HBd.frozen 5
      have z8 := HBd.lt
      simp at z4 z5
      repeat (first | (refine Ls.takeY ?_ (by rfl) ?_ (by assumption) ?_; rotate_left; (focus (intro w' hSw; (try dsimp only at hSw); go_simp; (try with_reducible rfl))); simp only [Act.put, List.setIfInBounds_toArray, List.set_cons_zero, List.set_cons_succ]) | (refine Ls.takeN (by rfl) (by assumption) ?_; simp only [Act.put, List.setIfInBounds_toArray, List.set_cons_zero, List.set_cons_succ]) | (refine Ls.takeT ?_ (by rfl) ?_ ?_; rotate_left; (focus (intro w' hRw; (try dsimp only at hRw); have hSw := but_held hRw; go_simp; (try with_reducible rfl))); simp only [Act.put, List.setIfInBounds_toArray, List.set_cons_zero, List.set_cons_succ]))
      have HBe := Lib.hid ((HBd.set 4 (.int .i64 (32 + (pl.length : Int))) (by simp)).set 5 (.int .u64 mk.toNat) (by simp))
      have HOe := Lib.hid (ownsRow_keep (ownsRow_keep (ownsRow_below HOc.out hbyd) (agree_at wyd g4 4 (.int .i64 (32 + (pl.length : Int)))) (fun b e => Hlt7.out b e)) (agree_at _ g4 5 (.int .u64 mk.toNat)) (fun b e => Hlt7.out b e))
      have HTe := Lib.hid (but_set (o := 5) (v := .int .u64 mk.toNat) (but_set (o := 4) (v := .int .i64 (32 + (pl.length : Int))) (HTc.out.trans (Ls.But.of hbyd))))
      refine Ls.tail ?_
      clear hSya hSyb hbya hbyb hb0yb hbyc hbyd c0 c1 c2 c3 c4 c5 c6 f0 f1 f2 f3 y0 y1 y2 HBYa ya0 ya1 ya2 HBb HOb HTb HBc HBc2 HOc HTc HBd z1 z2 z3 hwc hwn HB7 HO7 HBT7 HBY7
      go_wp2_with fail
      clear z4 z5 z6 z7 z8
      have hc3 := Hc3.out
      have hce := HBe.out.cells 3
      simp at hce
      have Hce := Lib.hid hce
      clear hc3 hce
      go_roundw
      case rel =>
        refine ⟨l ++ [pl], ⟨cnt + 1, nxt + Jn.need pl.length, 32 + pl.length, mk⟩, ?_, ?_, ?_, ?_, HTe.out⟩
        · have := HAt2.out
          unfold Jn.St.push at this
          rw [Hmk.out] at this
          exact this
        · show (l ++ [pl]).length = cnt + 1
          rw [List.length_append, hlc.out]; rfl
        · show World.ownsRow _ _ _ _ _ (l ++ [pl]).length ((l ++ [pl]).map strVal)
          have hl5 : (l ++ [pl]).length = cnt + 1 := by rw [List.length_append, hlc.out]; rfl
          rw [hl5, List.map_append]
          exact HOe.out
        · show Blk _ g4 _
          have := HBe.out
          simpa using this
      case measure =>
        rw [Hce.out, Hc3.out]
        have := HAt2.out.1.next
        simp only [Jn.St.push] at this
        have : 1 ≤ Jn.need pl.length := by unfold Jn.need; omega
        show n + 1 - ((nxt : Int) + (Jn.need pl.length : Nat)).toNat < n + 1 - (nxt : Int).toNat
        omega
end Go.Proofs.Ythpjhmgmjfmgcaa
