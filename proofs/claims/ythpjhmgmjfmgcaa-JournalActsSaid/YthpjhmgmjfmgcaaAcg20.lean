import Derived.Test.YthpjhmgmjfmgcaaAcg17
import Derived.Test.YthpjhmgmjfmgcaaAcg19
/- Journals: the program's Append. -/
namespace Go.Proofs.Ythpjhmgmjfmgcaa
open Go.ChangeShapes Go.WideShapes Go.RowKit Go.Shelf
attribute [local go_sem] Oper.semAt_some

theorem RoomRow.kept {w w' : World} {row : Option Nat} {g n cap : Nat} {bs : List UInt8} (h : RoomRow w g n cap bs) (hc : 0 < cap) (hg : w.grownBy w' row) (hr : ∀ r, row = some r → ∃ o : Obj, w.heap[r]? = some o ∧ o.isCells = false) : RoomRow w' g n cap bs := by
  obtain ⟨v, hv⟩ := Option.isSome_iff_exists.1 (h.2.2.2.2.1 0 hc)
  obtain ⟨o, ho, hcc⟩ := cells_of_cell hv
  exact h.keep (A := fun b => b = g) (fun b hb _ => by subst hb; exact grownBy_keeps_cells hg hr ho hcc) hg.size rfl
theorem marks_ret {F : Fence} {n : Nat} {P : Program} {fn : Func} {R : Ending → World → Prop} {a : Act} {w : World} {v : Value}
    (hr : (results fn a.tmps).run P w = .ok v w) (hd : a.defers = []) (hR : R (.returned v) w) : bodyPostM F n P fn R .ret a w := by
  show LeavesInM F n P fn a.tmps R a.defers .returning w
  rw [hd]
  exact ⟨v, hr, hR⟩

/-- nothing is asked of a panic that does not come -/
def np (Q : Exit → Act → World → Prop) : Exit → Act → World → Prop
  | .panic _, _, _ => False
  | e, a, w => Q e a w
theorem wp_np {P : Program} {Q : Exit → Act → World → Prop} {c : Code} {a : Act} {w : World} (h : c.wp P (np Q) a w) : c.wp P Q a w :=
  wp_mono h fun e a w h => by cases e <;> first | exact h | exact False.elim h
theorem np_normal {Q : Exit → Act → World → Prop} {a : Act} {w : World} (h : Q .normal a w) : np Q .normal a w := h
theorem clear_n {A : Nat → Prop} (v : Value) (D : Dk.Dsk) (k X : Int) (w : World) (hX : X = k) (hv : DiskAt A w v D) (hD : Dk.Good D) :
    Calls Try.prog 57 #[v, .int .i64 X] w fun e w' => ∃ v', e = .returned v' ∧ Below w.heap.size w w' ∧ DiskAt (fun b => A b ∨ w.heap.size ≤ b) w' v' (Jn.clear D k) := by
  subst hX; exact clear_any v D X w hv hD
/-- what Append answers: the disk, the four numbers, the error -/
structure _root_.Go.Jn.Ans where
  disk : Dk.Dsk
  count : Int
  next : Int
  len : Int
  sum : BitVec 64
  err : Int
def _root_.Go.Jn.isSt (cnt nxt len : Int) (sum : BitVec 64) (s : Jn.St) : Prop := cnt = s.count ∧ nxt = s.next ∧ len = s.len ∧ sum = s.sum
instance (cnt nxt len : Int) (sum : BitVec 64) (s : Jn.St) : Decidable (Jn.isSt cnt nxt len sum s) := by unfold Jn.isSt; infer_instance
def _root_.Go.Jn.appR (D : Dk.Dsk) (cnt nxt len : Int) (sum : BitVec 64) (p : Jn.Bytes) : Jn.Ans :=
  if ¬ Jn.isSt cnt nxt len sum (Jn.read D).2 then ⟨D, cnt, nxt, len, sum, 44⟩
  else if fitsB p.length D.cells.length D.writes.length nxt = false then ⟨D, cnt, nxt, len, sum, 45⟩
  else ⟨Jn.app D (Jn.read D).2 p, ((Jn.read D).2.push p).count, ((Jn.read D).2.push p).next, ((Jn.read D).2.push p).len, ((Jn.read D).2.push p).sum, 0⟩
def AppAt (A : Nat → Prop) (w : World) (v : Value) (a : Jn.Ans) : Prop := ∃ jv, v = .tuple #[jv, .int .i64 a.err] ∧ JAt A w jv a.disk a.count a.next a.len a.sum
theorem _root_.Go.Jn.clear_len (D : Dk.Dsk) (k : Int) : (Jn.clear D k).cells.length = D.cells.length ∧ (Jn.clear D k).writes.length ≤ D.writes.length := by
  unfold Jn.clear
  split
  · refine ⟨?_, Nat.zero_le _⟩
    rw [show ∀ X : Dk.Dsk, (Dk.sync X).cells.length = X.cells.length from fun X => Dk.many_length ..]
    show (Dk.sync D).cells.length = _
    exact Dk.many_length ..
  · exact ⟨rfl, Nat.le_refl _⟩
theorem seal_n (count : Nat) (X len : Int) (sum : BitVec 64) (s : ByteArray) (w : World) (hX : X = count) (hc : count ≤ 1000000) (hs : s.size ≤ 100000) :
    Calls Try.prog 55 #[.int .i64 X, dval len sum, .string s] w fun e w' => e = .returned (sealRes count len sum s) ∧ Below w.heap.size w w' := by
  subst hX; exact seal_any count len sum s w hc hs


set_option maxRecDepth 100000 in
set_option maxHeartbeats 1600000 in
theorem jappend_any {A : Nat → Prop} (v : Value) (D : Dk.Dsk) (cnt nxt len : Int) (sum : BitVec 64) (s : ByteArray) (w : World) (hv : JAt A w v D cnt nxt len sum) (hD : Dk.Good D) (hs : s.size ≤ 100000) :
    Calls Try.prog 39 #[v, .string s] w fun e w' => ∃ r, e = .returned r ∧ Below w.heap.size w w' ∧ AppAt (w.heap.size ≤ ·) w' r (Jn.appR D cnt nxt len sum s.data.toList) := by
  obtain ⟨cv, wv, rfl, hd⟩ := hv
  obtain ⟨q1, e1, q2, e2, hval⟩ := hd.parts
  simp only [Value.agg.injEq, Array.mk.injEq, List.cons.injEq, and_true] at hval
  obtain ⟨rfl, rfl⟩ := hval
  have hO := fun w0 h => jopen_any (A := A) (.agg #[.slice q1 D.cells.length e1, .slice q2 D.writes.length e2]) D w0 h hD
  obtain ⟨n, hn⟩ : ∃ n, D.cells.length = n := ⟨_, rfl⟩
  obtain ⟨m, hm⟩ : ∃ m, D.writes.length = m := ⟨_, rfl⟩
  rw [hn, hm] at hd ⊢
  rw [hn, hm] at hO
  have HO := Lib.hid hO
  have HD := Lib.hid hD
  have Hn := Lib.hid hn
  have Hm := Lib.hid hm
  have Hs := Lib.hid hs
  have Hd2 := Lib.hid hd
  have Hb := Lib.hid (ext_refl w)
  clear hn hm hD hs hO hd
  unfold jval
  refine (callsIn_wide (n := 5)).1 (callsIn_of_wp_marks Try.func39 rfl trivial (wpIn_wide.2 ?_) rfl)
  simp only [Try.ntmps39, List.size_toArray, List.length_cons, List.length_nil, Nat.reduceAdd, Nat.reduceSub, Array.replicate_succ, Array.replicate_zero, List.push_toArray, List.append_toArray, List.nil_append, List.cons_append]
  go_upto_region 1 with fail
  obtain ⟨w1, hwX, HB1x, hbX⟩ := fresh_blk w [Value.slice q1 n e1, Value.slice q2 m e2, Value.int .i64 cnt, Value.int .i64 nxt, Value.int .i64 len, Value.int .u64 sum.toNat] 53
  rw [hwX]
  have sz_w1 : w1.heap.size = w.heap.size + 1 := by rw [← hwX]; simp
  replace Hd2 := Lib.hid (Hd2.out.keep (agree_below hbX))
  replace Hb := Lib.hid (Hb.out.trans (hbX.mono Hb.out.size))
  have HB1 := Lib.hid HB1x
  clear hwX HB1x hbX
  obtain ⟨w2, hwX, HB2x, hbX⟩ := fresh_blk w1 [Value.slice none 0 0, Value.slice none 0 0, Value.int .i64 0, Value.int .i64 0, Value.int .i64 0, Value.int .u64 0] 53
  rw [hwX]
  rw [sz_w1] at HB2x
  have sz_w2 : w2.heap.size = w.heap.size+1 + 1 := by rw [← hwX]; simp [sz_w1]
  replace Hd2 := Lib.hid (Hd2.out.keep (agree_below hbX))
  replace Hb := Lib.hid (Hb.out.trans (hbX.mono Hb.out.size))
  replace HB1 := Lib.hid (HB1.out.call hbX)
  have HB2 := Lib.hid HB2x
  clear hwX HB2x hbX
  have c0 := HB1.out.cells 0
  have c1 := HB1.out.cells 1
  have cl := HB1.out.lt
  simp only [List.getElem?_cons_zero, List.getElem?_cons_succ] at c0 c1
  go_wp2_with fail
  refine (HO.out w2 Hd2.out).mono ?_
  rintro e w3 ⟨jv, rfl, hb3, hJ3⟩
  obtain ⟨cv3, wv3, rfl, hd3⟩ := hJ3
  obtain ⟨q3, e3, q4, e4, hval⟩ := hd3.parts
  simp only [Value.agg.injEq, Array.mk.injEq, List.cons.injEq, and_true] at hval
  obtain ⟨rfl, rfl⟩ := hval
  obtain ⟨T, hT⟩ : ∃ T, (Jn.read D).2 = T := ⟨_, rfl⟩
  have hok := Jn.read_ok HD.out
  rw [hT] at hok ⊢
  rw [Hn.out] at hok
  have Hok := Lib.hid hok
  rw [Hn.out, Hm.out] at hd3 ⊢
  have HT := Lib.hid hT
  have Hd3 := Lib.hid hd3.lt
  clear c0 c1 cl
  replace Hd2 := Lib.hid (Hd2.out.keep (agree_below hb3))
  replace Hb := Lib.hid (Hb.out.trans (hb3.mono Hb.out.size))
  replace HB1 := Lib.hid (HB1.out.call hb3)
  replace HB2 := Lib.hid (HB2.out.call hb3)
  clear hb3
  clear hT hd3 hok
  unfold jval
  go_upto_region 2 with fail
  obtain ⟨w4, hwX, HB4x, hbX⟩ := fresh_blk w3 [Value.slice q3 n e3, Value.slice q4 m e4, Value.int .i64 T.count, Value.int .i64 T.next, Value.int .i64 T.len, Value.int .u64 T.sum.toNat] 53
  rw [hwX]
  have sz_w4 : w4.heap.size = w3.heap.size + 1 := by rw [← hwX]; simp
  have ge_Hb_g6 := Hb.out.size
  have lt_HB1_g6 : w.heap.size < w3.heap.size := by have h0 := HB1.out.lt; omega
  have lt_HB2_g6 : (w.heap.size+1) < w3.heap.size := by have h0 := HB2.out.lt; omega
  replace Hd2 := Lib.hid (Hd2.out.keep (agree_below hbX))
  replace Hb := Lib.hid (Hb.out.trans (hbX.mono Hb.out.size))
  replace HB1 := Lib.hid (HB1.out.call hbX)
  replace HB2 := Lib.hid (HB2.out.call hbX)
  replace Hd3 := Lib.hid (Hd3.out.keep (agree_below hbX))
  have HB4 := Lib.hid HB4x
  obtain ⟨g6, hgX⟩ : ∃ g, g = w3.heap.size := ⟨_, rfl⟩
  rw [← hgX] at HB4 ge_Hb_g6 lt_HB1_g6 lt_HB2_g6 sz_w4 ⊢
  have g6_le := Nat.le_of_eq hgX
  have g6_ge := Nat.le_of_eq hgX.symm
  clear hgX
  clear hwX HB4x hbX
  have c0 := HB1.out.cells 0
  have c1 := HB1.out.cells 1
  have c2 := HB1.out.cells 2
  have c3 := HB1.out.cells 3
  have c4 := HB1.out.cells 4
  have c5 := HB1.out.cells 5
  have cl := HB1.out.lt
  simp only [List.getElem?_cons_zero, List.getElem?_cons_succ] at c0 c1 c2 c3 c4 c5
  have k0 := HB4.out.cells 0
  have k1 := HB4.out.cells 1
  have k2 := HB4.out.cells 2
  have k3 := HB4.out.cells 3
  have k4 := HB4.out.cells 4
  have k5 := HB4.out.cells 5
  have kl := HB4.out.lt
  simp only [List.getElem?_cons_zero, List.getElem?_cons_succ] at k0 k1 k2 k3 k4 k5
  have Hown : Hid (∀ w0, DiskAt A w0 (.agg #[.slice q1 n e1, .slice q2 m e2]) D → Calls Try.prog 54 #[.agg #[.slice q1 n e1, .slice q2 m e2, .int .i64 cnt, .int .i64 nxt, .int .i64 len, .int .u64 sum.toNat]] w0 fun e w' => ∃ jv, e = .returned jv ∧ Below w0.heap.size w0 w' ∧ JAt (w0.heap.size ≤ ·) w' jv D cnt nxt len sum) :=
    Lib.hid fun w0 h => jowned_any _ D cnt nxt len sum w0 ⟨_, _, rfl, h⟩ HD.out
  by_cases hst : Jn.isSt cnt nxt len sum T
  · obtain ⟨rfl, rfl, rfl, rfl⟩ := hst
    have hok := Hok.out
    have hk1 := hok.count
    have hk2 := hok.next
    have hk3 := hok.len
    have hn1 : n ≤ 1024 := by have := HD.out.few; have := Hn.out; omega
    have hfi := jfits_any (.agg #[.slice q1 n e1, .slice q2 m e2, .int .i64 T.count, .int .i64 T.next, .int .i64 T.len, .int .u64 T.sum.toNat]) D T.count T.next T.len T.sum (s.size : Nat) w4 ⟨_, _, rfl, Hd2.out⟩ ⟨by have := HD.out.few; omega, by have := HD.out.room; omega⟩ (by omega) (by omega)
    rw [Hn.out, Hm.out] at hfi
    have Hfi := Lib.hid hfi
    clear hfi hok hk1 hk2 hk3 hn1
    go_wp2_with fail
    refine Hfi.out.mono ?_
    rintro e w5 ⟨rfl, hb5⟩
    clear Hfi
    clear c0 c1 c2 c3 c4 c5 cl k0 k1 k2 k3 k4 k5 kl
    replace Hd2 := Lib.hid (Hd2.out.keep (agree_below hb5))
    replace Hb := Lib.hid (Hb.out.trans (hb5.mono Hb.out.size))
    replace HB1 := Lib.hid (HB1.out.call hb5)
    replace HB2 := Lib.hid (HB2.out.call hb5)
    replace Hd3 := Lib.hid (Hd3.out.keep (agree_below hb5))
    replace HB4 := Lib.hid (HB4.out.call hb5)
    clear hb5
    by_cases hfit : fitsB (s.size : Nat) n m T.next = true
    · rw [hfit]
      have hok := Hok.out
      have hk1 := hok.count
      have hk2 := hok.next
      have hn1 : n ≤ 1024 := by have := HD.out.few; have := Hn.out; omega
      have hf := of_decide_eq_true hfit
      rw [Int.toNat_natCast] at hf
      obtain ⟨Y, hY⟩ : ∃ Y, Jn.need s.size = Y := ⟨_, rfl⟩
      have hY1 : 32 + s.size ≤ 64 * Y := by rw [← hY]; unfold Jn.need; omega
      have hY0 : 0 < Y := by rw [← hY]; unfold Jn.need; omega
      rw [hY] at hf
      have Hf := Lib.hid hf
      have HY := Lib.hid hY
      have HY1 := Lib.hid hY1
      have Hfit := Lib.hid hfit
      have hs5 : s.size ≤ 65536 := by omega
      have hc6 : T.count ≤ 1024 := by omega
      have hY2 : Y ≤ 64 := by omega
      have hTn : T.next + Y ≤ 1024 := by omega
      clear hf hY hY1 hfit hok hk1 hk2
      have c0 := HB1.out.cells 0
      have c1 := HB1.out.cells 1
      have c2 := HB1.out.cells 2
      have c3 := HB1.out.cells 3
      have c4 := HB1.out.cells 4
      have c5 := HB1.out.cells 5
      have cl := HB1.out.lt
      simp only [List.getElem?_cons_zero, List.getElem?_cons_succ] at c0 c1 c2 c3 c4 c5
      have hw1 : IntKind.i64.wrap ((T.count : Int) + 1) = (T.count : Int) + 1 := by rw [IntKind.wrap_i64]; omega
      go_wp2_with fail
      refine (seal_n (T.count + 1) ((T.count : Int) + 1) T.len T.sum s _ (by omega) (by omega) (by omega)).mono ?_
      rintro e w6 ⟨rfl, hb6⟩
      clear c0 c1 c2 c3 c4 c5 cl
      replace Hd2 := Lib.hid (Hd2.out.keep (agree_below hb6))
      replace Hb := Lib.hid (Hb.out.trans (hb6.mono Hb.out.size))
      replace HB1 := Lib.hid (HB1.out.call hb6)
      replace HB2 := Lib.hid (HB2.out.call hb6)
      replace Hd3 := Lib.hid (Hd3.out.keep (agree_below hb6))
      replace HB4 := Lib.hid (HB4.out.call hb6)
      clear hb6
      obtain ⟨mk, hmk⟩ : ∃ m, Jn.mark T.len T.sum (T.count + 1) s.data.toList = m := ⟨_, rfl⟩
      have Hmk := Lib.hid hmk
      unfold sealRes
      rw [hmk]
      clear hmk hw1
      unfold dval
      go_upto_region 7 with fail
      obtain ⟨w7, hwX, HB8x, hbX⟩ := fresh_blk w6 [Value.int IntKind.i64 (32 + (s.size : Int)), Value.int IntKind.u64 mk.toNat] 51
      rw [hwX]
      have sz_w7 : w7.heap.size = w6.heap.size + 1 := by rw [← hwX]; simp
      have ge_Hb_g8 := Hb.out.size
      have lt_HB1_g8 : w.heap.size < w6.heap.size := by have h0 := HB1.out.lt; omega
      have lt_HB2_g8 : (w.heap.size+1) < w6.heap.size := by have h0 := HB2.out.lt; omega
      have lt_HB4_g8 : g6 < w6.heap.size := by have h0 := HB4.out.lt; omega
      replace Hd2 := Lib.hid (Hd2.out.keep (agree_below hbX))
      replace Hb := Lib.hid (Hb.out.trans (hbX.mono Hb.out.size))
      replace HB1 := Lib.hid (HB1.out.call hbX)
      replace HB2 := Lib.hid (HB2.out.call hbX)
      replace Hd3 := Lib.hid (Hd3.out.keep (agree_below hbX))
      replace HB4 := Lib.hid (HB4.out.call hbX)
      have HB8 := Lib.hid HB8x
      obtain ⟨g8, hgX⟩ : ∃ g, g = w6.heap.size := ⟨_, rfl⟩
      rw [← hgX] at HB8 ge_Hb_g8 lt_HB1_g8 lt_HB2_g8 lt_HB4_g8 sz_w7 ⊢
      have g8_le := Nat.le_of_eq hgX
      have g8_ge := Nat.le_of_eq hgX.symm
      clear hgX
      clear hwX HB8x hbX
      have c0 := HB8.out.cells 0
      have c1 := HB8.out.cells 1
      have cl := HB8.out.lt
      simp only [List.getElem?_cons_zero, List.getElem?_cons_succ] at c0 c1
      have hl1 : (Jn.first (T.count + 1) s.size).length = 16 := by simp [Jn.first, Dg.bs8_length]
      have hl2 : (Dg.bsOf (32 + (s.size : Int)) mk).length = 16 := by simp [Dg.bsOf, Dg.bs8_length]
      obtain ⟨fi, hfi⟩ : ∃ l, Jn.first (T.count + 1) s.size = l := ⟨_, rfl⟩
      obtain ⟨bo, hbo⟩ : ∃ l, Dg.bsOf (32 + (s.size : Int)) mk = l := ⟨_, rfl⟩
      rw [hfi] at hl1 ⊢
      rw [hbo] at hl2
      have Hfi := Lib.hid hfi
      have Hbo := Lib.hid hbo
      have hby := bytes_any (32 + (s.size : Int)) mk w7
      rw [hbo] at hby
      have Hby := Lib.hid hby
      clear hfi hbo hby
      go_wp2_with fail
      refine Hby.out.mono ?_
      rintro e w8 ⟨rfl, hb8⟩
      clear c0 c1 cl
      replace Hd2 := Lib.hid (Hd2.out.keep (agree_below hb8))
      replace Hb := Lib.hid (Hb.out.trans (hb8.mono Hb.out.size))
      replace HB1 := Lib.hid (HB1.out.call hb8)
      replace HB2 := Lib.hid (HB2.out.call hb8)
      replace Hd3 := Lib.hid (Hd3.out.keep (agree_below hb8))
      replace HB4 := Lib.hid (HB4.out.call hb8)
      replace HB8 := Lib.hid (HB8.out.call hb8)
      clear hb8
      clear Hby
      have hcat1 : (9223372036854775807 < fi.length + bo.length) = False := by rw [hl1, hl2]; exact eq_false (by decide)
      have hcat2 : (9223372036854775807 < (⟨fi.toArray⟩ ++ ⟨bo.toArray⟩ : ByteArray).size + s.size) = False := by
        simp [ByteArray.size_append, string_size, hl1, hl2]; omega
      obtain ⟨cp, w9, hcv, hb9, hrr⟩ := string_room (P := Try.prog) w8 (⟨fi.toArray⟩ ++ ⟨bo.toArray⟩ ++ s : ByteArray) Try.underlying9 Try.underlying27 Try.underlying5
      go_upto_region 8 with fail
      clear hcv hcat1 hcat2
      have hsz : (⟨fi.toArray⟩ ++ ⟨bo.toArray⟩ ++ s : ByteArray).size = 32 + s.size := by simp [ByteArray.size_append, string_size, hl1, hl2]
      obtain ⟨C, hC⟩ : ∃ C, fi ++ bo ++ s.data.toList = C := ⟨_, rfl⟩
      have hrl : (⟨fi.toArray⟩ ++ ⟨bo.toArray⟩ ++ s : ByteArray).data.toList = C := by rw [← hC]; simp
      rw [hsz, hrl] at hrr
      have HC := Lib.hid hC
      clear hsz hrl hC
      have lt1_HB1 := HB1.out.lt
      have lt2_HB2 := HB2.out.lt
      have lt3_HB4 := HB4.out.lt
      have lt4_HB8 := HB8.out.lt
      have hw28 : w2.heap.size ≤ w8.heap.size := by have := Hb.out.size; omega
      have hw89 := hb9.size
      replace Hd2 := Lib.hid (Hd2.out.keep (agree_below hb9))
      replace Hb := Lib.hid (Hb.out.trans (hb9.mono Hb.out.size))
      replace HB1 := Lib.hid (HB1.out.call hb9)
      replace HB2 := Lib.hid (HB2.out.call hb9)
      replace Hd3 := Lib.hid (Hd3.out.keep (agree_below hb9))
      replace HB4 := Lib.hid (HB4.out.call hb9)
      replace HB8 := Lib.hid (HB8.out.call hb9)
      clear hb9
      clear Hd2
      obtain ⟨g9, hg9⟩ : ∃ g, g = w8.heap.size := ⟨_, rfl⟩
      rw [← hg9] at hrr ⊢
      have Hlo := Lib.hid (Nat.le_of_eq hg9.symm)
      have HR := Lib.hid hrr
      clear hg9 hrr
      obtain ⟨ix, hix, hiz, his, hib⟩ := info_parts (P := Try.prog) (e := 5) (z := .int .u8 0) (size := 1) (bytes := 1) (by kernel_rfl)
      obtain ⟨g10, cp2, w10, hap, hR10, hgr, hor⟩ := run_append_make (ty := 27) (tx := 3) Try.underlying27 Try.underlying3 hix hiz his hib HR.out (64 * Y - (32 + s.size)) ((Y : Int) * 64 - ((32 + s.size : Nat) : Int)) (by have := HY1.out; omega) (by have := HY1.out; omega)
      have hwa : IntKind.i64.wrap ((Y : Int) * 64) = (Y : Int) * 64 := by rw [IntKind.wrap_i64]; omega
      have hwb : IntKind.i64.wrap ((Y : Int) * 64 - ((32 + s.size : Nat) : Int)) = (Y : Int) * 64 - ((32 + s.size : Nat) : Int) := by have := HY1.out; rw [IntKind.wrap_i64]; omega
      have hse := sectors_any s.size w9 (by omega)
      rw [HY.out] at hse
      have Hse := Lib.hid hse
      clear hse
      go_wp2_with fail
      refine Hse.out.mono ?_
      rintro e w9' ⟨rfl, rfl⟩
      have Hap := Lib.hid hap
      clear hap
      go_upto_region 9 with (at_builtin; refine app_run Hap.out rfl rfl rfl rfl ?_)
      have hlo := Hlo.out
      have hag : Agree (· ≠ g9) w9' w10 := fun g hg hlt => hgr.block g hlt (fun e => hg (by injection e))
      have hsz := hgr.size
      have hnow3 : w3.heap.size ≤ w8.heap.size := by omega
      replace Hb := Lib.hid (Hb.out.grown hgr Hb.out.size (fun k e => by injection e with e; omega))
      replace HB1 := Lib.hid (HB1.out.keep hag hsz (by omega))
      replace HB2 := Lib.hid (HB2.out.keep hag hsz (by omega))
      replace Hd3 := Lib.hid (Hd3.out.keep (hag.mono fun g hg => by omega))
      replace HB4 := Lib.hid (HB4.out.keep hag hsz (by omega))
      replace HB8 := Lib.hid (HB8.out.keep hag hsz (by omega))
      have hlen10 : 32 + s.size + (64 * Y - (32 + s.size)) = 64 * Y := by have := HY1.out; omega
      rw [hlen10] at hR10 ⊢
      have hg10 : w8.heap.size ≤ g10 := by rcases hor with h | h <;> omega
      have HR10 := Lib.hid hR10
      clear hix hiz his hib Hap HR hgr hag hsz hor hR10 hlen10 hlo Hlo Hse hwa hwb
      have c0 := HB4.out.cells 0
      have c1 := HB4.out.cells 1
      have c2 := HB4.out.cells 2
      have c3 := HB4.out.cells 3
      have c4 := HB4.out.cells 4
      have c5 := HB4.out.cells 5
      have cl := HB4.out.lt
      simp only [List.getElem?_cons_zero, List.getElem?_cons_succ] at c0 c1 c2 c3 c4 c5
      go_upto_region 10 with fail
      clear c0 c1 c2 c3 c4 c5 cl
      obtain ⟨w11, hwX, HB10x, hbX⟩ := fresh_blk w10 [Value.slice q3 n e3, Value.slice q4 m e4, Value.int IntKind.i64 T.count, Value.int IntKind.i64 T.next, Value.int IntKind.i64 T.len, Value.int IntKind.u64 T.sum.toNat] 53
      rw [hwX]
      have sz_w11 : w11.heap.size = w10.heap.size + 1 := by rw [← hwX]; simp
      have ge_Hb_g11 := Hb.out.size
      have lt_HB1_g11 : w.heap.size < w10.heap.size := by have h0 := HB1.out.lt; omega
      have lt_HB2_g11 : (w.heap.size+1) < w10.heap.size := by have h0 := HB2.out.lt; omega
      have lt_HB4_g11 : g6 < w10.heap.size := by have h0 := HB4.out.lt; omega
      have lt_HB8_g11 : g8 < w10.heap.size := by have h0 := HB8.out.lt; omega
      have lt_HR10_g11 : g10 < w10.heap.size := by have h0 := HR10.out.lt; omega
      replace Hb := Lib.hid (Hb.out.trans (hbX.mono Hb.out.size))
      replace HB1 := Lib.hid (HB1.out.call hbX)
      replace HB2 := Lib.hid (HB2.out.call hbX)
      replace Hd3 := Lib.hid (Hd3.out.keep (agree_below hbX))
      replace HB4 := Lib.hid (HB4.out.call hbX)
      replace HB8 := Lib.hid (HB8.out.call hbX)
      replace HR10 := Lib.hid (HR10.out.call hbX)
      have HB10 := Lib.hid HB10x
      obtain ⟨g11, hgX⟩ : ∃ g, g = w10.heap.size := ⟨_, rfl⟩
      rw [← hgX] at HB10 ge_Hb_g11 lt_HB1_g11 lt_HB2_g11 lt_HB4_g11 lt_HB8_g11 lt_HR10_g11 sz_w11 ⊢
      have g11_le := Nat.le_of_eq hgX
      have g11_ge := Nat.le_of_eq hgX.symm
      clear hgX
      clear hwX HB10x hbX
      have hw11 : IntKind.i64.wrap ((T.next : Int) + (Y : Int)) = (T.next : Int) + (Y : Int) := by rw [IntKind.wrap_i64]; omega
      have hwi : w3.heap.size ≤ w11.heap.size := by omega
      have c0 := HB10.out.cells 0
      have c1 := HB10.out.cells 1
      have c2 := HB10.out.cells 2
      have c3 := HB10.out.cells 3
      have c4 := HB10.out.cells 4
      have c5 := HB10.out.cells 5
      have cl := HB10.out.lt
      simp only [List.getElem?_cons_zero, List.getElem?_cons_succ] at c0 c1 c2 c3 c4 c5
      refine wp_np ?_
      refine Lx.region Lx.below_steps [(0, true), (1, true), (2, true), (3, true), (4, true), (5, true), (6, false), (7, true), (8, false), (9, true)] [(10, false)] (fun w' => (∀ b o, b < w11.heap.size → w'.cell? ⟨b, o, none⟩ = w11.cell? ⟨b, o, none⟩) ∧ (∀ b o, b < w11.heap.size → w'.frozen? ⟨b, o, none⟩ = w11.frozen? ⟨b, o, none⟩) ∧ Below w11.heap.size w11 w') (by kernel_rfl) (by kernel_rfl) (fun _ _ _ _ _ h => h) (fun _ h => held_below h) (fun _ _ h hb => held_call h hb) ?_; intro xa hbxa; replace hbxa : Below w11.heap.size w11 xa := hbxa; simp only [Lx.pick, List.filterMap_cons, List.filterMap_nil, List.getElem?_cons_succ, List.getElem?_cons_zero, List.map_cons, List.map_nil]; have hSxa := held_below hbxa
      repeat (first | (refine Lx.takeY ?_ (by rfl) ?_ (by assumption) ?_; rotate_left; (focus (intro w' hSw; (try dsimp only at hSw); go_simp; (try with_reducible rfl))); simp only [Act.put, List.setIfInBounds_toArray, List.set_cons_zero, List.set_cons_succ]) | (refine Lx.takeN (by rfl) (by assumption) ?_; simp only [Act.put, List.setIfInBounds_toArray, List.set_cons_zero, List.set_cons_succ]))
      refine Lx.go ?_; intro K hK; go_simp; go_at_call 53; refine (sectors_below s.size _ (by omega)).mono ?_; rintro e w0xb ⟨rfl, hb0xb⟩; refine hK _ _ hb0xb ?_; clear hK K; intro wxb hbxb; replace hbxb : Below w0xb.heap.size w0xb wxb := hbxb; have hSxb := held_call (held_call hSxa hb0xb) hbxb; try simp only [Act.put, List.setIfInBounds_toArray, List.set_cons_zero, List.set_cons_succ]
      rw [HY.out]
      repeat (first | (refine Lx.takeY ?_ (by rfl) ?_ (by assumption) ?_; rotate_left; (focus (intro w' hSw; (try dsimp only at hSw); go_simp; (try with_reducible rfl))); simp only [Act.put, List.setIfInBounds_toArray, List.set_cons_zero, List.set_cons_succ]) | (refine Lx.takeN (by rfl) (by assumption) ?_; simp only [Act.put, List.setIfInBounds_toArray, List.set_cons_zero, List.set_cons_succ]))
      refine Lx.go ?_; intro K hK; go_simp; go_at_call 57; refine (clear_n _ D ((T.next + Y : Nat) : Int) _ _ (by simp) (Hd3.out.keep (agree_below hSxb.2.2)) HD.out).mono ?_; rintro e w0xc ⟨cv, rfl, hb0xc, hcl⟩; refine hK _ _ hb0xc ?_; clear hK K; intro wxc hbxc; replace hbxc : Below w0xc.heap.size w0xc wxc := hbxc; have hSxc := held_call (held_call hSxb hb0xc) hbxc; try simp only [Act.put, List.setIfInBounds_toArray, List.set_cons_zero, List.set_cons_succ]
      repeat (first | (refine Lx.takeY ?_ (by rfl) ?_ (by assumption) ?_; rotate_left; (focus (intro w' hSw; (try dsimp only at hSw); go_simp; (try with_reducible rfl))); simp only [Act.put, List.setIfInBounds_toArray, List.set_cons_zero, List.set_cons_succ]) | (refine Lx.takeN (by rfl) (by assumption) ?_; simp only [Act.put, List.setIfInBounds_toArray, List.set_cons_zero, List.set_cons_succ]))
      refine Lx.tail ?_
      clear c0 c1 c2 c3 c4 c5 cl
      obtain ⟨E, hE⟩ : ∃ E, Jn.clear D ((T.next + Y : Nat) : Int) = E := ⟨_, rfl⟩
      have hEg := Jn.clear_good HD.out ((T.next + Y : Nat) : Int)
      have hEl := Jn.clear_len D ((T.next + Y : Nat) : Int)
      rw [hE] at hcl hEg hEl
      rw [Hn.out, Hm.out] at hEl
      have HE := Lib.hid hE
      have HEg := Lib.hid hEg
      have HEl := Lib.hid hEl
      have hwx : w11.heap.size ≤ wxb.heap.size := hSxb.2.2.size
      have hE1 : DiskAt (fun b => w2.heap.size ≤ b ∧ b ≠ g11) wxc cv E := (hcl.lt.keep (agree_below hbxc)).mono fun b hb => by omega
      obtain ⟨q5, e5, q6, e6, rfl⟩ := hE1.parts
      have hbx := hSxc.2.2
      clear HB4 Hd3
      replace Hb := Lib.hid (Hb.out.trans (hbx.mono Hb.out.size))
      replace HB1 := Lib.hid (HB1.out.call hbx)
      replace HB2 := Lib.hid (HB2.out.call hbx)
      replace HB8 := Lib.hid (HB8.out.call hbx)
      replace HR10 := Lib.hid (HR10.out.call hbx)
      replace HB10 := Lib.hid (HB10.out.call hbx)
      clear hbx
      have HDE := Lib.hid hE1
      clear hSxa hSxb hSxc hbxa hbxb hbxc hb0xb hb0xc hcl hE hEg hEl hE1 hw11 hwi
      have c0 := HB10.out.cells 0
      have c1 := HB10.out.cells 1
      have c2 := HB10.out.cells 2
      have c3 := HB10.out.cells 3
      have c4 := HB10.out.cells 4
      have c5 := HB10.out.cells 5
      have cf0 := HB10.out.frozen 0
      have cf1 := HB10.out.frozen 1
      have cf2 := HB10.out.frozen 2
      have cf3 := HB10.out.frozen 3
      have cf4 := HB10.out.frozen 4
      have cf5 := HB10.out.frozen 5
      have cl := HB10.out.lt
      simp only [List.getElem?_cons_zero, List.getElem?_cons_succ] at c0 c1 c2 c3 c4 c5
      have hkS : Agree (· ≠ g11) wxc ((wxc.setCell ⟨g11, 0, none⟩ (.slice q5 E.cells.length e5)).setCell ⟨g11, 1, none⟩ (.slice q6 E.writes.length e6)) := ((agree_at _ g11 0 (.slice q5 E.cells.length e5)).trans (by simp [World.setCell]) (agree_at _ g11 1 (.slice q6 E.writes.length e6)))
      have hzS : wxc.heap.size ≤ ((wxc.setCell ⟨g11, 0, none⟩ (.slice q5 E.cells.length e5)).setCell ⟨g11, 1, none⟩ (.slice q6 E.writes.length e6)).heap.size := by simp [World.setCell]
      replace Hb := Lib.hid ((Hb.out.setCell (p := ⟨g11, 0, none⟩) (by show _ ≤ g11; omega) (.slice q5 E.cells.length e5)).setCell (p := ⟨g11, 1, none⟩) (by show _ ≤ g11; omega) (.slice q6 E.writes.length e6))
      replace HB1 := Lib.hid (HB1.out.keep hkS hzS (by omega))
      replace HB2 := Lib.hid (HB2.out.keep hkS hzS (by omega))
      replace HB8 := Lib.hid (HB8.out.keep hkS hzS (by omega))
      replace HR10 := Lib.hid (HR10.out.keep hkS hzS (by omega))
      replace HB10 := Lib.hid ((HB10.out.set 0 (.slice q5 E.cells.length e5) (by simp)).set 1 (.slice q6 E.writes.length e6) (by simp))
      simp only [List.set_cons_zero, List.set_cons_succ] at HB10
      replace HDE := Lib.hid (HDE.out.keep (hkS.mono fun g hg => by omega))
      clear hkS hzS
      go_upto_region 11 with fail
      clear c0 c1 c2 c3 c4 c5 cf0 cf1 cf2 cf3 cf4 cf5 cl
      generalize hwf : ((wxc.setCell ⟨g11, 0, none⟩ (.slice q5 E.cells.length e5)).setCell ⟨g11, 1, none⟩ (.slice q6 E.writes.length e6)) = wy at *
      clear hwf
      refine np_normal ?_
      go_wp2_with fail
      refine (chunk_any _ _ _ _).mono ?_
      rintro e w12 ⟨rfl, hb12, hbs, hbn, hz12⟩
      have lt5_HB1 := HB1.out.lt
      have lt6_HB2 := HB2.out.lt
      have lt7_HB8 := HB8.out.lt
      have lt8_HB10 := HB10.out.lt
      have lt9_HR10 := HR10.out.lt
      have hy2 : w2.heap.size ≤ wy.heap.size := by have := Hb.out.size; omega
      replace Hb := Lib.hid (Hb.out.trans (hb12.mono Hb.out.size))
      replace HB1 := Lib.hid (HB1.out.call hb12)
      replace HB2 := Lib.hid (HB2.out.call hb12)
      replace HB8 := Lib.hid (HB8.out.call hb12)
      replace HR10 := Lib.hid (HR10.out.call hb12)
      replace HB10 := Lib.hid (HB10.out.call hb12)
      replace HDE := Lib.hid (HDE.out.keep (agree_below hb12))
      clear hb12
      go_wp2_with fail
      have hgs : wy.heap.size < w12.heap.size := by omega
      have hgn : wy.heap.size + 1 < w12.heap.size := by omega
      have hfu := HEl.out.1
      have hfw := HEl.out.2
      have hff := Hf.out
      have hcp : 64 * Y ≤ cp2 := HR10.out.2.1
      have hBl : (C ++ List.replicate (64 * Y - (32 + s.size)) 0).length = 64 * Y := HR10.out.1
      obtain ⟨B, hB⟩ : ∃ B, C ++ List.replicate (64 * Y - (32 + s.size)) 0 = B := ⟨_, rfl⟩
      rw [hB] at hBl HR10
      have HB' := Lib.hid hB
      have HBl := Lib.hid hBl
      clear hB hBl
      have hst := chunk_stops 3 wy.heap.size (wy.heap.size + 1) g10 0 Y cp2 (by omega) hcp w12 hgs hgn (hbs.cells 0) (hbn.cells 0)
      have Hst := Lib.hid hst
      have Hroom : Hid (T.next + Y ≤ E.cells.length ∧ E.writes.length + Y ≤ 64) := ⟨by rw [hfu]; omega, by omega⟩
      clear hst hbs hbn hfu hfw hff
      refine (wpIn_wide (n := 5)).1 ?_
      refine wpIn_rangeFunc_ownF (α := Nat) (n := 5) (w0 := w12) rfl (by omega) (gf := 71) (lb := #[.pointer (some ⟨wy.heap.size, 0, none⟩), .pointer (some ⟨wy.heap.size + 1, 0, none⟩)]) rfl trivial (enters_of Try.func71 (by kernel_rfl) rfl) Hst.out KeepG.trans (fun W l o o' hl hW _ _ => keepG_b hgs hgn W l o o' hl hW) (ext_refl w12) (fun _ => rfl)
        (fun pre W => ∃ cv wv, Hid (Blk W g11 [cv, wv, .int .i64 T.count, .int .i64 ((T.next + pre.length : Nat) : Int), .int .i64 T.len, .int .u64 T.sum.toNat]) ∧ Hid (DiskAt (fun b => w2.heap.size ≤ b ∧ b ≠ g11) W (.agg #[cv, wv]) (Jn.putsL E T.next Y B pre)) ∧
          Hid (Blk W w.heap.size [.slice q1 n e1, .slice q2 m e2, .int .i64 T.count, .int .i64 T.next, .int .i64 T.len, .int .u64 T.sum.toNat]) ∧ Hid (Blk W (w.heap.size + 1) [.slice none 0 0, .slice none 0 0, .int .i64 0, .int .i64 0, .int .i64 0, .int .u64 0]) ∧
          Hid (Blk W g8 [.int .i64 (32 + (s.size : Int)), .int .u64 mk.toNat]) ∧ Hid (RoomRow W g10 (64 * Y) cp2 B) ∧ Hid (Below w.heap.size w W) ∧ w12.heap.size ≤ W.heap.size)
        (fun _ _ _ => False) ?own (fun _ _ _ _ _ h => h.elim) ?start ?acts ?assign ?body ?done (fun _ _ _ _ _ _ h => h.elim)
      case own =>
        rintro pre W W' row ⟨cv, wv, h1, h2, h3, h4, h5, h6, h7, h8⟩ hg hr
        have hr' := fun r e => (hr r e).2
        exact ⟨cv, wv, h1.out.kept (by simp) hg hr', h2.out.kept hg hr', h3.out.kept (by simp) hg hr', h4.out.kept (by simp) hg hr', h5.out.kept (by simp) hg hr', h6.out.kept (by omega) hg hr', h7.out.grown hg h7.out.size (fun k e => by have := (hr k e).1; omega), Nat.le_trans h8 hg.size⟩
      case start => exact ⟨_, _, HB10, by rw [Jn.putsL_nil]; exact HDE, HB1, HB2, HB8, HR10, Hb, Nat.le_refl _⟩
      case assign =>
        intro l x W K hK
        gi_wp2
        exact hK
      case body =>
        rintro l pre x W ⟨cv, wv, HB10, HDE, HB1, HB2, HB8, HR10, Hb, hwW⟩ hlen
        obtain ⟨p7, c7, p8, c8, hval⟩ := HDE.out.parts
        simp only [Value.agg.injEq, Array.mk.injEq, List.cons.injEq, and_true] at hval
        obtain ⟨rfl, rfl⟩ := hval
        have hput := put_ok (A := fun _ => True) _ (pickVal g10 0 Y x) W (Jn.putsL E T.next Y B pre) (T.next + pre.length) ((B.drop (64 * (if x < Y then x else 0))).take 64) (Jn.putsL_good HEg.out hY0 HBl.out Hroom.out.1 Hroom.out.2 (Nat.le_of_lt hlen)) (by rw [(Jn.putsL_len ..).1]; have := Hroom.out.1; omega) (Jn.chunk_length HBl.out (by split <;> omega)) (by rw [(Jn.putsL_len ..).2]; have := Hroom.out.2; omega) (HDE.out.mono fun _ _ => trivial) ((HR10.out.chunk (by split <;> omega)).mono fun _ _ => trivial)
        rw [← Jn.putsL_snoc] at hput
        obtain ⟨F, hF⟩ : ∃ F, Jn.putsL E T.next Y B (pre ++ [x]) = F := ⟨_, rfl⟩
        rw [hF] at hput
        have Hput := Lib.hid hput
        have HF := Lib.hid hF
        generalize hN : (Jn.putsL E T.next Y B pre).cells.length = N at *
        generalize hM : (Jn.putsL E T.next Y B pre).writes.length = M at *
        clear hput hF hN hM HDE
        obtain ⟨k, hk⟩ : ∃ k, T.next + pre.length = k := ⟨_, rfl⟩
        rw [hk] at HB10 Hput
        have Hk := Lib.hid hk
        have hklt : k < 1024 := by omega
        clear hk
        have c0 := HB10.out.cells 0
        have c1 := HB10.out.cells 1
        have c2 := HB10.out.cells 2
        have c3 := HB10.out.cells 3
        have c4 := HB10.out.cells 4
        have c5 := HB10.out.cells 5
        have cl := HB10.out.lt
        simp only [List.getElem?_cons_zero, List.getElem?_cons_succ] at c0 c1 c2 c3 c4 c5
        gi_wp2
        clear c0 c1 c2 c3 c4 c5 cl
        refine ⟨trivial, (CallsIn.inRound l (callsIn_wide.2 Hput.out)).mono ?_⟩
        rintro e W3 ⟨v', rfl, hb3, hD3⟩
        obtain ⟨p9, c9, p10, c10, rfl⟩ := hD3.parts
        clear Hput
        have lt10_HB10 := HB10.out.lt
        have hK3 := keeps_below hb3
        have hs3 := hb3.size
        have hG3 : KeepG wy.heap.size (wy.heap.size + 1) W W3 := ⟨hb3.size, hb3.block _ (by omega), hb3.block _ (by omega)⟩
        have hD4 := Lib.hid (hD3.mono (B := fun b => w2.heap.size ≤ b ∧ b ≠ g11) fun b hb => by omega)
        have hkw : IntKind.i64.wrap ((k : Int) + 1) = (k : Int) + 1 := by rw [IntKind.wrap_i64]; omega
        replace HB10 := Lib.hid (HB10.out.call hb3)
        replace HB1 := Lib.hid (HB1.out.call hb3)
        replace HB2 := Lib.hid (HB2.out.call hb3)
        replace HB8 := Lib.hid (HB8.out.call hb3)
        replace HR10 := Lib.hid (HR10.out.call hb3)
        replace Hb := Lib.hid (Hb.out.trans (hb3.mono Hb.out.size))
        clear hb3
        clear hD3
        unfold newRes
        have c0 := HB10.out.cells 0
        have c1 := HB10.out.cells 1
        have c2 := HB10.out.cells 2
        have c3 := HB10.out.cells 3
        have c4 := HB10.out.cells 4
        have c5 := HB10.out.cells 5
        have cf0 := HB10.out.frozen 0
        have cf1 := HB10.out.frozen 1
        have cf2 := HB10.out.frozen 2
        have cf3 := HB10.out.frozen 3
        have cf4 := HB10.out.frozen 4
        have cf5 := HB10.out.frozen 5
        have cl := HB10.out.lt
        simp only [List.getElem?_cons_zero, List.getElem?_cons_succ] at c0 c1 c2 c3 c4 c5
        have hkS : Agree (· ≠ g11) W3 (((W3.setCell ⟨g11, 0, none⟩ (.slice p9 F.cells.length c9)).setCell ⟨g11, 1, none⟩ (.slice p10 F.writes.length c10)).setCell ⟨g11, 3, none⟩ (.int .i64 ((k : Int) + 1))) := (((agree_at _ g11 0 (.slice p9 F.cells.length c9)).trans (by simp [World.setCell]) (agree_at _ g11 1 (.slice p10 F.writes.length c10))).trans (by simp [World.setCell]) (agree_at _ g11 3 (.int .i64 ((k : Int) + 1))))
        have hzS : W3.heap.size ≤ (((W3.setCell ⟨g11, 0, none⟩ (.slice p9 F.cells.length c9)).setCell ⟨g11, 1, none⟩ (.slice p10 F.writes.length c10)).setCell ⟨g11, 3, none⟩ (.int .i64 ((k : Int) + 1))).heap.size := by simp [World.setCell]
        replace HB10 := Lib.hid (((HB10.out.set 0 (.slice p9 F.cells.length c9) (by simp)).set 1 (.slice p10 F.writes.length c10) (by simp)).set 3 (.int .i64 ((k : Int) + 1)) (by simp))
        simp only [List.set_cons_zero, List.set_cons_succ] at HB10
        replace HB1 := Lib.hid (HB1.out.keep hkS hzS (by omega))
        replace HB2 := Lib.hid (HB2.out.keep hkS hzS (by omega))
        replace HB8 := Lib.hid (HB8.out.keep hkS hzS (by omega))
        replace HR10 := Lib.hid (HR10.out.keep hkS hzS (by omega))
        replace Hb := Lib.hid (((Hb.out.setCell (p := ⟨g11, 0, none⟩) (by show _ ≤ g11; omega) (.slice p9 F.cells.length c9)).setCell (p := ⟨g11, 1, none⟩) (by show _ ≤ g11; omega) (.slice p10 F.writes.length c10)).setCell (p := ⟨g11, 3, none⟩) (by show _ ≤ g11; omega) (.int .i64 ((k : Int) + 1)))
        replace hD4 := Lib.hid (hD4.out.keep (hkS.mono fun g hg => by omega))
        gi_wp2
        refine ⟨hK3.trans (((KeepsOthers.setCell W3 ⟨g11, 0, none⟩ (.slice p9 F.cells.length c9)).trans (KeepsOthers.setCell (W3.setCell ⟨g11, 0, none⟩ (.slice p9 F.cells.length c9)) ⟨g11, 1, none⟩ (.slice p10 F.writes.length c10))).trans (KeepsOthers.setCell ((W3.setCell ⟨g11, 0, none⟩ (.slice p9 F.cells.length c9)).setCell ⟨g11, 1, none⟩ (.slice p10 F.writes.length c10)) ⟨g11, 3, none⟩ (.int .i64 ((k : Int) + 1)))), hG3.trans ⟨hzS, hkS wy.heap.size (by omega) (by omega), hkS (wy.heap.size + 1) (by omega) (by omega)⟩, .slice p9 F.cells.length c9, .slice p10 F.writes.length c10, ?_, ?_, HB1, HB2, HB8, HR10, Hb, Nat.le_trans hwW (Nat.le_trans hs3 hzS)⟩
        · have hl : ((T.next + (pre ++ [x]).length : Nat) : Int) = (k : Int) + 1 := by have := Hk.out; simp; omega
          rw [hl]
          exact HB10
        · rw [HF.out]; exact hD4
      case done =>
        rintro DD xs W hDD rfl ⟨cv, wv, HB10, HDE, HB1, HB2, HB8, HR10, Hb, hwW⟩ hK
        gi_wp2
        rw [List.length_range] at HB10
        rw [Jn.putsL_range] at HDE
        obtain ⟨p7, c7, p8, c8, hval⟩ := HDE.out.parts
        simp only [Value.agg.injEq, Array.mk.injEq, List.cons.injEq, and_true] at hval
        obtain ⟨rfl, rfl⟩ := hval
        obtain ⟨F, hF⟩ : ∃ F, Jn.puts E T.next B Y = F := ⟨_, rfl⟩
        rw [hF] at HDE HB10
        have HF := Lib.hid hF
        clear hF
        go_upto_region 15 with fail
        refine wp_np ?_
        have HK := Lib.hid hK
        clear hK
        have c2 := HB1.out.cells 2
        have cl := HB1.out.lt
        simp only [List.getElem?_cons_zero, List.getElem?_cons_succ] at c2
        have i0 := HB10.out.cells 0
        have i1 := HB10.out.cells 1
        have i2 := HB10.out.cells 2
        have i3 := HB10.out.cells 3
        have i4 := HB10.out.cells 4
        have i5 := HB10.out.cells 5
        have if0 := HB10.out.frozen 0
        have if1 := HB10.out.frozen 1
        have if2 := HB10.out.frozen 2
        have if3 := HB10.out.frozen 3
        have if4 := HB10.out.frozen 4
        have if5 := HB10.out.frozen 5
        have il := HB10.out.lt
        simp only [List.getElem?_cons_zero, List.getElem?_cons_succ] at i0 i1 i2 i3 i4 i5
        have hne8 : g8 ≠ g11 := by omega
        have hwc : IntKind.i64.wrap ((T.count : Int) + 1) = (T.count : Int) + 1 := by rw [IntKind.wrap_i64]; omega
        refine Ls.region (Ls.pair (g11)) [5] [(0, 0), (1, 0), (2, 0), (3, 1), (4, 0), (5, 3), (6, 1)] [(7, false)] (fun w' => (∀ b o, b < W.heap.size → w'.cell? ⟨b, o, none⟩ = W.cell? ⟨b, o, none⟩) ∧ (∀ b o, b < W.heap.size → w'.frozen? ⟨b, o, none⟩ = W.frozen? ⟨b, o, none⟩) ∧ Below W.heap.size W w') (by kernel_rfl) (by kernel_rfl) (fun _ _ _ _ _ h => h) (fun _ _ h hb => held_call h hb) ?_; intro ya hbya; replace hbya : Below W.heap.size W ya := hbya; simp only [Ls.pick, Lx.pick, List.filterMap_cons, List.filterMap_nil, List.getElem?_cons_succ, List.getElem?_cons_zero, List.map_cons, List.map_nil]; have hSya := held_below hbya
        replace HB10 := Lib.hid (HB10.out.call hbya)
        replace HB1 := Lib.hid (HB1.out.call hbya)
        replace HB2 := Lib.hid (HB2.out.call hbya)
        replace HB8 := Lib.hid (HB8.out.call hbya)
        replace Hb := Lib.hid (Hb.out.trans (hbya.mono Hb.out.size))
        replace HDE := Lib.hid (HDE.out.keep (agree_below hbya))
        replace HK := Lib.hid ((hbya.block DD (Array.getElem?_eq_some_iff.1 HK.out).1).trans HK.out)
        have d0 := HB8.out.cells 0
        have d1 := HB8.out.cells 1
        have dl := HB8.out.lt
        simp only [List.getElem?_cons_zero, List.getElem?_cons_succ] at d0 d1
        repeat (first | (refine Ls.takeY ?_ (by rfl) ?_ (by assumption) ?_; rotate_left; (focus (intro w' hSw; (try dsimp only at hSw); go_simp; (try with_reducible rfl))); simp only [Act.put, List.setIfInBounds_toArray, List.set_cons_zero, List.set_cons_succ]) | (refine Ls.takeN (by rfl) (by assumption) ?_; simp only [Act.put, List.setIfInBounds_toArray, List.set_cons_zero, List.set_cons_succ]) | (refine Ls.takeT ?_ (by rfl) ?_ ?_; rotate_left; (focus (intro w' hRw; (try dsimp only at hRw); have hSw := but_held hRw; go_simp; (try with_reducible rfl))); simp only [Act.put, List.setIfInBounds_toArray, List.set_cons_zero, List.set_cons_succ]))
        clear c2 cl d0 d1 dl i0 i1 i2 i3 i4 i5 if0 if1 if2 if3 if4 if5 il
        have i2 := HB10.out.cells 2
        have if2 := HB10.out.frozen 2
        have il := HB10.out.lt
        simp only [List.getElem?_cons_zero, List.getElem?_cons_succ] at i2
        have hkS : Agree (· ≠ g11) ya (ya.setCell ⟨g11, 2, none⟩ (.int .i64 ((T.count : Int) + 1))) := (agree_at _ g11 2 (.int .i64 ((T.count : Int) + 1)))
        have hzS : ya.heap.size ≤ (ya.setCell ⟨g11, 2, none⟩ (.int .i64 ((T.count : Int) + 1))).heap.size := by simp [World.setCell]
        replace HB10 := Lib.hid (HB10.out.set 2 (.int .i64 ((T.count : Int) + 1)) (by simp))
        simp only [List.set_cons_zero, List.set_cons_succ] at HB10
        replace HB1 := Lib.hid (HB1.out.keep hkS hzS (by omega))
        replace HB2 := Lib.hid (HB2.out.keep hkS hzS (by omega))
        replace HB8 := Lib.hid (HB8.out.keep hkS hzS (by omega))
        replace Hb := Lib.hid (Hb.out.setCell (p := ⟨g11, 2, none⟩) (by show _ ≤ g11; omega) (.int .i64 ((T.count : Int) + 1)))
        replace HDE := Lib.hid (HDE.out.keep (hkS.mono fun g hg => by omega))
        replace HK := Lib.hid ((hkS DD (by omega) (Array.getElem?_eq_some_iff.1 HK.out).1).trans HK.out)
        clear hkS hzS
        refine Ls.goX (by rfl) ?_; intro K hK; go_simp; refine hK _ _ (by repeat (first | exact Ls.But.of (Below.refl _ _) | refine but_set ?_)) ?_; clear hK K; intro wyb hbyb; try simp only [Act.put, List.setIfInBounds_toArray, List.set_cons_zero, List.set_cons_succ]
        clear i2 if2 il
        replace HB10 := Lib.hid (HB10.out.call hbyb)
        replace HB1 := Lib.hid (HB1.out.call hbyb)
        replace HB2 := Lib.hid (HB2.out.call hbyb)
        replace HB8 := Lib.hid (HB8.out.call hbyb)
        replace Hb := Lib.hid (Hb.out.trans (hbyb.mono Hb.out.size))
        replace HDE := Lib.hid (HDE.out.keep (agree_below hbyb))
        replace HK := Lib.hid ((hbyb.block DD (Array.getElem?_eq_some_iff.1 HK.out).1).trans HK.out)
        repeat (first | (refine Ls.takeY ?_ (by rfl) ?_ (by assumption) ?_; rotate_left; (focus (intro w' hSw; (try dsimp only at hSw); go_simp; (try with_reducible rfl))); simp only [Act.put, List.setIfInBounds_toArray, List.set_cons_zero, List.set_cons_succ]) | (refine Ls.takeN (by rfl) (by assumption) ?_; simp only [Act.put, List.setIfInBounds_toArray, List.set_cons_zero, List.set_cons_succ]) | (refine Ls.takeT ?_ (by rfl) ?_ ?_; rotate_left; (focus (intro w' hRw; (try dsimp only at hRw); have hSw := but_held hRw; go_simp; (try with_reducible rfl))); simp only [Act.put, List.setIfInBounds_toArray, List.set_cons_zero, List.set_cons_succ]))
        have i0 := HB10.out.cells 0
        have i1 := HB10.out.cells 1
        have i2 := HB10.out.cells 2
        have i3 := HB10.out.cells 3
        have i4 := HB10.out.cells 4
        have i5 := HB10.out.cells 5
        have if0 := HB10.out.frozen 0
        have if1 := HB10.out.frozen 1
        have if2 := HB10.out.frozen 2
        have if3 := HB10.out.frozen 3
        have if4 := HB10.out.frozen 4
        have if5 := HB10.out.frozen 5
        have il := HB10.out.lt
        simp only [List.getElem?_cons_zero, List.getElem?_cons_succ] at i0 i1 i2 i3 i4 i5
        have hkS : Agree (· ≠ g11) wyb ((wyb.setCell ⟨g11, 4, none⟩ (.int .i64 (32 + (s.size : Int)))).setCell ⟨g11, 5, none⟩ (.int .u64 mk.toNat)) := ((agree_at _ g11 4 (.int .i64 (32 + (s.size : Int)))).trans (by simp [World.setCell]) (agree_at _ g11 5 (.int .u64 mk.toNat)))
        have hzS : wyb.heap.size ≤ ((wyb.setCell ⟨g11, 4, none⟩ (.int .i64 (32 + (s.size : Int)))).setCell ⟨g11, 5, none⟩ (.int .u64 mk.toNat)).heap.size := by simp [World.setCell]
        replace HB10 := Lib.hid ((HB10.out.set 4 (.int .i64 (32 + (s.size : Int))) (by simp)).set 5 (.int .u64 mk.toNat) (by simp))
        simp only [List.set_cons_zero, List.set_cons_succ] at HB10
        replace HB1 := Lib.hid (HB1.out.keep hkS hzS (by omega))
        replace HB2 := Lib.hid (HB2.out.keep hkS hzS (by omega))
        replace HB8 := Lib.hid (HB8.out.keep hkS hzS (by omega))
        replace Hb := Lib.hid ((Hb.out.setCell (p := ⟨g11, 4, none⟩) (by show _ ≤ g11; omega) (.int .i64 (32 + (s.size : Int)))).setCell (p := ⟨g11, 5, none⟩) (by show _ ≤ g11; omega) (.int .u64 mk.toNat))
        replace HDE := Lib.hid (HDE.out.keep (hkS.mono fun g hg => by omega))
        replace HK := Lib.hid ((hkS DD (by omega) (Array.getElem?_eq_some_iff.1 HK.out).1).trans HK.out)
        clear hkS hzS
        refine Ls.tail ?_
        go_upto_region 16 with fail
        refine np_normal ?_
        clear i0 i1 i2 i3 i4 i5 if0 if1 if2 if3 if4 if5 il
        clear hSya hbya hbyb
        generalize hwf : ((wyb.setCell ⟨g11, 4, none⟩ (.int .i64 (32 + (s.size : Int)))).setCell ⟨g11, 5, none⟩ (.int .u64 mk.toNat)) = yz2 at *
        clear hwf
        have i0 := HB10.out.cells 0
        have i1 := HB10.out.cells 1
        have i2 := HB10.out.cells 2
        have i3 := HB10.out.cells 3
        have i4 := HB10.out.cells 4
        have i5 := HB10.out.cells 5
        have il := HB10.out.lt
        simp only [List.getElem?_cons_zero, List.getElem?_cons_succ] at i0 i1 i2 i3 i4 i5
        have j0 := HB2.out.cells 0
        have j1 := HB2.out.cells 1
        have j2 := HB2.out.cells 2
        have j3 := HB2.out.cells 3
        have j4 := HB2.out.cells 4
        have j5 := HB2.out.cells 5
        have jf0 := HB2.out.frozen 0
        have jf1 := HB2.out.frozen 1
        have jf2 := HB2.out.frozen 2
        have jf3 := HB2.out.frozen 3
        have jf4 := HB2.out.frozen 4
        have jf5 := HB2.out.frozen 5
        have jl := HB2.out.lt
        simp only [List.getElem?_cons_zero, List.getElem?_cons_succ] at j0 j1 j2 j3 j4 j5
        have hkS : Agree (· ≠ (w.heap.size+1)) yz2 ((((((yz2.setCell ⟨(w.heap.size+1), 0, none⟩ (.slice p7 F.cells.length c7)).setCell ⟨(w.heap.size+1), 1, none⟩ (.slice p8 F.writes.length c8)).setCell ⟨(w.heap.size+1), 2, none⟩ (.int .i64 ((T.count : Int) + 1))).setCell ⟨(w.heap.size+1), 3, none⟩ (.int .i64 ((T.next : Int) + (Y : Int)))).setCell ⟨(w.heap.size+1), 4, none⟩ (.int .i64 (32 + (s.size : Int)))).setCell ⟨(w.heap.size+1), 5, none⟩ (.int .u64 mk.toNat)) := ((((((agree_at _ (w.heap.size+1) 0 (.slice p7 F.cells.length c7)).trans (by simp [World.setCell]) (agree_at _ (w.heap.size+1) 1 (.slice p8 F.writes.length c8))).trans (by simp [World.setCell]) (agree_at _ (w.heap.size+1) 2 (.int .i64 ((T.count : Int) + 1)))).trans (by simp [World.setCell]) (agree_at _ (w.heap.size+1) 3 (.int .i64 ((T.next : Int) + (Y : Int))))).trans (by simp [World.setCell]) (agree_at _ (w.heap.size+1) 4 (.int .i64 (32 + (s.size : Int))))).trans (by simp [World.setCell]) (agree_at _ (w.heap.size+1) 5 (.int .u64 mk.toNat)))
        have hzS : yz2.heap.size ≤ ((((((yz2.setCell ⟨(w.heap.size+1), 0, none⟩ (.slice p7 F.cells.length c7)).setCell ⟨(w.heap.size+1), 1, none⟩ (.slice p8 F.writes.length c8)).setCell ⟨(w.heap.size+1), 2, none⟩ (.int .i64 ((T.count : Int) + 1))).setCell ⟨(w.heap.size+1), 3, none⟩ (.int .i64 ((T.next : Int) + (Y : Int)))).setCell ⟨(w.heap.size+1), 4, none⟩ (.int .i64 (32 + (s.size : Int)))).setCell ⟨(w.heap.size+1), 5, none⟩ (.int .u64 mk.toNat)).heap.size := by simp [World.setCell]
        replace HB10 := Lib.hid (HB10.out.keep hkS hzS (by omega))
        replace HB1 := Lib.hid (HB1.out.keep hkS hzS (by omega))
        replace HB2 := Lib.hid ((((((HB2.out.set 0 (.slice p7 F.cells.length c7) (by simp)).set 1 (.slice p8 F.writes.length c8) (by simp)).set 2 (.int .i64 ((T.count : Int) + 1)) (by simp)).set 3 (.int .i64 ((T.next : Int) + (Y : Int))) (by simp)).set 4 (.int .i64 (32 + (s.size : Int))) (by simp)).set 5 (.int .u64 mk.toNat) (by simp))
        simp only [List.set_cons_zero, List.set_cons_succ] at HB2
        replace HB8 := Lib.hid (HB8.out.keep hkS hzS (by omega))
        replace Hb := Lib.hid ((((((Hb.out.setCell (p := ⟨(w.heap.size+1), 0, none⟩) (by show _ ≤ (w.heap.size+1); omega) (.slice p7 F.cells.length c7)).setCell (p := ⟨(w.heap.size+1), 1, none⟩) (by show _ ≤ (w.heap.size+1); omega) (.slice p8 F.writes.length c8)).setCell (p := ⟨(w.heap.size+1), 2, none⟩) (by show _ ≤ (w.heap.size+1); omega) (.int .i64 ((T.count : Int) + 1))).setCell (p := ⟨(w.heap.size+1), 3, none⟩) (by show _ ≤ (w.heap.size+1); omega) (.int .i64 ((T.next : Int) + (Y : Int)))).setCell (p := ⟨(w.heap.size+1), 4, none⟩) (by show _ ≤ (w.heap.size+1); omega) (.int .i64 (32 + (s.size : Int)))).setCell (p := ⟨(w.heap.size+1), 5, none⟩) (by show _ ≤ (w.heap.size+1); omega) (.int .u64 mk.toNat))
        replace HDE := Lib.hid (HDE.out.keep (hkS.mono fun g hg => by omega))
        replace HK := Lib.hid ((hkS DD (by omega) (Array.getElem?_eq_some_iff.1 HK.out).1).trans HK.out)
        clear hkS hzS
        go_wp2_with fail
        clear i0 i1 i2 i3 i4 i5 il j0 j1 j2 j3 j4 j5 jf0 jf1 jf2 jf3 jf4 jf5 jl
        generalize hwf : ((((((yz2.setCell ⟨(w.heap.size+1), 0, none⟩ (.slice p7 F.cells.length c7)).setCell ⟨(w.heap.size+1), 1, none⟩ (.slice p8 F.writes.length c8)).setCell ⟨(w.heap.size+1), 2, none⟩ (.int .i64 ((T.count : Int) + 1))).setCell ⟨(w.heap.size+1), 3, none⟩ (.int .i64 ((T.next : Int) + (Y : Int)))).setCell ⟨(w.heap.size+1), 4, none⟩ (.int .i64 (32 + (s.size : Int)))).setCell ⟨(w.heap.size+1), 5, none⟩ (.int .u64 mk.toNat)) = yf at *
        clear hwf
        have hgo := grownBy_putObj' yf DD (.deferred none)
        have hgr := fun (r : Nat) (e : some DD = some r) => (show ∃ o : Obj, yf.heap[r]? = some o ∧ o.isCells = false from by cases e; exact ⟨_, HK.out, rfl⟩)
        have HBf := Lib.hid (HB2.out.kept (by simp) hgo hgr)
        have HDf := Lib.hid (HDE.out.kept hgo hgr)
        have Hbf := Lib.hid (Hb.out.grown hgo Hb.out.size (fun k e => by cases e; omega))
        clear hgo hgr
        have hw2w := Hb.out.size
        have i0 := HBf.out.cells 0
        have i1 := HBf.out.cells 1
        have i2 := HBf.out.cells 2
        have i3 := HBf.out.cells 3
        have i4 := HBf.out.cells 4
        have i5 := HBf.out.cells 5
        have il := HBf.out.lt
        simp only [List.getElem?_cons_zero, List.getElem?_cons_succ] at i0 i1 i2 i3 i4 i5
        refine ⟨by simp, .inl ⟨_, _, rfl, run_takeDeferred HK.out, .tuple #[jval (.slice p7 F.cells.length c7) (.slice p8 F.writes.length c8) ((T.count : Int) + 1) ((T.next : Int) + (Y : Int)) (32 + (s.size : Int)) mk, .int .i64 0], ?_, _, rfl, Hbf.out, ?_⟩⟩
        · simp [results, Try.results39, go_sem, jval, i0, i1, i2, i3, i4, i5, il]
        · have hpl : s.data.toList.length = s.size := by simp
          have happ : Jn.appR D T.count T.next T.len T.sum s.data.toList = ⟨F, (T.count : Int) + 1, (T.next : Int) + (Y : Int), 32 + (s.size : Int), mk, 0⟩ := by
            unfold Jn.appR
            rw [HT.out, if_neg (fun h => h ⟨rfl, rfl, rfl, rfl⟩), Hn.out, Hm.out, hpl, if_neg (by rw [Hfit.out]; simp)]
            have h1 : Jn.app D T s.data.toList = F := by
              unfold Jn.app Jn.blockOf
              rw [hpl, HY.out, HE.out, Hmk.out, ← HF.out, ← HB'.out, ← HC.out, ← Hfi.out, ← Hbo.out]
              rfl
            rw [h1]
            unfold Jn.St.push
            rw [hpl, HY.out, Hmk.out]
            simp
          rw [happ]
          exact ⟨_, rfl, _, _, rfl, HDf.out.mono fun g hg => by have := hg.1; omega⟩
    · rw [eq_false_of_ne_true hfit]
      have Hans : Hid (Jn.appR D T.count T.next T.len T.sum s.data.toList = ⟨D, T.count, T.next, T.len, T.sum, 45⟩) := by
        show Jn.appR D _ _ _ _ s.data.toList = _
        unfold Jn.appR
        rw [HT.out, if_neg (fun h => h ⟨rfl, rfl, rfl, rfl⟩), Hn.out, Hm.out, show s.data.toList.length = s.size from by simp, if_pos (eq_false_of_ne_true hfit)]
      clear hfit
      have c0 := HB1.out.cells 0
      have c1 := HB1.out.cells 1
      have c2 := HB1.out.cells 2
      have c3 := HB1.out.cells 3
      have c4 := HB1.out.cells 4
      have c5 := HB1.out.cells 5
      have cl := HB1.out.lt
      simp only [List.getElem?_cons_zero, List.getElem?_cons_succ] at c0 c1 c2 c3 c4 c5
      go_wp2_with fail
      refine (Hown.out w5 Hd2.out).mono ?_
      rintro e w6 ⟨_, rfl, hb5, cv5, wv5, rfl, hd5⟩
      obtain ⟨q5, e5, q6, e6, hval⟩ := hd5.parts
      simp only [Value.agg.injEq, Array.mk.injEq, List.cons.injEq, and_true] at hval
      obtain ⟨rfl, rfl⟩ := hval
      rw [Hn.out, Hm.out] at hd5 ⊢
      have HB25 := Lib.hid (HB2.out.call hb5)
      have HBf := Lib.hid (blk6 HB25.out (.slice q5 n e5) (.slice q6 m e6) (.int .i64 (T.count : Int)) (.int .i64 (T.next : Int)) (.int .i64 (T.len : Int)) (.int .u64 T.sum.toNat))
      have HDf := Lib.hid (hd5.keep ((agree6 w6 (w.heap.size + 1) (.slice q5 n e5) (.slice q6 m e6) (.int .i64 (T.count : Int)) (.int .i64 (T.next : Int)) (.int .i64 (T.len : Int)) (.int .u64 T.sum.toNat)).mono fun g hg => by have := HB2.out.lt; omega))
      have Hbf := Lib.hid (below6 (Hb.out.trans (hb5.mono Hb.out.size)) (show w.heap.size ≤ w.heap.size + 1 by omega) (.slice q5 n e5) (.slice q6 m e6) (.int .i64 (T.count : Int)) (.int .i64 (T.next : Int)) (.int .i64 (T.len : Int)) (.int .u64 T.sum.toNat))
      have i0 := HB25.out.cells 0
      have i1 := HB25.out.cells 1
      have i2 := HB25.out.cells 2
      have i3 := HB25.out.cells 3
      have i4 := HB25.out.cells 4
      have i5 := HB25.out.cells 5
      have if0 := HB25.out.frozen 0
      have if1 := HB25.out.frozen 1
      have if2 := HB25.out.frozen 2
      have if3 := HB25.out.frozen 3
      have if4 := HB25.out.frozen 4
      have if5 := HB25.out.frozen 5
      have il := HB25.out.lt
      simp only [List.getElem?_cons_zero, List.getElem?_cons_succ] at i0 i1 i2 i3 i4 i5
      clear hd5 hb5
      unfold jval
      go_wp2_with fail
      clear i0 i1 i2 i3 i4 i5 if0 if1 if2 if3 if4 if5 il
      have c0 := HBf.out.cells 0
      have c1 := HBf.out.cells 1
      have c2 := HBf.out.cells 2
      have c3 := HBf.out.cells 3
      have c4 := HBf.out.cells 4
      have c5 := HBf.out.cells 5
      have c6 := HBf.out.lt
      simp only [List.getElem?_cons_zero, List.getElem?_cons_succ] at c0 c1 c2 c3 c4 c5
      unfold set6 at c0 c1 c2 c3 c4 c5 c6
      refine marks_ret (v := .tuple #[jval (.slice q5 n e5) (.slice q6 m e6) (T.count : Int) (T.next : Int) (T.len : Int) T.sum, .int .i64 45]) ?_ rfl ⟨_, rfl, Hbf.out, ?_⟩
      · simp [results, Try.results39, go_sem, jval, c0, c1, c2, c3, c4, c5, c6]
      · rw [Hans.out]
        exact ⟨_, rfl, _, _, rfl, HDf.out.mono fun g hg => by have := HB2.out.lt; have := Hb.out.size; omega⟩
  ·
    have Hans : Hid (Jn.appR D cnt nxt len sum s.data.toList = ⟨D, cnt, nxt, len, sum, 44⟩) := by
      show Jn.appR D cnt nxt len sum s.data.toList = _
      unfold Jn.appR
      rw [HT.out, if_pos hst]
    have hsum : ¬ (sum.toNat : Int) = T.sum.toNat ∨ sum = T.sum := by
      by_cases h : sum.toNat = T.sum.toNat
      · exact .inr (BitVec.eq_of_toNat_eq h)
      · exact .inl (by omega)
    have hor : ¬ cnt = (T.count : Int) ∨ (cnt = (T.count : Int) ∧ ¬ nxt = (T.next : Int)) ∨ (cnt = (T.count : Int) ∧ nxt = (T.next : Int) ∧ ¬ len = (T.len : Int)) ∨ (cnt = (T.count : Int) ∧ nxt = (T.next : Int) ∧ len = (T.len : Int) ∧ ¬ (sum.toNat : Int) = T.sum.toNat) := by
      by_cases h1 : cnt = (T.count : Int)
      · by_cases h2 : nxt = (T.next : Int)
        · by_cases h3 : len = (T.len : Int)
          · rcases hsum with h4 | h4
            · exact .inr (.inr (.inr ⟨h1, h2, h3, h4⟩))
            · exact absurd ⟨h1, h2, h3, h4⟩ hst
          · exact .inr (.inr (.inl ⟨h1, h2, h3⟩))
        · exact .inr (.inl ⟨h1, h2⟩)
      · exact .inl h1
    clear hst hsum
    obtain h | ⟨rfl, h⟩ | ⟨rfl, rfl, h⟩ | ⟨rfl, rfl, rfl, h⟩ := hor
    · go_wp2_with fail
      refine (Hown.out w4 Hd2.out).mono ?_
      rintro e w6 ⟨_, rfl, hb5, cv5, wv5, rfl, hd5⟩
      obtain ⟨q5, e5, q6, e6, hval⟩ := hd5.parts
      simp only [Value.agg.injEq, Array.mk.injEq, List.cons.injEq, and_true] at hval
      obtain ⟨rfl, rfl⟩ := hval
      rw [Hn.out, Hm.out] at hd5 ⊢
      have HB25 := Lib.hid (HB2.out.call hb5)
      have HBf := Lib.hid (blk6 HB25.out (.slice q5 n e5) (.slice q6 m e6) (.int .i64 cnt) (.int .i64 nxt) (.int .i64 len) (.int .u64 sum.toNat))
      have HDf := Lib.hid (hd5.keep ((agree6 w6 (w.heap.size + 1) (.slice q5 n e5) (.slice q6 m e6) (.int .i64 cnt) (.int .i64 nxt) (.int .i64 len) (.int .u64 sum.toNat)).mono fun g hg => by have := HB2.out.lt; omega))
      have Hbf := Lib.hid (below6 (Hb.out.trans (hb5.mono Hb.out.size)) (show w.heap.size ≤ w.heap.size + 1 by omega) (.slice q5 n e5) (.slice q6 m e6) (.int .i64 cnt) (.int .i64 nxt) (.int .i64 len) (.int .u64 sum.toNat))
      have i0 := HB25.out.cells 0
      have i1 := HB25.out.cells 1
      have i2 := HB25.out.cells 2
      have i3 := HB25.out.cells 3
      have i4 := HB25.out.cells 4
      have i5 := HB25.out.cells 5
      have if0 := HB25.out.frozen 0
      have if1 := HB25.out.frozen 1
      have if2 := HB25.out.frozen 2
      have if3 := HB25.out.frozen 3
      have if4 := HB25.out.frozen 4
      have if5 := HB25.out.frozen 5
      have il := HB25.out.lt
      simp only [List.getElem?_cons_zero, List.getElem?_cons_succ] at i0 i1 i2 i3 i4 i5
      clear hd5 hb5
      unfold jval
      go_wp2_with fail
      clear i0 i1 i2 i3 i4 i5 if0 if1 if2 if3 if4 if5 il
      have c0 := HBf.out.cells 0
      have c1 := HBf.out.cells 1
      have c2 := HBf.out.cells 2
      have c3 := HBf.out.cells 3
      have c4 := HBf.out.cells 4
      have c5 := HBf.out.cells 5
      have c6 := HBf.out.lt
      simp only [List.getElem?_cons_zero, List.getElem?_cons_succ] at c0 c1 c2 c3 c4 c5
      unfold set6 at c0 c1 c2 c3 c4 c5 c6
      refine marks_ret (v := .tuple #[jval (.slice q5 n e5) (.slice q6 m e6) cnt nxt len sum, .int .i64 44]) ?_ rfl ⟨_, rfl, Hbf.out, ?_⟩
      · simp [results, Try.results39, go_sem, jval, c0, c1, c2, c3, c4, c5, c6]
      · rw [Hans.out]
        exact ⟨_, rfl, _, _, rfl, HDf.out.mono fun g hg => by have := HB2.out.lt; have := Hb.out.size; omega⟩
    · go_wp2_with fail
      refine (Hown.out w4 Hd2.out).mono ?_
      rintro e w6 ⟨_, rfl, hb5, cv5, wv5, rfl, hd5⟩
      obtain ⟨q5, e5, q6, e6, hval⟩ := hd5.parts
      simp only [Value.agg.injEq, Array.mk.injEq, List.cons.injEq, and_true] at hval
      obtain ⟨rfl, rfl⟩ := hval
      rw [Hn.out, Hm.out] at hd5 ⊢
      have HB25 := Lib.hid (HB2.out.call hb5)
      have HBf := Lib.hid (blk6 HB25.out (.slice q5 n e5) (.slice q6 m e6) (.int .i64 (T.count : Int)) (.int .i64 nxt) (.int .i64 len) (.int .u64 sum.toNat))
      have HDf := Lib.hid (hd5.keep ((agree6 w6 (w.heap.size + 1) (.slice q5 n e5) (.slice q6 m e6) (.int .i64 (T.count : Int)) (.int .i64 nxt) (.int .i64 len) (.int .u64 sum.toNat)).mono fun g hg => by have := HB2.out.lt; omega))
      have Hbf := Lib.hid (below6 (Hb.out.trans (hb5.mono Hb.out.size)) (show w.heap.size ≤ w.heap.size + 1 by omega) (.slice q5 n e5) (.slice q6 m e6) (.int .i64 (T.count : Int)) (.int .i64 nxt) (.int .i64 len) (.int .u64 sum.toNat))
      have i0 := HB25.out.cells 0
      have i1 := HB25.out.cells 1
      have i2 := HB25.out.cells 2
      have i3 := HB25.out.cells 3
      have i4 := HB25.out.cells 4
      have i5 := HB25.out.cells 5
      have if0 := HB25.out.frozen 0
      have if1 := HB25.out.frozen 1
      have if2 := HB25.out.frozen 2
      have if3 := HB25.out.frozen 3
      have if4 := HB25.out.frozen 4
      have if5 := HB25.out.frozen 5
      have il := HB25.out.lt
      simp only [List.getElem?_cons_zero, List.getElem?_cons_succ] at i0 i1 i2 i3 i4 i5
      clear hd5 hb5
      unfold jval
      go_wp2_with fail
      clear i0 i1 i2 i3 i4 i5 if0 if1 if2 if3 if4 if5 il
      have c0 := HBf.out.cells 0
      have c1 := HBf.out.cells 1
      have c2 := HBf.out.cells 2
      have c3 := HBf.out.cells 3
      have c4 := HBf.out.cells 4
      have c5 := HBf.out.cells 5
      have c6 := HBf.out.lt
      simp only [List.getElem?_cons_zero, List.getElem?_cons_succ] at c0 c1 c2 c3 c4 c5
      unfold set6 at c0 c1 c2 c3 c4 c5 c6
      refine marks_ret (v := .tuple #[jval (.slice q5 n e5) (.slice q6 m e6) (T.count : Int) nxt len sum, .int .i64 44]) ?_ rfl ⟨_, rfl, Hbf.out, ?_⟩
      · simp [results, Try.results39, go_sem, jval, c0, c1, c2, c3, c4, c5, c6]
      · rw [Hans.out]
        exact ⟨_, rfl, _, _, rfl, HDf.out.mono fun g hg => by have := HB2.out.lt; have := Hb.out.size; omega⟩
    · go_wp2_with fail
      refine (Hown.out w4 Hd2.out).mono ?_
      rintro e w6 ⟨_, rfl, hb5, cv5, wv5, rfl, hd5⟩
      obtain ⟨q5, e5, q6, e6, hval⟩ := hd5.parts
      simp only [Value.agg.injEq, Array.mk.injEq, List.cons.injEq, and_true] at hval
      obtain ⟨rfl, rfl⟩ := hval
      rw [Hn.out, Hm.out] at hd5 ⊢
      have HB25 := Lib.hid (HB2.out.call hb5)
      have HBf := Lib.hid (blk6 HB25.out (.slice q5 n e5) (.slice q6 m e6) (.int .i64 (T.count : Int)) (.int .i64 (T.next : Int)) (.int .i64 len) (.int .u64 sum.toNat))
      have HDf := Lib.hid (hd5.keep ((agree6 w6 (w.heap.size + 1) (.slice q5 n e5) (.slice q6 m e6) (.int .i64 (T.count : Int)) (.int .i64 (T.next : Int)) (.int .i64 len) (.int .u64 sum.toNat)).mono fun g hg => by have := HB2.out.lt; omega))
      have Hbf := Lib.hid (below6 (Hb.out.trans (hb5.mono Hb.out.size)) (show w.heap.size ≤ w.heap.size + 1 by omega) (.slice q5 n e5) (.slice q6 m e6) (.int .i64 (T.count : Int)) (.int .i64 (T.next : Int)) (.int .i64 len) (.int .u64 sum.toNat))
      have i0 := HB25.out.cells 0
      have i1 := HB25.out.cells 1
      have i2 := HB25.out.cells 2
      have i3 := HB25.out.cells 3
      have i4 := HB25.out.cells 4
      have i5 := HB25.out.cells 5
      have if0 := HB25.out.frozen 0
      have if1 := HB25.out.frozen 1
      have if2 := HB25.out.frozen 2
      have if3 := HB25.out.frozen 3
      have if4 := HB25.out.frozen 4
      have if5 := HB25.out.frozen 5
      have il := HB25.out.lt
      simp only [List.getElem?_cons_zero, List.getElem?_cons_succ] at i0 i1 i2 i3 i4 i5
      clear hd5 hb5
      unfold jval
      go_wp2_with fail
      clear i0 i1 i2 i3 i4 i5 if0 if1 if2 if3 if4 if5 il
      have c0 := HBf.out.cells 0
      have c1 := HBf.out.cells 1
      have c2 := HBf.out.cells 2
      have c3 := HBf.out.cells 3
      have c4 := HBf.out.cells 4
      have c5 := HBf.out.cells 5
      have c6 := HBf.out.lt
      simp only [List.getElem?_cons_zero, List.getElem?_cons_succ] at c0 c1 c2 c3 c4 c5
      unfold set6 at c0 c1 c2 c3 c4 c5 c6
      refine marks_ret (v := .tuple #[jval (.slice q5 n e5) (.slice q6 m e6) (T.count : Int) (T.next : Int) len sum, .int .i64 44]) ?_ rfl ⟨_, rfl, Hbf.out, ?_⟩
      · simp [results, Try.results39, go_sem, jval, c0, c1, c2, c3, c4, c5, c6]
      · rw [Hans.out]
        exact ⟨_, rfl, _, _, rfl, HDf.out.mono fun g hg => by have := HB2.out.lt; have := Hb.out.size; omega⟩
    · go_wp2_with fail
      refine (Hown.out w4 Hd2.out).mono ?_
      rintro e w6 ⟨_, rfl, hb5, cv5, wv5, rfl, hd5⟩
      obtain ⟨q5, e5, q6, e6, hval⟩ := hd5.parts
      simp only [Value.agg.injEq, Array.mk.injEq, List.cons.injEq, and_true] at hval
      obtain ⟨rfl, rfl⟩ := hval
      rw [Hn.out, Hm.out] at hd5 ⊢
      have HB25 := Lib.hid (HB2.out.call hb5)
      have HBf := Lib.hid (blk6 HB25.out (.slice q5 n e5) (.slice q6 m e6) (.int .i64 (T.count : Int)) (.int .i64 (T.next : Int)) (.int .i64 (T.len : Int)) (.int .u64 sum.toNat))
      have HDf := Lib.hid (hd5.keep ((agree6 w6 (w.heap.size + 1) (.slice q5 n e5) (.slice q6 m e6) (.int .i64 (T.count : Int)) (.int .i64 (T.next : Int)) (.int .i64 (T.len : Int)) (.int .u64 sum.toNat)).mono fun g hg => by have := HB2.out.lt; omega))
      have Hbf := Lib.hid (below6 (Hb.out.trans (hb5.mono Hb.out.size)) (show w.heap.size ≤ w.heap.size + 1 by omega) (.slice q5 n e5) (.slice q6 m e6) (.int .i64 (T.count : Int)) (.int .i64 (T.next : Int)) (.int .i64 (T.len : Int)) (.int .u64 sum.toNat))
      have i0 := HB25.out.cells 0
      have i1 := HB25.out.cells 1
      have i2 := HB25.out.cells 2
      have i3 := HB25.out.cells 3
      have i4 := HB25.out.cells 4
      have i5 := HB25.out.cells 5
      have if0 := HB25.out.frozen 0
      have if1 := HB25.out.frozen 1
      have if2 := HB25.out.frozen 2
      have if3 := HB25.out.frozen 3
      have if4 := HB25.out.frozen 4
      have if5 := HB25.out.frozen 5
      have il := HB25.out.lt
      simp only [List.getElem?_cons_zero, List.getElem?_cons_succ] at i0 i1 i2 i3 i4 i5
      clear hd5 hb5
      unfold jval
      go_wp2_with fail
      clear i0 i1 i2 i3 i4 i5 if0 if1 if2 if3 if4 if5 il
      have c0 := HBf.out.cells 0
      have c1 := HBf.out.cells 1
      have c2 := HBf.out.cells 2
      have c3 := HBf.out.cells 3
      have c4 := HBf.out.cells 4
      have c5 := HBf.out.cells 5
      have c6 := HBf.out.lt
      simp only [List.getElem?_cons_zero, List.getElem?_cons_succ] at c0 c1 c2 c3 c4 c5
      unfold set6 at c0 c1 c2 c3 c4 c5 c6
      refine marks_ret (v := .tuple #[jval (.slice q5 n e5) (.slice q6 m e6) (T.count : Int) (T.next : Int) (T.len : Int) sum, .int .i64 44]) ?_ rfl ⟨_, rfl, Hbf.out, ?_⟩
      · simp [results, Try.results39, go_sem, jval, c0, c1, c2, c3, c4, c5, c6]
      · rw [Hans.out]
        exact ⟨_, rfl, _, _, rfl, HDf.out.mono fun g hg => by have := HB2.out.lt; have := Hb.out.size; omega⟩
end Go.Proofs.Ythpjhmgmjfmgcaa
