/- JournalParts: the walk. -/
import Derived.Test.YthpjhmgmjfmgcaaJnA
import Derived.Test.YthpjhmgmjfmgcaaDc
namespace Go.Proofs.Ythpjhmgmjfmgcaa
open Go.ChangeShapes Go.WideShapes Go.RowKit

theorem new_read {k i : Nat} (h : i < k) : Dk.read (Dk.new k) i = Dk.zeros := by
  simp [Dk.read, Dk.over, Dk.new, h]
theorem new_good {k : Nat} (h0 : 0 < k) (h1 : k ≤ 1024) : Dk.Good (Dk.new k) :=
  ⟨by simp [Dk.new]; omega, by simp [Dk.new]; omega, fun r hr => by rw [List.eq_of_mem_replicate hr]; simp [Dk.zeros], fun w hw => by simp [Dk.new] at hw, by simp [Dk.new]⟩
theorem new_clear (k : Nat) (x : Int) : Jn.clear (Dk.new k) x = Dk.new k := by
  unfold Jn.clear
  rw [if_neg]
  rintro ⟨h1, h2, h3⟩
  refine h3 (new_read ?_)
  simp [Dk.new] at h2; omega
theorem new_state : ∀ k, k < 12 → ((Jn.read (Dk.new k)).2.count = 0 ∧ (Jn.read (Dk.new k)).2.next = 0 ∧ (Jn.read (Dk.new k)).2.len = 0 ∧ (Jn.read (Dk.new k)).2.sum = 0#64) := by decide +kernel
theorem parts_facts (k : Nat) (hk : k < 12) (p : Jn.Bytes) (hp : p.length < 700) : ∃ (S : Jn.St) (R : Jn.Ans), (Jn.read (Dk.new k)).2 = S ∧ S.count = 0 ∧ S.next = 0 ∧ S.len = 0 ∧ S.sum = 0#64 ∧ Jn.appR (Dk.new k) 0 0 0 (0#64) p = R ∧
    ((Jn.need p.length ≤ k ∧ R.err = 0 ∧ R.next = Jn.need p.length ∧ R.count = 1 ∧ R.len = 32 + p.length ∧ R.disk.writes.length = Jn.need p.length) ∨ (k < Jn.need p.length ∧ R.err = 45)) := by
  obtain ⟨h1, h2, h3, h4⟩ := new_state k hk
  refine ⟨_, _, rfl, h1, h2, h3, h4, rfl, ?_⟩
  have hst : Jn.isSt 0 0 0 (0#64) (Jn.read (Dk.new k)).2 := ⟨by simp [h1], by simp [h2], by simp [h3], h4.symm⟩
  have hcl : (Dk.new k).cells.length = k := by simp [Dk.new]
  have hwl : (Dk.new k).writes.length = 0 := rfl
  have hnd : Jn.need p.length ≤ 12 := by unfold Jn.need; omega
  unfold Jn.appR
  rw [if_neg (fun h => h hst), hcl, hwl]
  by_cases hle : Jn.need p.length ≤ k
  · left
    rw [if_neg (by unfold fitsB; rw [Int.toNat_natCast, decide_eq_false_iff_not]; omega)]
    refine ⟨hle, rfl, ?_, ?_, ?_, ?_⟩
    · simp [Jn.St.push, h2]
    · simp [Jn.St.push, h1]
    · simp [Jn.St.push]
    · simp [Jn.app, new_clear, Jn.puts, hwl]
  · right
    rw [if_pos (by unfold fitsB; rw [Int.toNat_natCast, decide_eq_false_iff_not]; omega)]
    exact ⟨by omega, rfl⟩

set_option maxRecDepth 100000 in
set_option maxHeartbeats 1600000 in
theorem parts_walk (n k0 : Int) (w : World) (hn : (Lit.int .i64 n).wf = true) (hk : (Lit.int .i64 k0).wf = true) :
    Calls Try.prog 6 #[.int .i64 n, .int .i64 k0] w fun e w' => e = .returned (.bool true) ∧ Below w.heap.size w w' := by
  obtain ⟨K, hK⟩ : ∃ K : Nat, 2 + k0 % 10 = (K : Int) := ⟨(2 + k0 % 10).toNat, by omega⟩
  obtain ⟨N, hN⟩ : ∃ N : Nat, n % 700 = (N : Int) := ⟨(n % 700).toNat, by omega⟩
  have hK1 : 2 ≤ K ∧ K < 12 := by omega
  have hN1 : N < 700 := by omega
  have hM1 := mod_below k0 10 w hk (by omega) (by omega)
  have hw2 : IntKind.i64.wrap (2 + k0 % 10) = (K : Int) := by rw [IntKind.wrap_i64]; omega
  have HM1 := Lib.hid hM1
  have HM2 := Lib.hid fun w0 => mod_below n 700 w0 hn (by omega) (by omega)
  rw [hN] at HM2
  have hpl : (List.replicate N (0 : UInt8)).length = N := List.length_replicate
  have hzm : (List.replicate N (0 : UInt8)).map byteVal = List.replicate N (.int .u8 0) := by rw [List.map_replicate]; rfl
  obtain ⟨Z, hZ⟩ : ∃ Z : List UInt8, List.replicate N (0 : UInt8) = Z := ⟨_, rfl⟩
  rw [hZ] at hpl hzm
  clear hZ
  obtain ⟨S, R, f1, f2, f3, f4, f5, f6, f7⟩ := parts_facts K hK1.2 Z (by omega)
  rw [hpl] at f7
  have hg := new_good (k := K) (by omega) (by omega)
  have hcl : (Dk.new K).cells.length = K := by simp [Dk.new]
  have hwl : (Dk.new K).writes.length = 0 := rfl
  have HNew := Lib.hid fun w0 => rnew_any K w0 (by omega) (by omega)
  obtain ⟨D, hD⟩ : ∃ D, Dk.new K = D := ⟨_, rfl⟩
  rw [hD] at f1 f6 hg hcl hwl HNew
  have HO := Lib.hid fun A v w0 (h : DiskAt A w0 v D) => open_to v D w0 S f1 h hg
  rw [f2, f3, f4, f5] at HO
  have HA := Lib.hid fun A v w0 (h : JAt A w0 v D ((0 : Nat) : Int) ((0 : Nat) : Int) 0 (0#64)) => append_to v D 0 0 0 (0#64) ⟨Z.toArray⟩ w0 R f6 h hg (by rw [string_size, hpl]; omega)
  have HF := Lib.hid fun A v w0 (h : JAt A w0 v D ((0 : Nat) : Int) ((0 : Nat) : Int) 0 (0#64)) => jfits_any v D 0 0 0 (0#64) (N : Nat) w0 h ⟨by omega, by omega⟩ (by omega) (by omega)
  rw [hcl, hwl] at HF
  obtain ⟨Y, hY⟩ : ∃ Y, Jn.need N = Y := ⟨_, rfl⟩
  have hY12 : Y ≤ 12 := by rw [← hY]; unfold Jn.need; omega
  have hfv : fitsB (N : Nat) K 0 0 = decide (Y ≤ K) := by
    unfold fitsB
    rw [Int.toNat_natCast, hY]
    exact decide_eq_decide.2 (by omega)
  rw [hfv] at HF
  rw [hY] at f7
  have Hf7 := Lib.hid f7
  have hq : IntKind.i64.wrap ((32 + (N : Int) + 64 - 1).tdiv 64) = (Y : Int) := by
    rw [← hY]; unfold Jn.need
    rw [Int.tdiv_eq_ediv_of_nonneg (by omega), IntKind.wrap_i64]; omega
  have hq1 : IntKind.i64.wrap (32 + (N : Int)) = 32 + (N : Int) := by rw [IntKind.wrap_i64]; omega
  have hq2 : IntKind.i64.wrap (32 + (N : Int) + 64) = 32 + (N : Int) + 64 := by rw [IntKind.wrap_i64]; omega
  have hq3 : IntKind.i64.wrap (32 + (N : Int) + 64 - 1) = 32 + (N : Int) + 64 - 1 := by rw [IntKind.wrap_i64]; omega
  have Hb := Lib.hid (ext_refl w)
  clear f1 f2 f3 f4 f5 f6 f7 hg hcl hwl hD hY hfv hM1 hk hn hN hK
  go_enter Try.func6, Try.ntmps6
  go_wp2_with fail
  refine HM1.out.mono ?_
  rintro e w1 ⟨rfl, hb1⟩
  replace Hb := Lib.hid (Hb.out.trans (hb1.mono Hb.out.size))
  clear hb1
  clear HM1
  go_wp2_with fail
  refine (HNew.out w1).mono ?_
  rintro e w2 ⟨v2, rfl, hb2, hd2⟩
  obtain ⟨a1, b1, a2, b2, rfl⟩ := hd2.parts
  clear hw2 HNew
  replace Hb := Lib.hid (Hb.out.trans (hb2.mono Hb.out.size))
  clear hb2
  have HD := Lib.hid hd2
  clear hd2
  unfold newRes
  go_upto_region 3 with fail
  obtain ⟨w3, hwX, HV6x, hbX⟩ := fresh_blk w2 [Value.slice a1 D.cells.length b1, Value.slice a2 D.writes.length b2] 25
  rw [hwX]
  have sz_w3 : w3.heap.size = w2.heap.size + 1 := by rw [← hwX]; simp
  have ge_Hb_g6 := Hb.out.size
  replace Hb := Lib.hid (Hb.out.trans (hbX.mono Hb.out.size))
  replace HD := Lib.hid (HD.out.keep (agree_below hbX))
  have HV6 := Lib.hid HV6x
  obtain ⟨g6, hgX⟩ : ∃ g, g = w2.heap.size := ⟨_, rfl⟩
  rw [← hgX] at HV6 ge_Hb_g6 sz_w3 ⊢
  have g6_le := Nat.le_of_eq hgX
  have g6_ge := Nat.le_of_eq hgX.symm
  clear hgX
  clear hwX HV6x hbX
  have c0 := HV6.out.cells 0
  have c1 := HV6.out.cells 1
  have cl := HV6.out.lt
  simp only [List.getElem?_cons_zero, List.getElem?_cons_succ] at c0 c1
  go_wp2_with fail
  refine (HO.out _ _ w3 HD.out).mono ?_
  rintro e w4 ⟨v4, rfl, hb4, hj4⟩
  clear c0 c1 cl
  clear HD
  obtain ⟨cvX, wvX, rfl, hj4⟩ := hj4
  obtain ⟨a3, b3, a4, b4, hvalX⟩ := DiskAt.parts hj4
  simp only [Value.agg.injEq, Array.mk.injEq, List.cons.injEq, and_true] at hvalX
  obtain ⟨rfl, rfl⟩ := hvalX
  replace Hb := Lib.hid (Hb.out.trans (hb4.mono Hb.out.size))
  replace HV6 := Lib.hid (HV6.out.call hb4)
  clear hb4
  have HJ := Lib.hid hj4
  clear hj4 HO
  unfold jval
  go_upto_region 4 with fail
  obtain ⟨w5, hwX, HV8x, hbX⟩ := fresh_blk w4 [Value.slice a3 D.cells.length b3, Value.slice a4 D.writes.length b4, Value.int .i64 0, Value.int .i64 0, Value.int .i64 0, Value.int .u64 0] 53
  rw [hwX]
  have sz_w5 : w5.heap.size = w4.heap.size + 1 := by rw [← hwX]; simp
  have ge_Hb_g8 := Hb.out.size
  have lt_HV6_g8 : g6 < w4.heap.size := by have h0 := HV6.out.lt; omega
  replace Hb := Lib.hid (Hb.out.trans (hbX.mono Hb.out.size))
  replace HV6 := Lib.hid (HV6.out.call hbX)
  replace HJ := Lib.hid (HJ.out.keep (agree_below hbX))
  have HV8 := Lib.hid HV8x
  obtain ⟨g8, hgX⟩ : ∃ g, g = w4.heap.size := ⟨_, rfl⟩
  rw [← hgX] at HV8 ge_Hb_g8 lt_HV6_g8 sz_w5 ⊢
  have g8_le := Nat.le_of_eq hgX
  have g8_ge := Nat.le_of_eq hgX.symm
  clear hgX
  clear hwX HV8x hbX
  go_wp2_with fail
  refine (HM2.out w5).mono ?_
  rintro e w6 ⟨rfl, hb6⟩
  replace Hb := Lib.hid (Hb.out.trans (hb6.mono Hb.out.size))
  replace HV6 := Lib.hid (HV6.out.call hb6)
  replace HJ := Lib.hid (HJ.out.keep (agree_below hb6))
  replace HV8 := Lib.hid (HV8.out.call hb6)
  clear hb6
  clear HM2
  obtain ⟨w7, hm7, Hrow, hb7, hz7⟩ := make_new (P := Try.prog) 27 5 (.int .u8 0) 1 Try.underlying27 (by kernel_rfl) rfl N (by omega) (by omega) w6
  have s1 := conv_bytes (P := Try.prog) (w := w7) (n := N) (cap := N) Try.underlying27 Try.underlying5 Try.underlying9 (holds_row (A := fun _ => True) (w := w7) (g := w6.heap.size) (cs := Z.map byteVal) (by rw [hzm]; exact Hrow.out) trivial) hpl
  go_upto_region 5 with fail
  replace Hb := Lib.hid (Hb.out.trans (hb7.mono Hb.out.size))
  replace HV6 := Lib.hid (HV6.out.call hb7)
  replace HJ := Lib.hid (HJ.out.keep (agree_below hb7))
  replace HV8 := Lib.hid (HV8.out.call hb7)
  clear hb7
  clear hm7 Hrow hz7 s1
  have hsz : (⟨Z.toArray⟩ : ByteArray).size = N := by rw [string_size, hpl]
  obtain ⟨st, hst⟩ : ∃ st, (⟨Z.toArray⟩ : ByteArray) = st := ⟨_, rfl⟩
  rw [hst] at hsz HA ⊢
  clear hst hpl hzm
  have c0 := HV8.out.cells 0
  have c1 := HV8.out.cells 1
  have c2 := HV8.out.cells 2
  have c3 := HV8.out.cells 3
  have c4 := HV8.out.cells 4
  have c5 := HV8.out.cells 5
  have cl := HV8.out.lt
  simp only [List.getElem?_cons_zero, List.getElem?_cons_succ] at c0 c1 c2 c3 c4 c5
  go_wp2_with fail
  refine (HA.out _ _ w7 ⟨_, _, rfl, HJ.out⟩).mono ?_
  rintro e w8 ⟨v8, rfl, hb8, hj8⟩
  clear HA
  clear c0 c1 c2 c3 c4 c5 cl
  obtain ⟨cvX, wvX, rfl, hj8⟩ := hj8
  obtain ⟨a5, b5, a6, b6, hvalX⟩ := DiskAt.parts hj8
  simp only [Value.agg.injEq, Array.mk.injEq, List.cons.injEq, and_true] at hvalX
  obtain ⟨rfl, rfl⟩ := hvalX
  replace Hb := Lib.hid (Hb.out.trans (hb8.mono Hb.out.size))
  replace HV6 := Lib.hid (HV6.out.call hb8)
  replace HJ := Lib.hid (HJ.out.keep (agree_below hb8))
  replace HV8 := Lib.hid (HV8.out.call hb8)
  clear hb8
  unfold jval
  rcases Hf7.out with ⟨hle, he, hn, hc, hl, hw⟩ | ⟨hlt, he⟩
  · rw [he, hn, hc, hl, hw]
    have hde : decide (Y ≤ K) = true := decide_eq_true hle
    rw [hde] at HF
    have hdi : decide ((Y : Int) ≤ (K : Int)) = true := decide_eq_true (by omega)
    clear he hn hc hl hw Hf7 hde hj8
    go_upto_region 7 with fail
    obtain ⟨w9, hwX, HV11x, hbX⟩ := fresh_blk w8 [Value.slice a5 R.disk.cells.length b5, Value.slice a6 Y b6, Value.int .i64 1, Value.int .i64 Y, Value.int .i64 (32 + (N : Int)), Value.int .u64 R.sum.toNat] 53
    rw [hwX]
    have sz_w9 : w9.heap.size = w8.heap.size + 1 := by rw [← hwX]; simp
    have ge_Hb_g11 := Hb.out.size
    have lt_HV6_g11 : g6 < w8.heap.size := by have h0 := HV6.out.lt; omega
    have lt_HV8_g11 : g8 < w8.heap.size := by have h0 := HV8.out.lt; omega
    replace Hb := Lib.hid (Hb.out.trans (hbX.mono Hb.out.size))
    replace HV6 := Lib.hid (HV6.out.call hbX)
    replace HJ := Lib.hid (HJ.out.keep (agree_below hbX))
    replace HV8 := Lib.hid (HV8.out.call hbX)
    have HV11 := Lib.hid HV11x
    obtain ⟨g11, hgX⟩ : ∃ g, g = w8.heap.size := ⟨_, rfl⟩
    rw [← hgX] at HV11 ge_Hb_g11 lt_HV6_g11 lt_HV8_g11 sz_w9 ⊢
    have g11_le := Nat.le_of_eq hgX
    have g11_ge := Nat.le_of_eq hgX.symm
    clear hgX
    clear hwX HV11x hbX
    have c0 := HV8.out.cells 0
    have c1 := HV8.out.cells 1
    have c2 := HV8.out.cells 2
    have c3 := HV8.out.cells 3
    have c4 := HV8.out.cells 4
    have c5 := HV8.out.cells 5
    have cl := HV8.out.lt
    simp only [List.getElem?_cons_zero, List.getElem?_cons_succ] at c0 c1 c2 c3 c4 c5
    go_wp2_with fail
    refine (HF.out _ _ w9 ⟨_, _, rfl, HJ.out⟩).mono ?_
    rintro e w10 ⟨rfl, hb10⟩
    clear c0 c1 c2 c3 c4 c5 cl
    replace Hb := Lib.hid (Hb.out.trans (hb10.mono Hb.out.size))
    replace HV6 := Lib.hid (HV6.out.call hb10)
    replace HJ := Lib.hid (HJ.out.keep (agree_below hb10))
    replace HV8 := Lib.hid (HV8.out.call hb10)
    replace HV11 := Lib.hid (HV11.out.call hb10)
    clear hb10
    have c0 := HV11.out.cells 0
    have c1 := HV11.out.cells 1
    have c2 := HV11.out.cells 2
    have c3 := HV11.out.cells 3
    have c4 := HV11.out.cells 4
    have c5 := HV11.out.cells 5
    have cl := HV11.out.lt
    simp only [List.getElem?_cons_zero, List.getElem?_cons_succ] at c0 c1 c2 c3 c4 c5
    go_wp2_with fail
    refine (jawake_any w10).mono ?_
    rintro e w11 ⟨rfl, hb11⟩
    clear c0 c1 c2 c3 c4 c5 cl
    replace Hb := Lib.hid (Hb.out.trans (hb11.mono Hb.out.size))
    replace HV6 := Lib.hid (HV6.out.call hb11)
    replace HJ := Lib.hid (HJ.out.keep (agree_below hb11))
    replace HV8 := Lib.hid (HV8.out.call hb11)
    replace HV11 := Lib.hid (HV11.out.call hb11)
    clear hb11
    go_wp2_with fail
    go_ret
    exact ⟨rfl, Hb.out⟩
  · rw [he]
    have hde : decide (Y ≤ K) = false := decide_eq_false (by omega)
    rw [hde] at HF
    have hdi : decide ((Y : Int) ≤ (K : Int)) = false := decide_eq_false (by omega)
    have hnle : ¬ Y ≤ K := by omega
    clear he Hf7 hlt hde hj8
    go_upto_region 7 with fail
    obtain ⟨w9, hwX, HV11x, hbX⟩ := fresh_blk w8 [Value.slice a5 R.disk.cells.length b5, Value.slice a6 R.disk.writes.length b6, Value.int .i64 R.count, Value.int .i64 R.next, Value.int .i64 R.len, Value.int .u64 R.sum.toNat] 53
    rw [hwX]
    have sz_w9 : w9.heap.size = w8.heap.size + 1 := by rw [← hwX]; simp
    have ge_Hb_g11 := Hb.out.size
    have lt_HV6_g11 : g6 < w8.heap.size := by have h0 := HV6.out.lt; omega
    have lt_HV8_g11 : g8 < w8.heap.size := by have h0 := HV8.out.lt; omega
    replace Hb := Lib.hid (Hb.out.trans (hbX.mono Hb.out.size))
    replace HV6 := Lib.hid (HV6.out.call hbX)
    replace HJ := Lib.hid (HJ.out.keep (agree_below hbX))
    replace HV8 := Lib.hid (HV8.out.call hbX)
    have HV11 := Lib.hid HV11x
    obtain ⟨g11, hgX⟩ : ∃ g, g = w8.heap.size := ⟨_, rfl⟩
    rw [← hgX] at HV11 ge_Hb_g11 lt_HV6_g11 lt_HV8_g11 sz_w9 ⊢
    have g11_le := Nat.le_of_eq hgX
    have g11_ge := Nat.le_of_eq hgX.symm
    clear hgX
    clear hwX HV11x hbX
    have c0 := HV8.out.cells 0
    have c1 := HV8.out.cells 1
    have c2 := HV8.out.cells 2
    have c3 := HV8.out.cells 3
    have c4 := HV8.out.cells 4
    have c5 := HV8.out.cells 5
    have cl := HV8.out.lt
    simp only [List.getElem?_cons_zero, List.getElem?_cons_succ] at c0 c1 c2 c3 c4 c5
    go_wp2_with fail
    refine (HF.out _ _ w9 ⟨_, _, rfl, HJ.out⟩).mono ?_
    rintro e w10 ⟨rfl, hb10⟩
    clear c0 c1 c2 c3 c4 c5 cl
    replace Hb := Lib.hid (Hb.out.trans (hb10.mono Hb.out.size))
    replace HV6 := Lib.hid (HV6.out.call hb10)
    replace HJ := Lib.hid (HJ.out.keep (agree_below hb10))
    replace HV8 := Lib.hid (HV8.out.call hb10)
    replace HV11 := Lib.hid (HV11.out.call hb10)
    clear hb10
    go_wp2_with fail
    refine (jawake_any w10).mono ?_
    rintro e w11 ⟨rfl, hb11⟩
    replace Hb := Lib.hid (Hb.out.trans (hb11.mono Hb.out.size))
    replace HV6 := Lib.hid (HV6.out.call hb11)
    replace HJ := Lib.hid (HJ.out.keep (agree_below hb11))
    replace HV8 := Lib.hid (HV8.out.call hb11)
    replace HV11 := Lib.hid (HV11.out.call hb11)
    clear hb11
    go_wp2_with fail
    go_ret
    exact ⟨rfl, Hb.out⟩
end Go.Proofs.Ythpjhmgmjfmgcaa
