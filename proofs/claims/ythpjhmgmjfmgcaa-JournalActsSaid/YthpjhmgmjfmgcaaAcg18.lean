import Derived.Test.YthpjhmgmjfmgcaaAcg17
/- Journals: the reference's stands. -/
namespace Go.Proofs.Ythpjhmgmjfmgcaa
open Go.ChangeShapes Go.WideShapes Go.RowKit

theorem str_ext (l : List UInt8) (a b : Nat) : (⟨l.toArray⟩ : ByteArray).extract a b = ⟨((l.take b).drop a).toArray⟩ := by
  apply ByteArray.ext
  apply Array.ext'
  have := extract_list ⟨l.toArray⟩ a b
  simpa using this
theorem cat_str2 (a b : List UInt8) : (⟨a.toArray⟩ ++ ⟨b.toArray⟩ : ByteArray) = ⟨(a ++ b).toArray⟩ := by apply ByteArray.ext; simp
theorem rchain_to (n : Int) (c : BitVec 64) (s : ByteArray) (N : Int) (C : BitVec 64) (w : World) (hs : s.size ≤ 1000000) (h : chained n c s = dval N C) :
    Calls Try.prog 60 #[dval n c, .string s] w fun e w' => e = .returned (dval N C) ∧ Below w.heap.size w w' := by
  rw [← h]; exact rchain_any n c s w hs
theorem rdnum_to (s : ByteArray) (l : List UInt8) (w : World) (hl : s = ⟨l.toArray⟩) (hs : l.length = 8) :
    Calls Try.prog 65 #[.string s] w fun e w' => e = .returned (.int .u64 (Dg.rd l)) ∧ w = w' := by
  subst hl
  have h := rdnum_any ⟨l.toArray⟩ w (by rw [string_size]; exact hs)
  simpa using h
theorem byte_of (n k : Nat) (b : UInt8) (h : n / 2 ^ k % 256 = b.toNat) : UInt8.ofNat (n / 2 ^ k) = b := by
  apply UInt8.toNat_inj.1
  rw [UInt8.toNat_ofNat']
  exact h
theorem bs8_rd (l : List UInt8) (h : l.length = 8) : Dg.bs8 (Dg.rd l) = l := by
  match l, h with
  | [a, b, c, d, e, f, g, i], _ =>
    have ha := a.toNat_lt
    have hb := b.toNat_lt
    have hc := c.toNat_lt
    have hd := d.toNat_lt
    have he := e.toNat_lt
    have hf := f.toNat_lt
    have hg := g.toNat_lt
    have hi := i.toNat_lt
    have hr : Dg.rd [a, b, c, d, e, f, g, i] = ((((((a.toNat * 256 + b.toNat) * 256 + c.toNat) * 256 + d.toNat) * 256 + e.toNat) * 256 + f.toNat) * 256 + g.toNat) * 256 + i.toNat := by simp [Dg.rd]
    unfold Dg.bs8
    rw [hr]
    simp only [List.range_succ, List.range_zero, List.nil_append, List.map_append, List.map_cons, List.map_nil, List.cons_append, Dg.byteAt]
    refine congr (congrArg _ (byte_of _ _ _ (by omega))) (congr (congrArg _ (byte_of _ _ _ (by omega))) (congr (congrArg _ (byte_of _ _ _ (by omega))) (congr (congrArg _ (byte_of _ _ _ (by omega))) (congr (congrArg _ (byte_of _ _ _ (by omega))) (congr (congrArg _ (byte_of _ _ _ (by omega))) (congr (congrArg _ (byte_of _ _ _ (by omega))) (congr (congrArg _ (byte_of _ _ _ (by omega))) rfl)))))))

set_option maxRecDepth 100000 in
set_option maxHeartbeats 1600000 in
theorem rstands_any {A : Nat → Prop} (v : Value) (D : Dk.Dsk) (at_ cnt : Nat) (X C len : Int) (sum : BitVec 64) (w : World) (hX : X = at_) (hC : C = cnt) (hv : DiskAt A w v D) (hD : Dk.Good D) (hat : at_ ≤ D.cells.length) (hc : cnt ≤ 1000000) :
    Calls Try.prog 50 #[v, .int .i64 X, .int .i64 C, dval len sum] w fun e w' => ∃ u, e = .returned u ∧ standsRes (Jn.from D at_) (cnt + 1) len sum u ∧ Below w.heap.size w w' := by
  subst hX hC
  obtain ⟨p, c, p2, c2, rfl⟩ := hv.parts
  obtain ⟨b, hb⟩ : ∃ b, Jn.from D at_ = b := ⟨_, rfl⟩
  have hbl : b.length = 64 * (D.cells.length - at_) := by rw [← hb]; unfold Jn.from; rw [List.length_drop, Jn.img_length hD]; omega
  have hby := fun (n : Nat) (N : Int) (hN : N = n) (hn : n ≤ 100000) (w0 : World) (h : DiskAt (· < w.heap.size) w0 (.agg #[.slice p D.cells.length c, .slice p2 D.writes.length c2]) D) => rbytes37_any _ D at_ n (at_ : Int) N w0 rfl hN h hD hat hn
  rw [hb] at hby ⊢
  have hm1 := hD.few
  obtain ⟨m, hm⟩ : ∃ m, D.cells.length = m := ⟨_, rfl⟩
  obtain ⟨m2, hm2⟩ : ∃ m, D.writes.length = m := ⟨_, rfl⟩
  rw [hm] at hbl hat hm1
  have Hvd := Lib.hid (hv.lt.mono (B := (· < w.heap.size)) fun g hg => hg.2)
  have Hby := Lib.hid hby
  rw [hm, hm2] at Hvd Hby ⊢
  have Hbl := Lib.hid hbl
  have Hc := Lib.hid hc
  have Hb := Lib.hid (ext_refl w)
  clear hm hm2 hD hv hby hb hbl hc
  unfold dval
  go_enter Try.func50, Try.ntmps50
  go_upto_region 1 with fail
  obtain ⟨w1, hwX, HV4x, hbX⟩ := fresh_blk w [Value.slice p m c, Value.slice p2 m2 c2] 25
  rw [hwX]
  have sz_w1 : w1.heap.size = w.heap.size + 1 := by rw [← hwX]; simp
  replace Hvd := Lib.hid (Hvd.out.keep (agree_below hbX))
  replace Hb := Lib.hid (Hb.out.trans (hbX.mono Hb.out.size))
  have HV4 := Lib.hid HV4x
  clear hwX HV4x hbX
  obtain ⟨w2, hwX, HV7x, hbX⟩ := fresh_blk w1 [Value.int .i64 len, Value.int .u64 sum.toNat] 51
  rw [hwX]
  rw [sz_w1] at HV7x
  have sz_w2 : w2.heap.size = w.heap.size+1 + 1 := by rw [← hwX]; simp [sz_w1]
  replace Hvd := Lib.hid (Hvd.out.keep (agree_below hbX))
  replace Hb := Lib.hid (Hb.out.trans (hbX.mono Hb.out.size))
  replace HV4 := Lib.hid (HV4.out.call hbX)
  have HV7 := Lib.hid HV7x
  clear hwX HV7x hbX
  obtain ⟨w3, hwX, HV9x, hbX⟩ := fresh_blk w2 [Value.int .i64 0, Value.int .u64 0] 51
  rw [hwX]
  rw [sz_w2] at HV9x
  have sz_w3 : w3.heap.size = w.heap.size+1+1 + 1 := by rw [← hwX]; simp [sz_w2]
  replace Hvd := Lib.hid (Hvd.out.keep (agree_below hbX))
  replace Hb := Lib.hid (Hb.out.trans (hbX.mono Hb.out.size))
  replace HV4 := Lib.hid (HV4.out.call hbX)
  replace HV7 := Lib.hid (HV7.out.call hbX)
  have HV9 := Lib.hid HV9x
  clear hwX HV9x hbX
  clear sz_w1 sz_w2 sz_w3
  have c0 := HV4.out.cells 0
  have c1 := HV4.out.cells 1
  have cl := HV4.out.lt
  simp only [List.getElem?_cons_zero, List.getElem?_cons_succ] at c0 c1
  go_wp2_with fail
  refine (Hby.out 32 32 rfl (by omega) w3 Hvd.out).mono ?_
  rintro e w4 ⟨rfl, hb4⟩
  clear c0 c1 cl
  replace Hvd := Lib.hid (Hvd.out.keep (agree_below hb4))
  replace Hb := Lib.hid (Hb.out.trans (hb4.mono Hb.out.size))
  replace HV4 := Lib.hid (HV4.out.call hb4)
  replace HV7 := Lib.hid (HV7.out.call hb4)
  replace HV9 := Lib.hid (HV9.out.call hb4)
  clear hb4
  by_cases ham : at_ = m
  · have hb0 : b = [] := List.eq_nil_of_length_eq_zero (by rw [Hbl.out]; omega)
    subst hb0
    rw [List.take_nil]
    have hsz : (⟨([] : List UInt8).toArray⟩ : ByteArray).size = 0 := rfl
    have Hno : Hid (Jn.stands [] (cnt + 1) len sum = none) := by
      show Jn.stands [] (cnt + 1) len sum = none
      unfold Jn.stands
      rw [if_pos (by decide)]
    clear hm1 hat Hbl Hby
    have i0 := HV9.out.cells 0
    have i1 := HV9.out.cells 1
    have if0 := HV9.out.frozen 0
    have if1 := HV9.out.frozen 1
    have il := HV9.out.lt
    simp only [List.getElem?_cons_zero, List.getElem?_cons_succ] at i0 i1
    have hkS : Agree (· ≠ (w.heap.size+1+1)) w4 ((w4.setCell ⟨(w.heap.size+1+1), 0, none⟩ (.int .i64 0)).setCell ⟨(w.heap.size+1+1), 1, none⟩ (.int .u64 0)) := ((agree_at _ (w.heap.size+1+1) 0 (.int .i64 0)).trans (by simp [World.setCell]) (agree_at _ (w.heap.size+1+1) 1 (.int .u64 0)))
    have hzS : w4.heap.size ≤ ((w4.setCell ⟨(w.heap.size+1+1), 0, none⟩ (.int .i64 0)).setCell ⟨(w.heap.size+1+1), 1, none⟩ (.int .u64 0)).heap.size := by simp [World.setCell]
    replace Hvd := Lib.hid (Hvd.out.keep (hkS.mono fun g hg => by omega))
    replace Hb := Lib.hid ((Hb.out.setCell (p := ⟨(w.heap.size+1+1), 0, none⟩) (by show _ ≤ (w.heap.size+1+1); omega) (.int .i64 0)).setCell (p := ⟨(w.heap.size+1+1), 1, none⟩) (by show _ ≤ (w.heap.size+1+1); omega) (.int .u64 0))
    replace HV4 := Lib.hid (HV4.out.keep hkS hzS (by omega))
    replace HV7 := Lib.hid (HV7.out.keep hkS hzS (by omega))
    replace HV9 := Lib.hid ((HV9.out.set 0 (.int .i64 0) (by simp)).set 1 (.int .u64 0) (by simp))
    simp only [List.set_cons_zero, List.set_cons_succ] at HV9
    clear hkS hzS
    go_wp2_with fail
    clear i0 i1 if0 if1 il
    generalize hwf : ((w4.setCell ⟨(w.heap.size+1+1), 0, none⟩ (.int .i64 0)).setCell ⟨(w.heap.size+1+1), 1, none⟩ (.int .u64 0)) = w5 at *
    clear hwf
    have i0 := HV9.out.cells 0
    have i1 := HV9.out.cells 1
    have il := HV9.out.lt
    simp only [List.getElem?_cons_zero, List.getElem?_cons_succ] at i0 i1
    refine bodyPost_ret (v := .tuple #[.string ⟨#[]⟩, .agg #[.int .i64 0, .int .u64 0], .bool false]) (by simp [results, Try.results50, go_sem, i0, i1, il]) rfl ⟨_, rfl, ?_, Hb.out⟩
    unfold standsRes
    rw [Hno.out]
    exact ⟨⟨#[]⟩, 0, 0#64, rfl⟩
  ·
    have hbl := Hbl.out
    have hb64 : 64 ≤ b.length := by omega
    have hbu : b.length ≤ 65536 := by omega
    obtain ⟨X, hX⟩ : ∃ X, (⟨(b.take 32).toArray⟩ : ByteArray) = X := ⟨_, rfl⟩
    have hXs : X.size = 32 := by rw [← hX, string_size, List.length_take]; omega
    have hx8 := str_ext (b.take 32) 0 8
    have hx16 := str_ext (b.take 32) 8 16
    have hxf := str_ext (b.take 32) 0 16
    have hxe := str_ext (b.take 32) 16 32
    rw [List.take_take, List.drop_zero, hX, show min 8 32 = 8 from rfl] at hx8
    rw [List.take_take, hX, show min 16 32 = 16 from rfl] at hx16
    rw [List.take_take, List.drop_zero, hX, show min 16 32 = 16 from rfl] at hxf
    rw [List.take_take, hX, show min 32 32 = 32 from rfl] at hxe
    rw [hX]
    obtain ⟨X8, hX8⟩ : ∃ X, (⟨(b.take 8).toArray⟩ : ByteArray) = X := ⟨_, rfl⟩
    obtain ⟨X16, hX16⟩ : ∃ X, (⟨((b.take 16).drop 8).toArray⟩ : ByteArray) = X := ⟨_, rfl⟩
    obtain ⟨XF, hXF⟩ : ∃ X, (⟨(b.take 16).toArray⟩ : ByteArray) = X := ⟨_, rfl⟩
    obtain ⟨XE, hXE⟩ : ∃ X, (⟨((b.take 32).drop 16).toArray⟩ : ByteArray) = X := ⟨_, rfl⟩
    rw [hX8] at hx8
    rw [hX16] at hx16
    rw [hXF] at hxf
    rw [hXE] at hxe
    obtain ⟨x8, hr8⟩ : ∃ x, Dg.rd (b.take 8) = x := ⟨_, rfl⟩
    obtain ⟨y, hry⟩ : ∃ x, Dg.rd ((b.take 16).drop 8) = x := ⟨_, rfl⟩
    have HR8 := Lib.hid fun w0 => rdnum_to X8 (b.take 8) w0 hX8.symm (by rw [List.length_take]; omega)
    have HRy := Lib.hid fun w0 => rdnum_to X16 ((b.take 16).drop 8) w0 hX16.symm (by rw [List.length_drop, List.length_take]; omega)
    rw [hr8] at HR8
    rw [hry] at HRy
    have hdt : (b.take 16).drop 8 = (b.drop 8).take 8 := by rw [List.drop_take]
    have hyl : y < 18446744073709551616 := by rw [← hry, hdt]; exact rd8_lt _
    have Hyl := Lib.hid hyl
    clear hyl
    have Hr8 := Lib.hid hr8
    have Hry := Lib.hid (show Dg.rd ((b.drop 8).take 8) = y by rw [← hdt]; exact hry)
    have HXF := Lib.hid hXF
    have HXE := Lib.hid hXE
    have hXFs : XF.size = 16 := by rw [← hXF, string_size, List.length_take]; omega
    obtain ⟨N, hN⟩ : ∃ N, b.length = N := ⟨_, rfl⟩
    rw [hN] at hbl hb64 hbu
    have HN := Lib.hid hN
    have hat2 : at_ < m := by omega
    clear hX hX8 hX16 hXF hXE hr8 hry hdt Hbl hN ham hat
    have hw1 : IntKind.i64.wrap ((cnt : Int) + 1) = (cnt : Int) + 1 := by have := Hc.out; rw [IntKind.wrap_i64]; omega
    have hw2 : IntKind.u64.wrap ((cnt : Int) + 1) = (cnt : Int) + 1 := by have := Hc.out; rw [IntKind.wrap_u64]; omega
    go_wp2_with fail
    refine (HR8.out w4).mono ?_
    rintro e w5 ⟨rfl, rfl⟩
    clear HR8
    by_cases hxc : x8 = cnt + 1
    · have e1 : ((x8 : Int) != (cnt : Int) + 1) = false := by rw [bne_eq_false_iff_eq]; omega
      have Hxc := Lib.hid hxc
      clear hxc
      go_wp2_with fail
      refine (HRy.out w4).mono ?_
      rintro e w5 ⟨rfl, rfl⟩
      clear HRy e1 hw1 hw2
      by_cases hyn : y ≤ N - 32
      · have hwy : wrap64 (y : Int) = (y : Int) := wrap64_small y (by omega)
        have hy7 : y < 70000 := by omega
        have d2 : decide ((y : Int) < 0) = false := decide_eq_false (by omega)
        have d3 : decide ((y : Int) > ((m : Int) - (at_ : Int)) * 64 - 32) = false := decide_eq_false (by omega)
        have d3' : decide (((m : Int) - (at_ : Int)) * 64 - 32 < (y : Int)) = false := decide_eq_false (by omega)
        have hw32 : IntKind.i64.wrap (32 + (y : Int)) = 32 + (y : Int) := by rw [IntKind.wrap_i64]; omega
        have c0 := HV4.out.cells 0
        have c1 := HV4.out.cells 1
        have cl := HV4.out.lt
        simp only [List.getElem?_cons_zero, List.getElem?_cons_succ] at c0 c1
        have hwm1 : IntKind.i64.wrap ((m : Int) - (at_ : Int)) = (m : Int) - (at_ : Int) := by rw [IntKind.wrap_i64]; omega
        have hwm2 : IntKind.i64.wrap (((m : Int) - (at_ : Int)) * 64) = ((m : Int) - (at_ : Int)) * 64 := by rw [IntKind.wrap_i64]; omega
        have hwm3 : IntKind.i64.wrap (((m : Int) - (at_ : Int)) * 64 - 32) = ((m : Int) - (at_ : Int)) * 64 - 32 := by rw [IntKind.wrap_i64]; omega
        have hwy : wrap64 (y : Int) = (y : Int) := wrap64_small y (Nat.lt_trans hy7 (by decide))
        go_wp2_with fail
        clear hwm1 hwm2 hwm3 hwy d2 d3 d3'
        refine (Hby.out (32 + y) (32 + (y : Int)) (by omega) (by omega) w4 Hvd.out).mono ?_
        rintro e w5 ⟨rfl, hb5⟩
        clear c0 c1 cl
        replace Hvd := Lib.hid (Hvd.out.keep (agree_below hb5))
        replace Hb := Lib.hid (Hb.out.trans (hb5.mono Hb.out.size))
        replace HV4 := Lib.hid (HV4.out.call hb5)
        replace HV7 := Lib.hid (HV7.out.call hb5)
        replace HV9 := Lib.hid (HV9.out.call hb5)
        clear hb5
        clear hw32 Hby
        obtain ⟨q, hq⟩ : ∃ q, (b.drop 32).take y = q := ⟨_, rfl⟩
        have hql : q.length = y := by rw [← hq, List.length_take, List.length_drop, HN.out]; omega
        have hqe := str_ext (b.take (32 + y)) 32 (32 + y)
        rw [List.take_take, Nat.min_self, show (b.take (32 + y)).drop 32 = q from by rw [← hq, List.drop_take, Nat.add_sub_cancel_left]] at hqe
        have hqs : (⟨(b.take (32 + y)).toArray⟩ : ByteArray).size = 32 + y := by rw [string_size, List.length_take, HN.out]; omega
        obtain ⟨Z, hZ⟩ : ∃ Z, (⟨(b.take (32 + y)).toArray⟩ : ByteArray) = Z := ⟨_, rfl⟩
        obtain ⟨P, hP⟩ : ∃ P, (⟨q.toArray⟩ : ByteArray) = P := ⟨_, rfl⟩
        rw [hZ] at hqe hqs ⊢
        rw [hP] at hqe
        have hPs : P.size = y := by rw [← hP, string_size, hql]
        have Hq := Lib.hid hq
        have HP := Lib.hid hP
        have Hql := Lib.hid hql
        clear hq hZ hP hql
        go_upto_region 8 with fail
        have hcat : (9223372036854775807 < 16 + y) = False := eq_false (by omega)
        have hcl : (XF ++ P).size ≤ 1000000 := by rw [ByteArray.size_append, hXFs, hPs]; omega
        obtain ⟨mk, hmk⟩ : ∃ k, Jn.mark len sum (cnt + 1) q = k := ⟨_, rfl⟩
        have Hmk := Lib.hid hmk
        have hch : chained len sum (XF ++ P) = dval (32 + (y : Int)) mk := by
          unfold chained
          rw [ByteArray.size_append, hXFs, hPs, ← hmk]
          have hd : (XF ++ P).data.toList = Jn.first (cnt + 1) q.length ++ q := by
            rw [← HXF.out, ← HP.out, cat_str2]
            show b.take 16 ++ q = _
            have h8 : (b.take 8).length = 8 := by rw [List.length_take, HN.out]; omega
            have h88 : ((b.drop 8).take 8).length = 8 := by rw [List.length_take, List.length_drop, HN.out]; omega
            have e1 := bs8_rd _ h8
            have e2 := bs8_rd _ h88
            rw [Hr8.out, Hxc.out] at e1
            rw [Hry.out] at e2
            unfold Jn.first
            rw [Hql.out, e1, e2, show b.take 16 = b.take 8 ++ (b.drop 8).take 8 from List.take_add (i := 8) (j := 8)]
          rw [hd]
          unfold Jn.mark
          congr 1
          omega
        clear hmk
        have c0 := HV7.out.cells 0
        have c1 := HV7.out.cells 1
        have cl := HV7.out.lt
        simp only [List.getElem?_cons_zero, List.getElem?_cons_succ] at c0 c1
        refine Lx.region1 Lx.below_steps [(0, true), (1, true), (2, true), (3, true), (4, true), (5, false)] [] [(7, false)] 6 _ (fun w' => (∀ b o, b < w5.heap.size → w'.cell? ⟨b, o, none⟩ = w5.cell? ⟨b, o, none⟩) ∧ (∀ b o, b < w5.heap.size → w'.frozen? ⟨b, o, none⟩ = w5.frozen? ⟨b, o, none⟩) ∧ Below w5.heap.size w5 w') (NewBlk w5.heap.size 51 [Value.int .i64 0, Value.int .u64 0]) (by kernel_rfl) (by kernel_rfl) rfl (fun _ _ _ _ _ h => h) (fun _ _ _ _ _ h => h) (fun _ h => held_below h) (fun _ _ h hb => held_call h hb) (fun _ _ _ h hb => h.call hb) (fun a w1 h => new_alloc (z := (Value.agg #[.int .i64 0, .int .u64 0])) (by rfl) (by kernel_rfl) h.2.2) ?_; intro xa hbxa; replace hbxa : Below w5.heap.size w5 xa := hbxa; simp only [Lx.pick, List.filterMap_cons, List.filterMap_nil, List.getElem?_cons_succ, List.getElem?_cons_zero, List.map_cons, List.map_nil, List.cons_append, List.nil_append]; have hSxa := held_below hbxa
        repeat (first | (refine Lx.takeY ?_ (by rfl) ?_ (by assumption) ?_; rotate_left; (focus (intro w' hSw; (try dsimp only at hSw); go_simp; (try with_reducible rfl))); simp only [Act.put, List.setIfInBounds_toArray, List.set_cons_zero, List.set_cons_succ]) | (refine Lx.takeN (by rfl) (by assumption) ?_; simp only [Act.put, List.setIfInBounds_toArray, List.set_cons_zero, List.set_cons_succ]))
        refine Lx.go ?_; intro K hK; go_simp; go_at_call 60; refine (rchain_to len sum (XF ++ P) (32 + (y : Int)) mk xa hcl hch).mono ?_; rintro e w0xb ⟨rfl, hb0xb⟩; refine hK _ _ hb0xb ?_; clear hK K; intro wxb hbxb; replace hbxb : Below w0xb.heap.size w0xb wxb := hbxb; have hSxb := held_call (held_call hSxa hb0xb) hbxb; try simp only [Act.put, List.setIfInBounds_toArray, List.set_cons_zero, List.set_cons_succ]
        refine Lx.tail ?_
        intro vv hv
        obtain ⟨g14, rfl, hg14, BN, _⟩ := hv
        simp only [Act.put, List.setIfInBounds_toArray, List.set_cons_zero, List.set_cons_succ]
        unfold dval
        have hx5 := hSxb.2.2
        clear c0 c1 cl
        have HV14 := Lib.hid BN
        have hw5 : w.heap.size + 1 + 1 < w5.heap.size := HV9.out.lt
        replace Hvd := Lib.hid (Hvd.out.keep (agree_below hx5))
        replace Hb := Lib.hid (Hb.out.trans (hx5.mono Hb.out.size))
        replace HV4 := Lib.hid (HV4.out.call hx5)
        replace HV7 := Lib.hid (HV7.out.call hx5)
        replace HV9 := Lib.hid (HV9.out.call hx5)
        clear hx5
        clear hSxa hSxb hbxa hbxb hb0xb BN hcat hcl hch
        have c0 := HV14.out.cells 0
        have c1 := HV14.out.cells 1
        have cf0 := HV14.out.frozen 0
        have cf1 := HV14.out.frozen 1
        have cl := HV14.out.lt
        simp only [List.getElem?_cons_zero, List.getElem?_cons_succ] at c0 c1
        have hkS : Agree (· ≠ g14) wxb ((wxb.setCell ⟨g14, 0, none⟩ (.int .i64 (32 + (y : Int)))).setCell ⟨g14, 1, none⟩ (.int .u64 mk.toNat)) := ((agree_at _ g14 0 (.int .i64 (32 + (y : Int)))).trans (by simp [World.setCell]) (agree_at _ g14 1 (.int .u64 mk.toNat)))
        have hzS : wxb.heap.size ≤ ((wxb.setCell ⟨g14, 0, none⟩ (.int .i64 (32 + (y : Int)))).setCell ⟨g14, 1, none⟩ (.int .u64 mk.toNat)).heap.size := by simp [World.setCell]
        replace Hvd := Lib.hid (Hvd.out.keep (hkS.mono fun g hg => by omega))
        replace Hb := Lib.hid ((Hb.out.setCell (p := ⟨g14, 0, none⟩) (by show _ ≤ g14; omega) (.int .i64 (32 + (y : Int)))).setCell (p := ⟨g14, 1, none⟩) (by show _ ≤ g14; omega) (.int .u64 mk.toNat))
        replace HV4 := Lib.hid (HV4.out.keep hkS hzS (by omega))
        replace HV7 := Lib.hid (HV7.out.keep hkS hzS (by omega))
        replace HV9 := Lib.hid (HV9.out.keep hkS hzS (by omega))
        replace HV14 := Lib.hid ((HV14.out.set 0 (.int .i64 (32 + (y : Int))) (by simp)).set 1 (.int .u64 mk.toNat) (by simp))
        simp only [List.set_cons_zero, List.set_cons_succ] at HV14
        clear hkS hzS
        go_upto_region 9 with fail
        clear c0 c1 cf0 cf1 cl
        generalize hwf : ((wxb.setCell ⟨g14, 0, none⟩ (.int .i64 (32 + (y : Int)))).setCell ⟨g14, 1, none⟩ (.int .u64 mk.toNat)) = w6 at *
        clear hwf
        have hXE := HXE.out
        subst hXE
        have Hr17 : Hid ((b.drop 16).take 16 = (b.take 32).drop 16) := by show _ = _; rw [List.drop_take]
        generalize hr17 : (b.take 32).drop 16 = r17 at *
        clear hr17
        have q1 := str_same (Dg.bsOf (32 + (y : Int)) mk) r17
        have hne14 : g14 ≠ w.heap.size + 1 + 1 := by omega
        have d0 := HV14.out.cells 0
        have d1 := HV14.out.cells 1
        have dl := HV14.out.lt
        simp only [List.getElem?_cons_zero, List.getElem?_cons_succ] at d0 d1
        refine Ls.region (Ls.pair (w.heap.size + 1 + 1)) [8] [(0, 0), (1, 0), (2, 0), (4, 1), (5, 1), (3, 2), (6, 1), (7, 0), (8, 3)] [(9, false)] (fun w' => (∀ b o, b < w6.heap.size → w'.cell? ⟨b, o, none⟩ = w6.cell? ⟨b, o, none⟩) ∧ (∀ b o, b < w6.heap.size → w'.frozen? ⟨b, o, none⟩ = w6.frozen? ⟨b, o, none⟩) ∧ Below w6.heap.size w6 w') (by kernel_rfl) (by kernel_rfl) (fun _ _ _ _ _ h => h) (fun _ _ h hb => held_call h hb) ?_; intro ya hbya; replace hbya : Below w6.heap.size w6 ya := hbya; simp only [Ls.pick, Lx.pick, List.filterMap_cons, List.filterMap_nil, List.getElem?_cons_succ, List.getElem?_cons_zero, List.map_cons, List.map_nil]; have hSya := held_below hbya
        replace Hvd := Lib.hid (Hvd.out.keep (agree_below hbya))
        replace Hb := Lib.hid (Hb.out.trans (hbya.mono Hb.out.size))
        replace HV4 := Lib.hid (HV4.out.call hbya)
        replace HV7 := Lib.hid (HV7.out.call hbya)
        replace HV9 := Lib.hid (HV9.out.call hbya)
        replace HV14 := Lib.hid (HV14.out.call hbya)
        have c0 := HV14.out.cells 0
        have c1 := HV14.out.cells 1
        have cl := HV14.out.lt
        simp only [List.getElem?_cons_zero, List.getElem?_cons_succ] at c0 c1
        repeat (first | (refine Ls.takeY ?_ (by rfl) ?_ (by assumption) ?_; rotate_left; (focus (intro w' hSw; (try dsimp only at hSw); go_simp; (try with_reducible rfl))); simp only [Act.put, List.setIfInBounds_toArray, List.set_cons_zero, List.set_cons_succ]) | (refine Ls.takeN (by rfl) (by assumption) ?_; simp only [Act.put, List.setIfInBounds_toArray, List.set_cons_zero, List.set_cons_succ]) | (refine Ls.takeT ?_ (by rfl) ?_ ?_; rotate_left; (focus (intro w' hRw; (try dsimp only at hRw); have hSw := but_held hRw; go_simp; (try with_reducible rfl))); simp only [Act.put, List.setIfInBounds_toArray, List.set_cons_zero, List.set_cons_succ]))
        refine Ls.go ?_; intro K hK; go_simp; go_at_call 61; refine (rbytes_any _ _ _).mono ?_; rintro e w0yb ⟨rfl, hb0yb⟩; refine hK _ _ hb0yb ?_; clear hK K; intro wyb hbyb; replace hbyb : Below w0yb.heap.size w0yb wyb := hbyb; have hSyb := held_call (held_call hSya hb0yb) hbyb; try simp only [Act.put, List.setIfInBounds_toArray, List.set_cons_zero, List.set_cons_succ]
        clear c0 c1 cl d0 d1 dl
        replace Hvd := Lib.hid (Hvd.out.keep (agree_below hb0yb))
        replace Hb := Lib.hid (Hb.out.trans (hb0yb.mono Hb.out.size))
        replace HV4 := Lib.hid (HV4.out.call hb0yb)
        replace HV7 := Lib.hid (HV7.out.call hb0yb)
        replace HV9 := Lib.hid (HV9.out.call hb0yb)
        replace HV14 := Lib.hid (HV14.out.call hb0yb)
        clear hb0yb
        replace Hvd := Lib.hid (Hvd.out.keep (agree_below hbyb))
        replace Hb := Lib.hid (Hb.out.trans (hbyb.mono Hb.out.size))
        replace HV4 := Lib.hid (HV4.out.call hbyb)
        replace HV7 := Lib.hid (HV7.out.call hbyb)
        replace HV9 := Lib.hid (HV9.out.call hbyb)
        replace HV14 := Lib.hid (HV14.out.call hbyb)
        clear hbyb
        have i0 := HV9.out.cells 0
        have i1 := HV9.out.cells 1
        have if0 := HV9.out.frozen 0
        have if1 := HV9.out.frozen 1
        have il := HV9.out.lt
        simp only [List.getElem?_cons_zero, List.getElem?_cons_succ] at i0 i1
        repeat (first | (refine Ls.takeY ?_ (by rfl) ?_ (by assumption) ?_; rotate_left; (focus (intro w' hSw; (try dsimp only at hSw); go_simp; (try with_reducible rfl))); simp only [Act.put, List.setIfInBounds_toArray, List.set_cons_zero, List.set_cons_succ]) | (refine Ls.takeN (by rfl) (by assumption) ?_; simp only [Act.put, List.setIfInBounds_toArray, List.set_cons_zero, List.set_cons_succ]) | (refine Ls.takeT ?_ (by rfl) ?_ ?_; rotate_left; (focus (intro w' hRw; (try dsimp only at hRw); have hSw := but_held hRw; go_simp; (try with_reducible rfl))); simp only [Act.put, List.setIfInBounds_toArray, List.set_cons_zero, List.set_cons_succ]))
        have hkS : Agree (· ≠ (w.heap.size+1+1)) wyb ((wyb.setCell ⟨(w.heap.size+1+1), 0, none⟩ (.int .i64 (32 + (y : Int)))).setCell ⟨(w.heap.size+1+1), 1, none⟩ (.int .u64 mk.toNat)) := ((agree_at _ (w.heap.size+1+1) 0 (.int .i64 (32 + (y : Int)))).trans (by simp [World.setCell]) (agree_at _ (w.heap.size+1+1) 1 (.int .u64 mk.toNat)))
        have hzS : wyb.heap.size ≤ ((wyb.setCell ⟨(w.heap.size+1+1), 0, none⟩ (.int .i64 (32 + (y : Int)))).setCell ⟨(w.heap.size+1+1), 1, none⟩ (.int .u64 mk.toNat)).heap.size := by simp [World.setCell]
        replace Hvd := Lib.hid (Hvd.out.keep (hkS.mono fun g hg => by omega))
        replace Hb := Lib.hid ((Hb.out.setCell (p := ⟨(w.heap.size+1+1), 0, none⟩) (by show _ ≤ (w.heap.size+1+1); omega) (.int .i64 (32 + (y : Int)))).setCell (p := ⟨(w.heap.size+1+1), 1, none⟩) (by show _ ≤ (w.heap.size+1+1); omega) (.int .u64 mk.toNat))
        replace HV4 := Lib.hid (HV4.out.keep hkS hzS (by omega))
        replace HV7 := Lib.hid (HV7.out.keep hkS hzS (by omega))
        replace HV9 := Lib.hid ((HV9.out.set 0 (.int .i64 (32 + (y : Int))) (by simp)).set 1 (.int .u64 mk.toNat) (by simp))
        simp only [List.set_cons_zero, List.set_cons_succ] at HV9
        replace HV14 := Lib.hid (HV14.out.keep hkS hzS (by omega))
        clear hkS hzS
        refine Ls.goX (by rfl) ?_; intro K hK; go_simp; refine hK _ _ (by repeat (first | exact Ls.But.of (Below.refl _ _) | refine but_set ?_)) ?_; clear hK K; intro wyc hbyc; try simp only [Act.put, List.setIfInBounds_toArray, List.set_cons_zero, List.set_cons_succ]
        clear i0 i1 if0 if1 il
        replace Hvd := Lib.hid (Hvd.out.keep (agree_below hbyc))
        replace Hb := Lib.hid (Hb.out.trans (hbyc.mono Hb.out.size))
        replace HV4 := Lib.hid (HV4.out.call hbyc)
        replace HV7 := Lib.hid (HV7.out.call hbyc)
        replace HV9 := Lib.hid (HV9.out.call hbyc)
        replace HV14 := Lib.hid (HV14.out.call hbyc)
        clear hbyc
        refine Ls.tail ?_
        clear hSya hSyb hbya hxe HXE hne14
        have i0 := HV9.out.cells 0
        have i1 := HV9.out.cells 1
        have il := HV9.out.lt
        simp only [List.getElem?_cons_zero, List.getElem?_cons_succ] at i0 i1
        go_wp2_with fail
        have Hst : Hid (Jn.stands b (cnt + 1) len sum = if Dg.bsOf (32 + y : Nat) mk = r17 then some q else none) := by
          show Jn.stands b (cnt + 1) len sum = _
          have hn := HN.out
          unfold Jn.stands
          rw [if_neg (by omega), if_neg (by rw [Hr8.out, Hxc.out]; exact fun h => h rfl), if_neg (by rw [Hry.out, hn]; omega), Hry.out, Hq.out, Hmk.out, Hr17.out]
        refine bodyPost_ret (v := .tuple #[.string P, .agg #[.int .i64 (32 + (y : Int)), .int .u64 mk.toNat], .bool (Dg.bsOf (32 + (y : Int)) mk == r17)]) (by simp [results, Try.results50, go_sem, i0, i1, il]) rfl ⟨_, rfl, ?_, Hb.out⟩
        have hcast : ((32 + y : Nat) : Int) = 32 + (y : Int) := by omega
        unfold standsRes
        rw [Hst.out, hcast]
        by_cases heq : Dg.bsOf (32 + (y : Int)) mk = r17
        · rw [if_pos heq]
          show _ = _
          rw [Hql.out, Hmk.out, hcast, heq, HP.out]
          simp [dval]
        · rw [if_neg heq, beq_eq_false_iff_ne.2 heq]
          exact ⟨_, _, _, rfl⟩
      ·
        have Hno : Hid (Jn.stands b (cnt + 1) len sum = none) := by
          show Jn.stands b (cnt + 1) len sum = none
          have hn := HN.out
          unfold Jn.stands
          rw [if_neg (by omega), if_neg (by rw [Hr8.out, Hxc.out]; exact fun h => h rfl), if_pos (by rw [Hry.out, hn]; omega)]
        by_cases hbig : y < 9223372036854775808
        · have Hwy : Hid (wrap64 (y : Int) = (y : Int)) := wrap64_small y hbig
          have d2 : decide ((y : Int) < 0) = false := decide_eq_false (by omega)
          have d3 : decide ((y : Int) > ((m : Int) - (at_ : Int)) * 64 - 32) = true := decide_eq_true (by omega)
          have d3' : decide (((m : Int) - (at_ : Int)) * 64 - 32 < (y : Int)) = true := decide_eq_true (by omega)
          clear hbig hyn
          have c0 := HV4.out.cells 0
          have c1 := HV4.out.cells 1
          have cl := HV4.out.lt
          simp only [List.getElem?_cons_zero, List.getElem?_cons_succ] at c0 c1
          have i0 := HV9.out.cells 0
          have i1 := HV9.out.cells 1
          have if0 := HV9.out.frozen 0
          have if1 := HV9.out.frozen 1
          have il := HV9.out.lt
          simp only [List.getElem?_cons_zero, List.getElem?_cons_succ] at i0 i1
          have hkS : Agree (· ≠ (w.heap.size+1+1)) w4 ((w4.setCell ⟨(w.heap.size+1+1), 0, none⟩ (.int .i64 0)).setCell ⟨(w.heap.size+1+1), 1, none⟩ (.int .u64 0)) := ((agree_at _ (w.heap.size+1+1) 0 (.int .i64 0)).trans (by simp [World.setCell]) (agree_at _ (w.heap.size+1+1) 1 (.int .u64 0)))
          have hzS : w4.heap.size ≤ ((w4.setCell ⟨(w.heap.size+1+1), 0, none⟩ (.int .i64 0)).setCell ⟨(w.heap.size+1+1), 1, none⟩ (.int .u64 0)).heap.size := by simp [World.setCell]
          replace Hvd := Lib.hid (Hvd.out.keep (hkS.mono fun g hg => by omega))
          replace Hb := Lib.hid ((Hb.out.setCell (p := ⟨(w.heap.size+1+1), 0, none⟩) (by show _ ≤ (w.heap.size+1+1); omega) (.int .i64 0)).setCell (p := ⟨(w.heap.size+1+1), 1, none⟩) (by show _ ≤ (w.heap.size+1+1); omega) (.int .u64 0))
          replace HV4 := Lib.hid (HV4.out.keep hkS hzS (by omega))
          replace HV7 := Lib.hid (HV7.out.keep hkS hzS (by omega))
          replace HV9 := Lib.hid ((HV9.out.set 0 (.int .i64 0) (by simp)).set 1 (.int .u64 0) (by simp))
          simp only [List.set_cons_zero, List.set_cons_succ] at HV9
          clear hkS hzS
          have hwm1 : IntKind.i64.wrap ((m : Int) - (at_ : Int)) = (m : Int) - (at_ : Int) := by rw [IntKind.wrap_i64]; omega
          have hwm2 : IntKind.i64.wrap (((m : Int) - (at_ : Int)) * 64) = ((m : Int) - (at_ : Int)) * 64 := by rw [IntKind.wrap_i64]; omega
          have hwm3 : IntKind.i64.wrap (((m : Int) - (at_ : Int)) * 64 - 32) = ((m : Int) - (at_ : Int)) * 64 - 32 := by rw [IntKind.wrap_i64]; omega
          have hwy := Hwy.out
          go_wp2_with fail
          clear hwy hwm1 hwm2 hwm3
          go_wp2_with fail
          clear i0 i1 if0 if1 il
          generalize hwf : ((w4.setCell ⟨(w.heap.size+1+1), 0, none⟩ (.int .i64 0)).setCell ⟨(w.heap.size+1+1), 1, none⟩ (.int .u64 0)) = w6 at *
          clear hwf
          have i0 := HV9.out.cells 0
          have i1 := HV9.out.cells 1
          have il := HV9.out.lt
          simp only [List.getElem?_cons_zero, List.getElem?_cons_succ] at i0 i1
          refine bodyPost_ret (v := .tuple #[.string ⟨#[]⟩, .agg #[.int .i64 0, .int .u64 0], .bool false]) (by simp [results, Try.results50, go_sem, i0, i1, il]) rfl ⟨_, rfl, ?_, Hb.out⟩
          unfold standsRes
          rw [Hno.out]
          exact ⟨⟨#[]⟩, 0, 0#64, rfl⟩
        · have d2 : decide (wrap64 (y : Int) < 0) = true := wrap64_big y hbig Hyl.out
          clear hbig hyn
          have i0 := HV9.out.cells 0
          have i1 := HV9.out.cells 1
          have if0 := HV9.out.frozen 0
          have if1 := HV9.out.frozen 1
          have il := HV9.out.lt
          simp only [List.getElem?_cons_zero, List.getElem?_cons_succ] at i0 i1
          have hkS : Agree (· ≠ (w.heap.size+1+1)) w4 ((w4.setCell ⟨(w.heap.size+1+1), 0, none⟩ (.int .i64 0)).setCell ⟨(w.heap.size+1+1), 1, none⟩ (.int .u64 0)) := ((agree_at _ (w.heap.size+1+1) 0 (.int .i64 0)).trans (by simp [World.setCell]) (agree_at _ (w.heap.size+1+1) 1 (.int .u64 0)))
          have hzS : w4.heap.size ≤ ((w4.setCell ⟨(w.heap.size+1+1), 0, none⟩ (.int .i64 0)).setCell ⟨(w.heap.size+1+1), 1, none⟩ (.int .u64 0)).heap.size := by simp [World.setCell]
          replace Hvd := Lib.hid (Hvd.out.keep (hkS.mono fun g hg => by omega))
          replace Hb := Lib.hid ((Hb.out.setCell (p := ⟨(w.heap.size+1+1), 0, none⟩) (by show _ ≤ (w.heap.size+1+1); omega) (.int .i64 0)).setCell (p := ⟨(w.heap.size+1+1), 1, none⟩) (by show _ ≤ (w.heap.size+1+1); omega) (.int .u64 0))
          replace HV4 := Lib.hid (HV4.out.keep hkS hzS (by omega))
          replace HV7 := Lib.hid (HV7.out.keep hkS hzS (by omega))
          replace HV9 := Lib.hid ((HV9.out.set 0 (.int .i64 0) (by simp)).set 1 (.int .u64 0) (by simp))
          simp only [List.set_cons_zero, List.set_cons_succ] at HV9
          clear hkS hzS
          go_wp2_with fail
          clear i0 i1 if0 if1 il
          generalize hwf : ((w4.setCell ⟨(w.heap.size+1+1), 0, none⟩ (.int .i64 0)).setCell ⟨(w.heap.size+1+1), 1, none⟩ (.int .u64 0)) = w6 at *
          clear hwf
          have i0 := HV9.out.cells 0
          have i1 := HV9.out.cells 1
          have il := HV9.out.lt
          simp only [List.getElem?_cons_zero, List.getElem?_cons_succ] at i0 i1
          refine bodyPost_ret (v := .tuple #[.string ⟨#[]⟩, .agg #[.int .i64 0, .int .u64 0], .bool false]) (by simp [results, Try.results50, go_sem, i0, i1, il]) rfl ⟨_, rfl, ?_, Hb.out⟩
          unfold standsRes
          rw [Hno.out]
          exact ⟨⟨#[]⟩, 0, 0#64, rfl⟩
    ·
      have e1 : ((x8 : Int) != (cnt : Int) + 1) = true := by rw [bne_iff_ne]; omega
      have Hno : Hid (Jn.stands b (cnt + 1) len sum = none) := by
        show Jn.stands b (cnt + 1) len sum = none
        have hn := HN.out
        unfold Jn.stands
        rw [if_neg (by omega), if_pos (by rw [Hr8.out]; exact hxc)]
      clear hxc
      have i0 := HV9.out.cells 0
      have i1 := HV9.out.cells 1
      have if0 := HV9.out.frozen 0
      have if1 := HV9.out.frozen 1
      have il := HV9.out.lt
      simp only [List.getElem?_cons_zero, List.getElem?_cons_succ] at i0 i1
      have hkS : Agree (· ≠ (w.heap.size+1+1)) w4 ((w4.setCell ⟨(w.heap.size+1+1), 0, none⟩ (.int .i64 0)).setCell ⟨(w.heap.size+1+1), 1, none⟩ (.int .u64 0)) := ((agree_at _ (w.heap.size+1+1) 0 (.int .i64 0)).trans (by simp [World.setCell]) (agree_at _ (w.heap.size+1+1) 1 (.int .u64 0)))
      have hzS : w4.heap.size ≤ ((w4.setCell ⟨(w.heap.size+1+1), 0, none⟩ (.int .i64 0)).setCell ⟨(w.heap.size+1+1), 1, none⟩ (.int .u64 0)).heap.size := by simp [World.setCell]
      replace Hvd := Lib.hid (Hvd.out.keep (hkS.mono fun g hg => by omega))
      replace Hb := Lib.hid ((Hb.out.setCell (p := ⟨(w.heap.size+1+1), 0, none⟩) (by show _ ≤ (w.heap.size+1+1); omega) (.int .i64 0)).setCell (p := ⟨(w.heap.size+1+1), 1, none⟩) (by show _ ≤ (w.heap.size+1+1); omega) (.int .u64 0))
      replace HV4 := Lib.hid (HV4.out.keep hkS hzS (by omega))
      replace HV7 := Lib.hid (HV7.out.keep hkS hzS (by omega))
      replace HV9 := Lib.hid ((HV9.out.set 0 (.int .i64 0) (by simp)).set 1 (.int .u64 0) (by simp))
      simp only [List.set_cons_zero, List.set_cons_succ] at HV9
      clear hkS hzS
      go_wp2_with fail
      clear i0 i1 if0 if1 il
      generalize hwf : ((w4.setCell ⟨(w.heap.size+1+1), 0, none⟩ (.int .i64 0)).setCell ⟨(w.heap.size+1+1), 1, none⟩ (.int .u64 0)) = w6 at *
      clear hwf
      have i0 := HV9.out.cells 0
      have i1 := HV9.out.cells 1
      have il := HV9.out.lt
      simp only [List.getElem?_cons_zero, List.getElem?_cons_succ] at i0 i1
      refine bodyPost_ret (v := .tuple #[.string ⟨#[]⟩, .agg #[.int .i64 0, .int .u64 0], .bool false]) (by simp [results, Try.results50, go_sem, i0, i1, il]) rfl ⟨_, rfl, ?_, Hb.out⟩
      unfold standsRes
      rw [Hno.out]
      exact ⟨⟨#[]⟩, 0, 0#64, rfl⟩
end Go.Proofs.Ythpjhmgmjfmgcaa
