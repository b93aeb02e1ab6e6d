/- The digests of strings, their bytes and chains are those of the document: for all arguments. -/
import Derived.Test.YtpjdboebambneaaDigE
import Derived.Lib.SmallJoins
import Derived.OpenShut
namespace Go.Proofs.Ytpjdboebambneaa
open Go.ChangeShapes Go.WideShapes Go.RowKit

set_option maxRecDepth 100000 in
theorem digest_of {H : Type} {enc : TypeId × Value → H} {W : World} {base : Nat} {v : Value} {d : DataW H} {p : List MemPlace} (h : DataW.Trod enc Try.prog W 0 (fun _ => true) true 25 v d p)
    (hv : Value.okWide Try.prog W .any base 25 v) : ∃ (n : Int) (c : BitVec 64), v = dval n c := by
  obtain ⟨v0, v1, y0, y1, m, rfl, _, _, h0, h1⟩ := Joins.open_agg2 Try.underlying25 (by kernel_rfl) (by kernel_rfl) hv h
  obtain ⟨a, e0, _, wa⟩ := DataW.trod_int Try.underlying3 h0
  obtain ⟨b, e1, _, wb⟩ := DataW.trod_int Try.underlying23 h1
  simp at e0 e1
  subst e0 e1
  have hb := bounds_u64 wb
  refine ⟨a, BitVec.ofNat 64 b.toNat, ?_⟩
  unfold dval
  rw [BitVec.toNat_ofNat]
  congr 2
  rw [show ((b.toNat % 2 ^ 64 : Nat) : Int) = b by omega]

theorem parsed_form (l : List UInt8) : ∃ (n m e : Int), parsed l = .tuple #[.agg #[.int .i64 n, .int .u64 m], .int .i64 e] := by
  unfold parsed
  split
  · exact ⟨_, _, _, rfl⟩
  · exact ⟨_, _, _, rfl⟩

set_option maxRecDepth 100000 in
set_option maxHeartbeats 800000 in
theorem dvalues_any (s p : ByteArray) (n : Int) (c : BitVec 64) (k : Int) (w : World) (hs : s.size ≤ maxLen) (hp : p.size ≤ maxLen) (hk : (Lit.int .i64 k).wf = true) :
    Calls Try.prog 5 #[.string s, .string p, dval n c, .int .i64 k] w fun e w' => e = .returned (.bool true) ∧ Below w.heap.size w w' := by
  unfold maxLen at hs hp
  by_cases h1 : 2000 < s.size
  · have hd1 : decide (2000 < (s.size : Int)) = true := by simp; omega
    unfold dval
    go_enter Try.func5, Try.ntmps5
    go_wp2_with (go_at_call 15; refine (dawake_any _).mono ?_; rintro e w' ⟨rfl, hb⟩)
    go_ret
    exact ⟨rfl, ext_trans (ext_alloc (ext_refl w) _) hb⟩
  · by_cases h2 : 2000 < p.size
    · have hd1 : decide (2000 < (s.size : Int)) = false := by simp; omega
      have hd2 : decide (2000 < (p.size : Int)) = true := by simp; omega
      unfold dval
      go_enter Try.func5, Try.ntmps5
      go_wp2_with (go_at_call 15; refine (dawake_any _).mono ?_; rintro e w' ⟨rfl, hb⟩)
      go_ret
      exact ⟨rfl, ext_trans (ext_alloc (ext_refl w) _) hb⟩
    · have hd1 : decide (2000 < (s.size : Int)) = false := by simp; omega
      have hd2 : decide (2000 < (p.size : Int)) = false := by simp; omega
      unfold dval
      go_enter Try.func5, Try.ntmps5
      go_upto_if 28 with fail
      go_cut [9] (fun s9 wx => (∃ y : ByteArray, s9 = .string y ∧ y.size ≤ 2000) ∧ wx = w.alloc (Obj.cells #[Value.int IntKind.i64 n, Value.int IntKind.u64 c.toNat] 25))
      case first =>
        by_cases h15 : 15 < p.size
        · have hm0 := Int.emod_nonneg k (show (3 : Int) ≠ 0 by omega)
          have hm1 := Int.emod_lt_of_pos k (show (0 : Int) < 3 by omega)
          obtain ⟨m, hm⟩ := Int.eq_ofNat_of_zero_le hm0
          have Hm := Lib.hid hm
          rw [hm] at hm1
          clear hm hm0
          by_cases h16 : p.size = 16
          · have hq : (m : Int) % 2 < 2 := by omega
            have hq0 : 0 ≤ (m : Int) % 2 := by omega
            clear h15 hp h2 hd2
            go_wp2_with (go_at_call 17; refine (mod_any _ _ _ hk (by omega) (by omega)).mono ?_; rintro e w' ⟨rfl, rfl⟩; rw [Hm.out])
            go_meet
            exact ⟨⟨_, rfl, by simp [ByteArray.size_extract]; omega⟩, rfl⟩
          · have h17 : 17 ≤ p.size := by omega
            go_wp2_with (go_at_call 17; refine (mod_any _ _ _ hk (by omega) (by omega)).mono ?_; rintro e w' ⟨rfl, rfl⟩; rw [Hm.out])
            go_meet
            exact ⟨⟨_, rfl, by simp [ByteArray.size_extract]; omega⟩, rfl⟩
        · go_wp2_with fail
          go_meet
          exact ⟨⟨p, rfl, by omega⟩, rfl⟩
      case rest =>
        obtain ⟨⟨y, rfl, hy⟩, hwc⟩ := hcut
        obtain ⟨w1, hw1, B1, hb1⟩ := fresh_blk w [Value.int IntKind.i64 n, Value.int IntKind.u64 c.toNat] 25
        obtain rfl : wc = w1 := hwc.trans hw1
        have c1 := B1.cells
        have z1 := B1.lt
        clear hwc hw1
        go_wp2_with fail
        refine (bytes_any _ _ _).mono ?_; rintro e w2 ⟨rfl, hb2⟩
        have B2 := B1.call hb2
        have hb12 := ext_trans hb1 hb2
        obtain ⟨D, hD⟩ : ∃ D : ByteArray, ⟨(Dg.bsOf n c).toArray⟩ = D := ⟨_, rfl⟩
        have hDs : D.size = 16 := by rw [← hD, string_size, bsOf_length]
        rw [hD]
        have HD := Lib.hid hD
        clear hb1 hb2 B1 c1 z1 hD
        go_wp2_with fail
        obtain ⟨w3, hw3, B3, hb3⟩ := fresh_blk w2 [Value.string s, Value.string p, Value.string y, Value.string D] 9
        rw [hw3]
        have B23 := B2.call hb3
        have hb13 := ext_trans hb12 hb3
        clear hw3 hb12 hb3 B2
        go_loopw [46] (fun q wr => ∃ r : Nat, r ≤ 4 ∧ q = .int .i64 r ∧ Below w3.heap.size w3 wr) (fun q _ => (4 - intOf q).toNat)
        case atStart => exact ⟨0, by omega, rfl, Below.refl _ _⟩
        case round =>
          obtain ⟨r, hr, rfl, hbel⟩ := hrel
          by_cases hr4 : r < 4
          · obtain ⟨x, hx, hxs⟩ : ∃ x : ByteArray, wr.cell? ⟨w2.heap.size, r, none⟩ = some (.string x) ∧ x.size ≤ 9223372036854775807 := by
              have hc := (B3.call hbel).cells r
              rw [hc]
              match r, hr4 with
              | 0, _ => exact ⟨s, rfl, by omega⟩
              | 1, _ => exact ⟨p, rfl, by omega⟩
              | 2, _ => exact ⟨y, rfl, by omega⟩
              | 3, _ => exact ⟨D, rfl, by omega⟩
            obtain ⟨pn, pm, pe, hpf⟩ := parsed_form x.data.toList
            have Hpf := Lib.hid hpf
            have Hxs : Hid (x.size ≤ maxLen) := hxs
            clear hpf hxs
            go_wp2_with fail
            refine (parse_any _ _ Hxs.out).mono ?_; rintro e w4 ⟨he, hb4⟩
            obtain rfl := he.trans (congrArg _ Hpf.out)
            clear he
            go_wp2_with fail
            refine (rparse_any _ _ Hxs.out).mono ?_; rintro e w5 ⟨he, hb5⟩
            obtain rfl := he.trans (congrArg _ Hpf.out)
            clear he
            obtain ⟨B5, hb5⟩ := fresh_call hb5
            go_wp2_with fail
            refine (of_any _ _ Hxs.out).mono ?_; rintro e w6 ⟨rfl, hb6⟩
            obtain ⟨B6, hb6⟩ := fresh_call hb6
            have B56 := B5.call hb6
            unfold dval
            go_wp2_with fail
            refine (rof_any _ _ Hxs.out).mono ?_; rintro e w7 ⟨rfl, hb7⟩
            have B67 := B6.call hb7
            have B57 := B56.call hb7
            have c67 := B67.cells
            have c57 := B57.cells
            unfold dval
            go_wp2_with fail
            go_roundw
            case rel => exact ⟨r + 1, by omega, by go_num, ext_trans (ext_trans (ext_trans (ext_trans hbel hb4) hb5) hb6) hb7⟩
            case measure => simp [intOf]; omega
          · have B4 := B23.call hbel
            have c4 := B4.cells
            have z4 := B4.lt
            have hb14 := ext_trans hb13 hbel
            clear B3 B23 B4 hb13 hbel hy hDs HD
            go_wp2_with fail
            refine Lex.region [(0, true), (2, true), (1, false), (3, false), (4, true), (5, true), (6, true), (7, true), (9, true), (10, true), (8, false)] (fun w' => (∀ b o, b < wr.heap.size → w'.cell? ⟨b, o, none⟩ = wr.cell? ⟨b, o, none⟩) ∧ (∀ b o, b < wr.heap.size → w'.frozen? ⟨b, o, none⟩ = wr.frozen? ⟨b, o, none⟩) ∧ Below wr.heap.size wr w') (by kernel_rfl) (by kernel_rfl) (fun _ _ _ _ _ h => h) ?_; simp only [Lex.pick, List.filterMap_cons, List.filterMap_nil, List.getElem?_cons_succ, List.getElem?_cons_zero, List.map_cons, List.map_nil, List.length_cons, List.length_nil, List.drop_succ_cons, List.drop_zero, Nat.reduceAdd]; have hS0 := held_start wr
            repeat (first | (refine Lex.takeY ?_ (by rfl) ?_ (by assumption) ?_; rotate_left; (focus (intro w' hSw; (try dsimp only at hSw); go_simp; (try with_reducible rfl))); simp only [Act.put, List.setIfInBounds_toArray, List.set_cons_zero, List.set_cons_succ]) | (refine Lex.takeN (by rfl) (by assumption) ?_; simp only [Act.put, List.setIfInBounds_toArray, List.set_cons_zero, List.set_cons_succ]))
            refine Lex.go ?_; intro K hK; go_simp; go_at_call 18; refine (bytes_any _ _ _).mono ?_; rintro e w6 ⟨rfl, hb6⟩; have hS6 := held_call hS0 hb6; refine hK _ _ hS6 ?_; clear hK K; try simp only [Act.put, List.setIfInBounds_toArray, List.set_cons_zero, List.set_cons_succ]
            repeat (first | (refine Lex.takeY ?_ (by rfl) ?_ (by assumption) ?_; rotate_left; (focus (intro w' hSw; (try dsimp only at hSw); go_simp; (try with_reducible rfl))); simp only [Act.put, List.setIfInBounds_toArray, List.set_cons_zero, List.set_cons_succ]) | (refine Lex.takeN (by rfl) (by assumption) ?_; simp only [Act.put, List.setIfInBounds_toArray, List.set_cons_zero, List.set_cons_succ]))
            refine Lex.go ?_; intro K hK; go_simp; go_at_call 22; refine (rbytes_any _ _ _).mono ?_; rintro e w7 ⟨rfl, hb7⟩; have hS7 := held_call hS6 hb7; refine hK _ _ hS7 ?_; clear hK K; try simp only [Act.put, List.setIfInBounds_toArray, List.set_cons_zero, List.set_cons_succ]
            repeat (first | (refine Lex.takeY ?_ (by rfl) ?_ (by assumption) ?_; rotate_left; (focus (intro w' hSw; (try dsimp only at hSw); go_simp; (try with_reducible rfl))); simp only [Act.put, List.setIfInBounds_toArray, List.set_cons_zero, List.set_cons_succ]) | (refine Lex.takeN (by rfl) (by assumption) ?_; simp only [Act.put, List.setIfInBounds_toArray, List.set_cons_zero, List.set_cons_succ]))
            refine Lex.go ?_; intro K hK; go_simp; go_at_call 23; refine (chain_any _ _ _ _ (by omega)).mono ?_; rintro e w8 ⟨rfl, hb8⟩; have hS8 := held_call hS7 hb8; refine hK _ _ hS8 ?_; clear hK K; try simp only [Act.put, List.setIfInBounds_toArray, List.set_cons_zero, List.set_cons_succ]
            repeat (first | (refine Lex.takeY ?_ (by rfl) ?_ (by assumption) ?_; rotate_left; (focus (intro w' hSw; (try dsimp only at hSw); go_simp; (try with_reducible rfl))); simp only [Act.put, List.setIfInBounds_toArray, List.set_cons_zero, List.set_cons_succ]) | (refine Lex.takeN (by rfl) (by assumption) ?_; simp only [Act.put, List.setIfInBounds_toArray, List.set_cons_zero, List.set_cons_succ]))
            refine Lex.tail ?_
            go_wp2_with fail
            refine (rchain_any _ _ _ _ (by omega)).mono ?_; rintro e w9 ⟨rfl, hb9⟩
            unfold chained dval
            generalize Dg.sum Dg.start (Dg.bsOf n c ++ s.data.toList) = z
            go_wp2_with fail
            refine (dawake_any _).mono ?_; rintro e w10 ⟨rfl, hb10⟩
            go_wp2_with fail
            go_ret
            exact ⟨rfl, ext_trans (ext_trans (ext_trans hb14 hS8.2.2) hb9) hb10⟩

set_option maxRecDepth 100000 in
theorem dvalues_row (s p : ByteArray) (v : Value) (k : Int) (w : World) (hs : s.size ≤ maxLen) (hp : p.size ≤ maxLen)
    {H : Type} {enc : TypeId × Value → H} {base : Nat} {d : DataW H} {q : List MemPlace} (h : DataW.Trod enc Try.prog w 0 (fun _ => true) true 25 v d q)
    (hv : Value.okWide Try.prog w .any base 25 v) (hk : (Lit.int .i64 k).wf = true) :
    Calls Try.prog 5 #[.string s, .string p, v, .int .i64 k] w fun e w' => e = .returned (.bool true) ∧ Below w.heap.size w w' := by
  obtain ⟨n, c, rfl⟩ := digest_of h hv
  exact dvalues_any s p n c k w hs hp hk

end Go.Proofs.Ytpjdboebambneaa
