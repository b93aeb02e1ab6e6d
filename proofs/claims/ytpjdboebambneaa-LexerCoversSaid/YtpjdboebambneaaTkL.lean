/- LexerLong: the walk. -/
import Derived.Test.YtpjdboebambneaaTkA
import Derived.Test.YtpjdboebambneaaTkE
import Derived.Test.YtpjdboebambneaaMm
namespace Go.Proofs.Ytpjdboebambneaa
open Go.ChangeShapes Go.WideShapes Go.RowKit

def toksOf (l : List UInt8) : List Tk.Tok := if l.length ≤ 20000 then Tk.toksAt l 0 else []
theorem toksOf_le (l : List UInt8) : (toksOf l).length ≤ 100000 := by
  unfold toksOf
  split
  · have := Tk.toksAt_length l 0; omega
  · simp
theorem tokens_all (s : ByteArray) (w : World) :
    Calls Try.prog 43 #[.string s] w fun e w' => ∃ v, e = .returned v ∧ TokRow (fun g => w.heap.size ≤ g) w' v (toksOf s.data.toList) ∧ Below w.heap.size w w' := by
  have hl : s.data.toList.length = s.size := by simp
  unfold toksOf
  by_cases h : s.size ≤ 20000
  · rw [if_pos (by omega)]; exact tokens_holds s w h
  · rw [if_neg (by omega)]
    refine (tokens_long s w (by omega)).mono ?_
    rintro e w' ⟨rfl, rfl⟩
    exact ⟨_, rfl, ⟨none, 0, rfl, .inl rfl⟩, ext_refl w⟩
theorem rtokens_all (s : ByteArray) (w : World) :
    Calls Try.prog 44 #[.string s] w fun e w' => ∃ v, e = .returned v ∧ TokRow (fun g => w.heap.size ≤ g) w' v (toksOf s.data.toList) ∧ Below w.heap.size w w' := by
  have hl : s.data.toList.length = s.size := by simp
  unfold toksOf
  by_cases h : s.size ≤ 20000
  · rw [if_pos (by omega)]; exact rtokens_holds s w h
  · rw [if_neg (by omega)]
    refine (rtokens_long s w (by omega)).mono ?_
    rintro e w' ⟨rfl, rfl⟩
    exact ⟨_, rfl, ⟨none, 0, rfl, .inl rfl⟩, ext_refl w⟩

set_option maxRecDepth 100000 in
set_option maxHeartbeats 3200000 in
theorem walk_long (n : Int) (w : World) (hn : (Lit.int .i64 n).wf = true) :
    Calls Try.prog 11 #[.int .i64 n] w fun e w' => e = .returned (.bool true) ∧ Below w.heap.size w w' := by
  have h0 := Int.emod_nonneg n (show (4 : Int) ≠ 0 by omega)
  have h1 := Int.emod_lt_of_pos n (show (0 : Int) < 4 by omega)
  obtain ⟨r, hr⟩ : ∃ r : Nat, n % 4 = r := Int.eq_ofNat_of_zero_le h0
  rw [hr] at h1
  have Hr := Lib.hid hr
  clear h0 hr
  go_enter Try.func11, Try.ntmps11
  go_upto_region 2 with (go_at_call 47; refine (mmod_any _ _ _ hn (by omega) (by omega)).mono ?_; rintro e w' ⟨rfl, rfl⟩; rw [Hr.out])
  obtain ⟨k, hk⟩ : ∃ k : Nat, 19998 + r = k := ⟨_, rfl⟩
  have hk1 : k ≤ 20001 := by omega
  have hk2 : 19998 ≤ k := by omega
  rw [show (19998 : Int) + (r : Int) = (k : Int) by omega]
  clear hk h1
  obtain ⟨w1, hm, Hrow, hb1, hz1⟩ := make_new (P := Try.prog) 28 5 (.int .u8 0) 1 Try.underlying28 (by kernel_rfl) rfl k (by omega) (by omega) w
  go_wp2_with fail
  clear hm
  have hlt : w.heap.size < w1.heap.size := by omega
  clear hz1
  go_loopw [5] (fun i wr => ∃ j : Nat, i = .int .i64 j ∧ Hid (j ≤ k) ∧ Hid (∃ cs : List UInt8, cs.length = k ∧ rowOf wr w.heap.size (cs.map byteVal)) ∧ Hid (Below w.heap.size w wr)) (fun i _ => (k - intOf i).toNat)
  case atStart => exact ⟨0, rfl, Nat.zero_le _, ⟨List.replicate k 0, by simp, by have := Hrow.out; rw [List.map_replicate]; exact this⟩, hb1⟩
  case round =>
    obtain ⟨j, rfl, hj, hrow, hbel⟩ := hrel
    have hj1 := hj.out
    obtain ⟨cs, hcs, hr⟩ := hrow.out
    have Hrw := Lib.hid hr
    have Hcs := Lib.hid hcs
    clear hr hcs
    by_cases hjk : j < k
    · have hd : decide ((j : Int) < (k : Int)) = true := by simp; omega
      have hcell : wr.cell? ⟨w.heap.size, j, none⟩ = some (byteVal (cs[j]'(by rw [Hcs.out]; exact hjk))) := Hrw.out.cell (by rw [List.getElem?_map, List.getElem?_eq_getElem (by rw [Hcs.out]; exact hjk)]; rfl)
      have hfz : wr.frozen? ⟨w.heap.size, j, none⟩ = false := Hrw.out.2 j (by rw [List.length_map, Hcs.out]; exact hjk)
      go_wp2_with fail
      go_roundw
      case rel =>
        have hb : (Value.int .u8 (48 + (j : Int) % 10)) = byteVal (UInt8.ofNat (48 + j % 10)) := by
          unfold byteVal
          have : j % 10 < 10 := Nat.mod_lt _ (by omega)
          rw [UInt8.toNat_ofNat_of_lt' (by simp [UInt8.size]; omega)]
          simp
        refine ⟨j + 1, by simp, hjk, ⟨cs.set j (UInt8.ofNat (48 + j % 10)), by rw [List.length_set]; exact Hcs.out, ?_⟩, hbel.out.setCell (Nat.le_refl _) _⟩
        rw [List.map_set, ← hb]
        exact Hrw.out.set j _ (by rw [List.length_map, Hcs.out]; exact hjk)
      case measure => simp [intOf]; omega
    · have hd : decide ((j : Int) < (k : Int)) = false := by simp; omega
      obtain ⟨q, hq⟩ : ∃ q : Nat, (wrap64 (n.tdiv 4)) % 5 = q := Int.eq_ofNat_of_zero_le (Int.emod_nonneg _ (by omega))
      have hq1 : q < 5 := by have := Int.emod_lt_of_pos (wrap64 (n.tdiv 4)) (show (0 : Int) < 5 by omega); omega
      have Hq := Lib.hid hq
      have Hwf := Lib.hid (wrap64_wf (n.tdiv 4))
      clear hq
      have hlen : (cs.take (16 + q)).length = 16 + q := by rw [List.length_take, Hcs.out]; omega
      have hold : Holds (fun _ => True) wr (some ⟨w.heap.size, 0, none⟩) ((cs.take (16 + q)).map byteVal) := by
        have h := Holds.part (holds_row (A := fun _ => True) Hrw.out trivial) 0 (16 + q)
        rw [List.drop_zero, ← List.map_take] at h
        exact h
      have c1 : (convert 28 9 (.slice (some ⟨w.heap.size, 0, none⟩) ((16 + q : Nat)) k)).run Try.prog wr = .ok (.string ⟨(cs.take (16 + q)).toArray⟩) wr := conv_bytes Try.underlying28 Try.underlying5 Try.underlying9 hold hlen
      clear hold hlen
      go_upto_region 8 with (go_at_call 47; refine (mmod_any (wrap64 (n.tdiv 4)) _ _ Hwf.out (by omega) (by omega)).mono ?_; rintro e w' ⟨rfl, rfl⟩; rw [Hq.out])
      have hwhole : Holds (fun _ => True) wr (some ⟨w.heap.size, 0, none⟩) (cs.map byteVal) := holds_row Hrw.out trivial
      have s1 := conv_bytes_held (P := Try.prog) (n := k) (cap := k) Try.underlying28 Try.underlying5 Try.underlying9 hwhole Hcs.out
      have hD : (ByteArray.mk (List.take (16 + q) cs).toArray).size ≤ 20 := by show (List.take (16 + q) cs).toArray.size ≤ 20; simp; omega
      obtain ⟨D, hDe⟩ : ∃ D : ByteArray, ⟨(List.take (16 + q) cs).toArray⟩ = D := ⟨_, rfl⟩
      rw [hDe] at hD ⊢
      clear hDe c1 hwhole
      refine Lx.region Lx.below_steps [(0, false), (1, true), (2, true), (3, true), (5, true), (6, true), (4, false), (7, false), (8, false), (9, true), (10, true), (11, true), (12, true), (14, true), (15, true), (13, false), (16, false), (17, false), (18, true)] [(19, false)] (fun w' => (∀ b o, b < wr.heap.size → w'.cell? ⟨b, o, none⟩ = wr.cell? ⟨b, o, none⟩) ∧ (∀ b o, b < wr.heap.size → w'.frozen? ⟨b, o, none⟩ = wr.frozen? ⟨b, o, none⟩) ∧ Below wr.heap.size wr w') (by kernel_rfl) (by kernel_rfl) (fun _ _ _ _ _ h => h) (fun _ h => held_below h) (fun _ _ h hb => held_call h hb) ?_; intro xa hbxa; replace hbxa : Below wr.heap.size wr xa := hbxa; simp only [Lx.pick, List.filterMap_cons, List.filterMap_nil, List.getElem?_cons_succ, List.getElem?_cons_zero, List.map_cons, List.map_nil]; have hSxa := held_below hbxa
      refine Lx.go ?_; intro K hK; go_simp; go_at_call 39; refine (awake_any _).mono ?_; rintro e w0xb ⟨rfl, hb0xb⟩; refine hK _ _ hb0xb ?_; clear hK K; intro wxb hbxb; replace hbxb : Below w0xb.heap.size w0xb wxb := hbxb; have hSxb := held_call (held_call hSxa hb0xb) hbxb; try simp only [Act.put, List.setIfInBounds_toArray, List.set_cons_zero, List.set_cons_succ]
      repeat (first | (refine Lx.takeY ?_ (by rfl) ?_ (by assumption) ?_; rotate_left; (focus (intro w' hSw; (try dsimp only at hSw); go_simp; (try with_reducible rfl))); simp only [Act.put, List.setIfInBounds_toArray, List.set_cons_zero, List.set_cons_succ]) | (refine Lx.takeN (by rfl) (by assumption) ?_; simp only [Act.put, List.setIfInBounds_toArray, List.set_cons_zero, List.set_cons_succ]))
      refine Lx.go ?_; intro K hK; go_simp; go_at_call 43; refine (tokens_all _ _).mono ?_; rintro e w0xc ⟨v1, rfl, hv1, hb0xc⟩; refine hK _ _ hb0xc ?_; clear hK K; intro wxc hbxc; replace hbxc : Below w0xc.heap.size w0xc wxc := hbxc; have hSxc := held_call (held_call hSxb hb0xc) hbxc; try simp only [Act.put, List.setIfInBounds_toArray, List.set_cons_zero, List.set_cons_succ]
      refine Lx.go ?_; intro K hK; go_simp; go_at_call 44; refine (rtokens_all _ _).mono ?_; rintro e w0xd ⟨u1, rfl, hu1, hb0xd⟩; refine hK _ _ hb0xd ?_; clear hK K; intro wxd hbxd; replace hbxd : Below w0xd.heap.size w0xd wxd := hbxd; have hSxd := held_call (held_call hSxc hb0xd) hbxd; try simp only [Act.put, List.setIfInBounds_toArray, List.set_cons_zero, List.set_cons_succ]
      have hv2 := hv1.any (ext_trans hbxc (ext_trans hb0xd hbxd))
      have hu2 := hu1.any hbxd
      refine Lx.go ?_; intro K hK; go_simp; go_at_call 42; refine (tsame_yes _ _ _ _ hv2 hu2 (toksOf_le _)).mono ?_; rintro e w0xe ⟨rfl, hb0xe⟩; refine hK _ _ hb0xe ?_; clear hK K; intro wxe hbxe; replace hbxe : Below w0xe.heap.size w0xe wxe := hbxe; have hSxe := held_call (held_call hSxd hb0xe) hbxe; try simp only [Act.put, List.setIfInBounds_toArray, List.set_cons_zero, List.set_cons_succ]
      clear hv1 hu1 hv2 hu2
      repeat (first | (refine Lx.takeY ?_ (by rfl) ?_ (by assumption) ?_; rotate_left; (focus (intro w' hSw; (try dsimp only at hSw); go_simp; (try with_reducible rfl))); simp only [Act.put, List.setIfInBounds_toArray, List.set_cons_zero, List.set_cons_succ]) | (refine Lx.takeN (by rfl) (by assumption) ?_; simp only [Act.put, List.setIfInBounds_toArray, List.set_cons_zero, List.set_cons_succ]))
      have hcat : (9223372036854775807 < D.size + 2) = False := eq_false (by omega)
      repeat (first | (refine Lx.takeY ?_ (by rfl) ?_ (by assumption) ?_; rotate_left; (focus (intro w' hSw; (try dsimp only at hSw); go_simp; (try with_reducible rfl))); simp only [Act.put, List.setIfInBounds_toArray, List.set_cons_zero, List.set_cons_succ]) | (refine Lx.takeN (by rfl) (by assumption) ?_; simp only [Act.put, List.setIfInBounds_toArray, List.set_cons_zero, List.set_cons_succ]))
      refine Lx.go ?_; intro K hK; go_simp; go_at_call 43; refine (tokens_all _ _).mono ?_; rintro e w0xf ⟨v1, rfl, hv1, hb0xf⟩; refine hK _ _ hb0xf ?_; clear hK K; intro wxf hbxf; replace hbxf : Below w0xf.heap.size w0xf wxf := hbxf; have hSxf := held_call (held_call hSxe hb0xf) hbxf; try simp only [Act.put, List.setIfInBounds_toArray, List.set_cons_zero, List.set_cons_succ]
      refine Lx.go ?_; intro K hK; go_simp; go_at_call 44; refine (rtokens_all _ _).mono ?_; rintro e w0xg ⟨u1, rfl, hu1, hb0xg⟩; refine hK _ _ hb0xg ?_; clear hK K; intro wxg hbxg; replace hbxg : Below w0xg.heap.size w0xg wxg := hbxg; have hSxg := held_call (held_call hSxf hb0xg) hbxg; try simp only [Act.put, List.setIfInBounds_toArray, List.set_cons_zero, List.set_cons_succ]
      have hv2 := hv1.any (ext_trans hbxf (ext_trans hb0xg hbxg))
      have hu2 := hu1.any hbxg
      refine Lx.go ?_; intro K hK; go_simp; go_at_call 42; refine (tsame_yes _ _ _ _ hv2 hu2 (toksOf_le _)).mono ?_; rintro e w0xh ⟨rfl, hb0xh⟩; refine hK _ _ hb0xh ?_; clear hK K; intro wxh hbxh; replace hbxh : Below w0xh.heap.size w0xh wxh := hbxh; have hSxh := held_call (held_call hSxg hb0xh) hbxh; try simp only [Act.put, List.setIfInBounds_toArray, List.set_cons_zero, List.set_cons_succ]
      clear hv1 hu1 hv2 hu2
      repeat (first | (refine Lx.takeY ?_ (by rfl) ?_ (by assumption) ?_; rotate_left; (focus (intro w' hSw; (try dsimp only at hSw); go_simp; (try with_reducible rfl))); simp only [Act.put, List.setIfInBounds_toArray, List.set_cons_zero, List.set_cons_succ]) | (refine Lx.takeN (by rfl) (by assumption) ?_; simp only [Act.put, List.setIfInBounds_toArray, List.set_cons_zero, List.set_cons_succ]))
      refine Lx.tail ?_
      go_wp2_with fail
      go_ret
      exact ⟨rfl, hbel.out.trans (hSxh.2.2.mono hbel.out.size)⟩
end Go.Proofs.Ytpjdboebambneaa
