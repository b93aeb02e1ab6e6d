import Derived.Test.YtabeimmjclkobaaRwg11
import Derived.Test.YtabeimmjclkobaaRwg13
/- Objects: the reader of the reference. -/
namespace Go.Proofs.Ytabeimmjclkobaa
open Go.ChangeShapes Go.WideShapes Go.RowKit

set_option maxRecDepth 100000 in
set_option maxHeartbeats 1600000 in
theorem rrdnum_any (g : Nat) (S : ByteArray) (bs : List UInt8) (hS : S.data.toList = bs) (a : Nat) (e : Int) (w : World) (hR : Blk w g [.string S, .int .i64 a, .int .i64 e]) (ha : a ≤ bs.length) (hl : bs.length ≤ 1000000000) :
    Calls Try.prog 59 #[.pointer (some ⟨g, 0, none⟩)] w fun e' w' => e' = .returned (.int .i64 (Ob.rNum bs (a, e)).1) ∧ Blk w' g [.string S, .int .i64 (Ob.rNum bs (a, e)).2.1, .int .i64 (Ob.rNum bs (a, e)).2.2] ∧ Ls.But g w w' := by
  have hn : bs.length = S.size := by rw [← hS]; simp
  have HS := Lib.hid hS
  have Hn := Lib.hid hn
  have HR := Lib.hid hR
  have c0 := hR.cells 0
  have c1 := hR.cells 1
  have c2 := hR.cells 2
  have f0 := hR.frozen 0
  have f1 := hR.frozen 1
  have f2 := hR.frozen 2
  have cl := hR.lt
  simp only [List.getElem?_cons_zero, List.getElem?_cons_succ] at c0 c1 c2
  rw [hn] at ha hl
  clear hR hS hn
  by_cases he : e = 0
  · subst he
    have hres : Hid (Ob.rNum bs (a, 0) = ((Ob.read (bs.drop a)).1, (a + (Ob.read (bs.drop a)).2.1, if Ob.len (bs.drop a) = 0 then 8 else if (Ob.read (bs.drop a)).2.2 = true then 0 else 5))) := by
      show _ = _
      unfold Ob.rNum
      simp only [if_true]
    go_enter Try.func59, Try.ntmps59
    go_upto_region 4 with fail
    go_loopw [3] (fun i wr => wr = w ∧ ∃ m : Nat, i = .int .i64 m ∧ a ≤ m ∧ m ≤ S.size ∧ Hid (∀ x ∈ (bs.drop a).take (m - a), 128 ≤ x.toNat)) (fun i _ => S.size - (intOf i).toNat)
    case atStart => exact ⟨rfl, a, rfl, Nat.le_refl _, ha, by show ∀ x ∈ _, _; simp⟩
    case round =>
      obtain ⟨rfl, m, rfl, ham, hk, hno⟩ := hrel
      by_cases hlt : m < S.size
      · have d1 : decide ((m : Int) < (S.size : Int)) = true := decide_eq_true (by omega)
        obtain ⟨c, hc⟩ : ∃ c, S[m] = c := ⟨_, rfl⟩
        have hck : (bs.drop a)[m - a]? = some c := by
          rw [List.getElem?_drop, ← HS.out, ← hc]
          rw [Array.getElem?_toList, show a + (m - a) = m by omega]
          exact Array.getElem?_eq_getElem hlt
        have Hck := Lib.hid hck
        have hc256 := c.toNat_lt
        clear hck
        by_cases hbig : 128 ≤ c.toNat
        · have d2 : decide ((c.toNat : Int) ≥ 128) = true := decide_eq_true (by omega)
          have hno2 : Hid (∀ x ∈ (bs.drop a).take (m + 1 - a), 128 ≤ x.toNat) := fun x hx => by
            rw [show m + 1 - a = m - a + 1 by omega, List.take_add_one, Hck.out] at hx
            rcases List.mem_append.1 hx with h | h
            · exact hno.out x h
            · have : x = c := by simpa using h
              rw [this]; exact hbig
          clear hbig
          go_wp2_with fail
          go_roundw
          case rel => exact ⟨by trivial, m + 1, val_int (by omega), by omega, by omega, hno2⟩
          case measure => simp [intOf]; omega
        · have d2 : decide ((c.toNat : Int) ≥ 128) = false := decide_eq_false (by omega)
          have q1 : ((m : Int) == (S.size : Int)) = false := by rw [beq_eq_false_iff_ne]; omega
          have hL : Hid (Ob.len (bs.drop a) = m - a + 1) := Ob.len_at hno.out Hck.out (by omega)
          obtain ⟨B, hB⟩ : ∃ B, S.extract a (m + 1) = B := ⟨_, rfl⟩
          have hBl : B.data.toList = (bs.drop a).take (m - a + 1) := by
            rw [← hB, extract_l, HS.out, List.drop_take]
            congr 1
            omega
          have hBr : Ob.read B.data.toList = Ob.read (bs.drop a) := by
            rw [hBl, ← hL.out]
            exact Ob.read_take _ (by rw [hL.out]; omega)
          have HBr := Lib.hid hBr
          have HBe := Lib.hid hB
          have hBs : B.size ≤ 1000000000 := by rw [show B.size = B.data.toList.length by simp, hBl, List.length_take, List.length_drop]; omega
          have wn : IntKind.i64.wrap ((m : Int) + 1) = (m : Int) + 1 := by rw [IntKind.wrap_i64]; omega
          go_upto_region 9 with fail
          clear hBl hBr hB
          refine Lx.region Lx.below_steps [(0, true), (1, true), (2, true), (3, true), (4, true), (5, true), (6, true), (7, true), (8, true), (9, true), (10, true), (11, false), (12, false), (13, true), (14, true), (15, true), (16, true), (17, true), (18, true)] [(19, false)] (fun w' => (∀ b o, b < wr.heap.size → w'.cell? ⟨b, o, none⟩ = wr.cell? ⟨b, o, none⟩) ∧ (∀ b o, b < wr.heap.size → w'.frozen? ⟨b, o, none⟩ = wr.frozen? ⟨b, o, none⟩) ∧ Below wr.heap.size wr w') (by kernel_rfl) (by kernel_rfl) (fun _ _ _ _ _ h => h) (fun _ h => held_below h) (fun _ _ h hb => held_call h hb) ?_; intro xa hbxa; replace hbxa : Below wr.heap.size wr xa := hbxa; simp only [Lx.pick, List.filterMap_cons, List.filterMap_nil, List.getElem?_cons_succ, List.getElem?_cons_zero, List.map_cons, List.map_nil]; have hSxa := held_below hbxa
          have i1 : (0 : Int) ≤ (m : Int) + 1 := by omega
          have i2 : (m : Int) + 1 ≤ (S.size : Int) := by omega
          have i3 : (a : Int) ≤ (m : Int) + 1 := by omega
          repeat (first | (refine Lx.takeY ?_ (by rfl) ?_ (by assumption) ?_; rotate_left; (focus (intro w' hSw; (try dsimp only at hSw); go_simp; (try with_reducible rfl))); simp only [Act.put, List.setIfInBounds_toArray, List.set_cons_zero, List.set_cons_succ]) | (refine Lx.takeN (by rfl) (by assumption) ?_; simp only [Act.put, List.setIfInBounds_toArray, List.set_cons_zero, List.set_cons_succ]))
          rw [HBe.out]
          obtain ⟨cap, wy, hcv, hcap, hlty, hby, hrow⟩ := string_bytes (P := Try.prog) xa (src := 9) (dst := 22) (e := 5) B Try.underlying9 Try.underlying22 Try.underlying5
          refine Lx.go ?_
          intro K hK
          go_simp
          refine hK _ _ hby ?_
          clear hK K
          intro wyb hbyb
          replace hbyb : Below wy.heap.size wy wyb := hbyb
          have hSyb := held_call (held_call hSxa hby) hbyb
          try simp only [Act.put, List.setIfInBounds_toArray, List.set_cons_zero, List.set_cons_succ]
          have hbr : BRow (fun _ => True) wyb (.slice (some ⟨xa.heap.size, 0, none⟩) B.size cap) B.data.toList := by
            refine ⟨some ⟨xa.heap.size, 0, none⟩, cap, by simp, ?_, by rw [show B.data.toList.length = B.size by simp]; exact hcap⟩
            have h1 : rowOf wy xa.heap.size (B.data.toList.map byteVal) := hrow
            exact (holds_row (A := fun _ => True) h1 trivial).keep (agree_below hbyb)
          have hrd := rreadnumber_any _ _ wyb hbr (by simp; omega)
          rw [HBr.out] at hrd
          obtain ⟨x, y, z, hxyz⟩ : ∃ x y z, Ob.read (bs.drop a) = (x, y, z) := ⟨_, _, _, rfl⟩
          rw [hxyz, hL.out] at hres
          rw [hxyz] at hrd
          have hz2 : Hid (z = false → x = 0 ∧ y = 0) := fun h => by
            have h1 := hxyz
            unfold Ob.read at h1
            split at h1
            · injection h1 with _ h1; injection h1 with _ h1; rw [← h1] at h; cases h
            · injection h1 with h0 h1; injection h1 with h2 _; exact ⟨h0.symm, h2.symm⟩
          have hsz := Ob.read_size (bs.drop a)
          rw [hxyz] at hsz
          have hyl : a + y ≤ S.size := by rw [List.length_drop, Hn.out] at hsz; dsimp only at hsz; omega
          have Hrd := Lib.hid (fun (w' : World) (h : w' = wyb) => (h ▸ hrd : Calls Try.prog 12 #[.slice (some ⟨xa.heap.size, 0, none⟩) B.size cap] w' fun e w'' => e = .returned (readVal (x, y, z)) ∧ w'' = w'))
          unfold readVal at Hrd
          dsimp only at Hrd
          clear hrd hbr hrow hcv hcap hlty hxyz hsz
          refine Lx.go ?_; intro K hK; go_simp; go_at_call 12; refine (Hrd.out _ rfl).mono ?_
          rintro e' w0c ⟨rfl, rfl⟩
          refine hK _ _ (ext_refl _) ?_
          clear hK K
          intro wxc hbxc
          replace hbxc : Below w0c.heap.size w0c wxc := hbxc
          have hSxc := held_call hSyb hbxc
          try simp only [Act.put, List.setIfInBounds_toArray, List.set_cons_zero, List.set_cons_succ]
          repeat (first | (refine Lx.takeY ?_ (by rfl) ?_ (by assumption) ?_; rotate_left; (focus (intro w' hSw; (try dsimp only at hSw); go_simp; (try with_reducible rfl))); simp only [Act.put, List.setIfInBounds_toArray, List.set_cons_zero, List.set_cons_succ]) | (refine Lx.takeN (by rfl) (by assumption) ?_; simp only [Act.put, List.setIfInBounds_toArray, List.set_cons_zero, List.set_cons_succ]))
          refine Lx.tail ?_
          have HRc := Lib.hid (HR.out.call hSxc.2.2)
          have HBc := Lib.hid hSxc.2.2
          have d1' := HRc.out.cells 1
          have d2' := HRc.out.cells 2
          have df1 := HRc.out.frozen 1
          have df2 := HRc.out.frozen 2
          have dl := HRc.out.lt
          simp only [List.getElem?_cons_zero, List.getElem?_cons_succ] at d1' d2'
          clear hSxa hSyb hSxc hbxa hbyb hbxc hby Hrd i1 i2 i3 wn c0 c1 c2 f0 f1 f2 cl
          have hL0 : Hid (¬ (m - a + 1 = 0)) := by show ¬ _; omega
          cases z with
          | true =>
            have hres2 : Hid (Ob.rNum bs (a, 0) = (x, (a + y, 0))) := by show _ = _; rw [hres.out, if_neg hL0.out]; rfl
            go_wp2_with fail
            go_ret
            exact ⟨by rw [hres2.out]; rfl, by rw [hres2.out]; exact HRc.out.set 1 (.int .i64 ((a + y : Nat) : Int)) (by simp), but_set (Ls.But.of HBc.out)⟩
          | false =>
            have hy0 : x = 0 ∧ y = 0 := hz2.out rfl
            obtain ⟨rfl, rfl⟩ := hy0
            have hres2 : Hid (Ob.rNum bs (a, 0) = (0, (a, 5))) := by show _ = _; rw [hres.out, if_neg hL0.out]; rfl
            go_wp2_with fail
            go_ret
            exact ⟨by rw [hres2.out]; rfl, by rw [hres2.out]; exact HRc.out.set 2 (.int .i64 5) (by simp), but_set (Ls.But.of HBc.out)⟩
      · have d1 : decide ((m : Int) < (S.size : Int)) = false := decide_eq_false (by omega)
        have hke : m = S.size := by omega
        have hL : Ob.len (bs.drop a) = 0 := Ob.len_none fun c hc => by
          have h1 := hno.out
          rw [List.take_of_length_le (by rw [List.length_drop, Hn.out]; omega)] at h1
          exact h1 c hc
        have hg : Ob.read (bs.drop a) = (0, 0, false) := by
          unfold Ob.read
          rw [Ob.good_none (.inl hL)]
          rfl
        have hres2 : Hid (Ob.rNum bs (a, 0) = (0, (a, 8))) := by show _ = _; rw [hres.out, hg, hL]; rfl
        have q1 : ((m : Int) == (S.size : Int)) = true := by rw [beq_iff_eq]; omega
        clear hL hg hke
        go_wp2_with fail
        go_ret
        exact ⟨by rw [hres2.out]; rfl, by rw [hres2.out]; exact HR.out.set 2 (.int .i64 8) (by simp), but_set (Ls.But.of (ext_refl wr))⟩
  · have q0 : (e != 0) = true := by simp [he]
    have hres : Hid (Ob.rNum bs (a, e) = (0, (a, e))) := by
      show _ = _
      unfold Ob.rNum
      simp only [he, if_false]
    clear he
    go_enter Try.func59, Try.ntmps59
    go_wp2_with fail
    go_ret
    exact ⟨by rw [hres.out]; rfl, by rw [hres.out]; exact HR.out, Ls.But.of (ext_refl w)⟩

set_option maxRecDepth 100000 in
set_option maxHeartbeats 1600000 in
theorem rrdmany_any (g : Nat) (S : ByteArray) (bs : List UInt8) (hS : S.data.toList = bs) (a : Nat) (e : Int) (w : World) (hR : Blk w g [.string S, .int .i64 a, .int .i64 e]) (ha : a ≤ bs.length) (hl : bs.length ≤ 1000000000) :
    Calls Try.prog 61 #[.pointer (some ⟨g, 0, none⟩)] w fun e' w' => e' = .returned (.int .i64 (Ob.rCount bs (a, e)).1) ∧ Blk w' g [.string S, .int .i64 (Ob.rCount bs (a, e)).2.1, .int .i64 (Ob.rCount bs (a, e)).2.2] ∧ Ls.But g w w' := by
  have H := Lib.hid (rrdnum_any g S bs hS a e w hR ha hl)
  have hw := Ob.rNum_wf bs (a, e)
  have herr : Hid ((Ob.rNum bs (a, e)).2.2 ≠ 0 → (Ob.rNum bs (a, e)).1 = 0) := fun h => by
    by_cases he : e = 0
    · subst he
      unfold Ob.rNum at h ⊢
      simp only [if_true] at h ⊢
      unfold Ob.read at h ⊢
      split
      · rename_i hg
        rw [if_pos hg] at h
        exfalso
        have h0 : ¬ Ob.len (bs.drop a) = 0 := by
          unfold Ob.good at hg
          exact (of_decide_eq_true hg).1
        simp [h0] at h
      · rfl
    · rw [Ob.rNum_err (s := (a, e)) he]
  obtain ⟨x, a1, e1, hr⟩ : ∃ x a1 e1, Ob.rNum bs (a, e) = (x, (a1, e1)) := ⟨_, _, _, rfl⟩
  have hres : Hid (Ob.rCount bs (a, e) = if x < 0 then (0, (a1, 5)) else if 4000 < x then (0, (a1, 3)) else if e1 = 0 then (x.toNat, (a1, e1)) else (0, (a1, e1))) := by
    show _ = _
    unfold Ob.rCount
    rw [hr]
  rw [hr] at H hw herr
  clear hr hR hS
  go_enter Try.func61, Try.ntmps61
  go_wp2_with fail
  refine H.out.mono ?_
  rintro e' w2 ⟨rfl, hR2, hB2⟩
  have HR2 := Lib.hid hR2
  have HB2 := Lib.hid hB2
  have c2 := hR2.cells 2
  have cf := hR2.frozen 2
  have cl := hR2.lt
  simp only [List.getElem?_cons_zero, List.getElem?_cons_succ] at c2
  try dsimp only at hw herr
  clear H hR2 hB2
  by_cases he : e1 = 0
  · subst he
    clear herr
    by_cases h0 : x < 0
    · have q0 : decide (x < 0) = true := decide_eq_true h0
      have hres2 : Hid (Ob.rCount bs (a, e) = (0, (a1, 5))) := by show _ = _; rw [hres.out, if_pos h0]
      go_wp2_with fail
      go_ret
      exact ⟨by rw [hres2.out]; rfl, by rw [hres2.out]; exact HR2.out.set 2 (.int .i64 5) (by simp), but_set HB2.out⟩
    · have q0 : decide (x < 0) = false := decide_eq_false h0
      by_cases h4 : 4000 < x
      · have q4 : decide (4000 < x) = true := decide_eq_true h4
        have hres2 : Hid (Ob.rCount bs (a, e) = (0, (a1, 3))) := by show _ = _; rw [hres.out, if_neg h0, if_pos h4]
        go_wp2_with fail
        go_ret
        exact ⟨by rw [hres2.out]; rfl, by rw [hres2.out]; exact HR2.out.set 2 (.int .i64 3) (by simp), but_set HB2.out⟩
      · have q4 : decide (4000 < x) = false := decide_eq_false h4
        have hres2 : Hid (Ob.rCount bs (a, e) = (x.toNat, (a1, 0))) := by show _ = _; rw [hres.out, if_neg h0, if_neg h4]; rfl
        have hx : Hid ((x.toNat : Int) = x) := by show _ = _; omega
        go_wp2_with fail
        go_ret
        exact ⟨by rw [hres2.out, hx.out]; rfl, by rw [hres2.out]; exact HR2.out, HB2.out⟩
  · have hx0 : x = 0 := herr.out he
    have hres2 : Hid (Ob.rCount bs (a, e) = (0, (a1, e1))) := by show _ = _; rw [hres.out, hx0, if_neg (by decide), if_neg (by decide), if_neg he]
    have q5 : (e1 == 0) = false := by simp [he]
    have q6 : (e1 != 0) = true := by simp [he]
    clear he herr hx0
    go_wp2_with fail
    go_ret
    exact ⟨by rw [hres2.out]; rfl, by rw [hres2.out]; exact HR2.out, HB2.out⟩

set_option maxRecDepth 100000 in
set_option maxHeartbeats 1600000 in
theorem rrdlist_any (g : Nat) (S : ByteArray) (bs : List UInt8) (hS : S.data.toList = bs) (a : Nat) (e : Int) (w : World) (hR : Blk w g [.string S, .int .i64 a, .int .i64 e]) (ha : a ≤ bs.length) (hl : bs.length ≤ 1000000000) :
    Calls Try.prog 60 #[.pointer (some ⟨g, 0, none⟩)] w fun e' w' => ∃ v' L, e' = .returned v' ∧ NRow (w.heap.size ≤ ·) w' v' L ∧ ((Ob.rList bs (a, e)).2.2 = 0 → L = (Ob.rList bs (a, e)).1) ∧ Blk w' g [.string S, .int .i64 (Ob.rList bs (a, e)).2.1, .int .i64 (Ob.rList bs (a, e)).2.2] ∧ Ls.But g w w' := by
  have H := Lib.hid (rrdmany_any g S bs hS a e w hR ha hl)
  have hgw := hR.lt
  have HS := Lib.hid hS
  obtain ⟨N, hN⟩ : ∃ N, (Ob.rCount bs (a, e)).1 = N := ⟨_, rfl⟩
  obtain ⟨s, hs⟩ : ∃ s, (Ob.rCount bs (a, e)).2 = s := ⟨_, rfl⟩
  have hs1 : s.1 ≤ bs.length := by rw [← hs]; exact Ob.rCount_at ha
  have hN4 : N ≤ 4000 := by rw [← hN]; exact Ob.rCount_le bs (a, e)
  have hres : Hid (Ob.rList bs (a, e) = Ob.rMany bs N s) := by show _ = _; unfold Ob.rList; rw [hN, hs]
  have Hl := Lib.hid hl
  have Hs1 := Lib.hid hs1
  rw [hN, hs] at H
  clear hR hN hs hs1 ha hl hS
  go_enter Try.func60, Try.ntmps60
  go_wp2_with fail
  refine H.out.mono ?_
  rintro e' w2 ⟨rfl, hR2, hB2⟩
  have HR2 : Hid (Blk w2 g [.string S, .int .i64 (Ob.rMany bs 0 s).2.1, .int .i64 (Ob.rMany bs 0 s).2.2]) := hR2
  have HB2 := Lib.hid hB2
  clear H hR2 hB2
  go_upto_region 3 with fail
  go_loopw [3, 4] (fun u i wr => ∃ (j : Nat) (L : List Int), i = .int .i64 ((N : Int) - j) ∧ j ≤ N ∧ L.length = j ∧ Hid (wr.ownsRow w.heap.size 3 1 u j (L.map (.int .i64))) ∧ Hid ((Ob.rMany bs j s).2.2 = 0 → L = (Ob.rMany bs j s).1) ∧ Hid (Blk wr g [.string S, .int .i64 (Ob.rMany bs j s).2.1, .int .i64 (Ob.rMany bs j s).2.2]) ∧ Hid (Ls.But g w wr)) (fun _ i _ => (intOf i).toNat)
  case atStart => exact ⟨0, [], by rw [show ((N : Int) - (0 : Nat)) = N by omega], Nat.zero_le _, rfl, World.ownsRow_nil _ _ _ _, fun _ => rfl, HR2, HB2⟩
  case round =>
    obtain ⟨j, L, rfl, hj, hLl, hO, hLe, hR, hBt⟩ := hrel
    clear HR2 HB2
    generalize wr = wj at *
    have hat := Ob.rMany_at (b := bs) (s := s) Hs1.out j
    have hnext : Hid ((Ob.rMany bs (j + 1) s).2 = (Ob.rNum bs (Ob.rMany bs j s).2).2) := rfl
    have hnext1 : Hid ((Ob.rMany bs (j + 1) s).1 = (Ob.rMany bs j s).1 ++ [(Ob.rNum bs (Ob.rMany bs j s).2).1]) := rfl
    have hstop : Hid ((Ob.rMany bs j s).2.2 ≠ 0 → (Ob.rMany bs N s).2 = (Ob.rMany bs j s).2) := fun h => by
      rw [show N = j + (N - j) by omega, Ob.rMany_err h]
    have hlast : Hid (j = N → (Ob.rMany bs N s) = (Ob.rMany bs j s)) := fun h => by rw [h]
    obtain ⟨M, a1, e1, hM⟩ : ∃ M a1 e1, Ob.rMany bs j s = (M, (a1, e1)) := ⟨_, _, _, rfl⟩
    rw [hM] at hR hnext hnext1 hat hLe hstop hlast
    dsimp only at hR hnext hnext1 hat hLe hstop hlast
    have c2 := hR.out.cells 2
    have cl := hR.out.lt
    simp only [List.getElem?_cons_zero, List.getElem?_cons_succ] at c2
    obtain ⟨n, hn⟩ : ∃ n : Int, (N : Int) - (j : Int) = n := ⟨_, rfl⟩
    rw [hn]
    have HLl := Lib.hid hLl
    clear hM hLl
    by_cases hlt : j < N
    · have d1 : decide (0 < n) = true := decide_eq_true (by omega)
      by_cases he : e1 = 0
      · subst he
        have H := Lib.hid (rrdnum_any g S bs HS.out a1 0 wj hR.out hat Hl.out)
        obtain ⟨x, s2, hx⟩ : ∃ x s2, Ob.rNum bs (a1, 0) = (x, s2) := ⟨_, _, rfl⟩
        rw [hx] at H hnext hnext1
        dsimp only at H hnext hnext1
        have HLe := Lib.hid (hLe.out rfl)
        clear hx hat hR hstop hLe
        go_wp2_with fail
        refine H.out.mono ?_
        rintro e' w3 ⟨rfl, hR3, hB3⟩
        have hO3 : w3.ownsRow w.heap.size 3 1 u3 j (L.map (.int .i64)) := ownsRow_keep hO.out (But.agree hB3) fun b eb => by have := (hO.out.lt b eb).1; omega
        obtain ⟨wb, hwb, hbv, hbb⟩ := fresh_blk w3 [Value.int .i64 x] 3
        have hsrc : Src Try.prog 1 26 (.slice (some ⟨w3.heap.size, 0, none⟩) 1 1) 1 [Value.int .i64 x] wb :=
          Src.ofSlice wb (e' := 3) Try.underlying26 _ 1 1 _ rfl (fun j u hj => by rw [Addr.add_lit, Nat.zero_add]; exact (hbv.cells j).trans hj) (fun u hu => by rw [List.mem_singleton.1 hu]; rfl)
        have Hsrc := Lib.hid hsrc
        have HO3 := Lib.hid (ownsRow_below hO3 hbb)
        have HR3 := Lib.hid (hR3.call hbb)
        have hBb := (hBt.out.trans hB3).trans (Ls.But.of hbb)
        have HBb := Lib.hid hBb
        have hsb : w.heap.size ≤ wb.heap.size := hBb.size
        clear H hR3 hB3 hO3 hsrc hbv hbb hBb hO hBt c2 cl
        go_wp2_with (at_builtin; (try rw [hwb]); refine app_src _ _ 26 26 3 (.int .i64 0) 1 8 rfl rfl Try.underlying26 (by kernel_rfl) rfl (by decide) w.heap.size HO3.out hsb rfl rfl Hsrc.out (by unfold maxLen; omega) (by omega) ?_)
        intro v9 w9 ho9 hg9
        have HO9 : Hid (w9.ownsRow w.heap.size 3 1 v9 (j + 1) ((L ++ [x]).map (.int .i64))) := by
          show w9.ownsRow _ _ 1 v9 _ _
          rw [List.map_append]
          exact ho9
        have HR9 : Hid (Blk w9 g [.string S, .int .i64 (Ob.rMany bs (j + 1) s).2.1, .int .i64 (Ob.rMany bs (j + 1) s).2.2]) := by
          show Blk w9 g _
          rw [hnext.out]
          exact HR3.out.keep (A := (· = g)) (agree_grown hg9 fun b hb eb => by have := (HO3.out.lt b eb.symm).1; omega) hg9.size rfl
        have HB9 := Lib.hid (But.grown HBb.out hg9 fun k hk => (HO3.out.lt k hk).1)
        have HL9 : Hid ((Ob.rMany bs (j + 1) s).2.2 = 0 → L ++ [x] = (Ob.rMany bs (j + 1) s).1) := fun _ => by rw [hnext1.out, HLe.out]
        clear ho9 hg9 hwb
        have hn1 : IntKind.i64.wrap (n - 1) = n - 1 := by rw [IntKind.wrap_i64]; omega
        go_wp2_with fail
        go_roundw
        case rel => exact ⟨j + 1, L ++ [x], val_int (by omega), hlt, by rw [List.length_append, HLl.out]; rfl, HO9, HL9, HR9, HB9⟩
        case measure => simp [intOf]; omega
      · have q0 : (e1 == 0) = false := by simp [he]
        have hst := hstop.out he
        have hrl : Hid ((Ob.rList bs (a, e)).2 = (a1, e1)) := by show _ = _; rw [hres.out]; exact hst
        have he' : Hid (¬ e1 = 0) := he
        clear hst hstop he hat
        go_wp2_with fail
        go_ret
        exact ⟨u3, L, rfl, NRow.of_own (by rw [HLl.out]; exact hO.out), fun h => absurd (by rw [hrl.out] at h; exact h) he'.out, by rw [hrl.out]; exact hR.out, hBt.out⟩
    · have d1 : decide (0 < n) = false := decide_eq_false (by omega)
      have hrl : Hid (Ob.rList bs (a, e) = (M, (a1, e1))) := by show _ = _; rw [hres.out]; exact hlast.out (by omega)
      clear hstop hat hlast
      go_wp2_with fail
      go_ret
      exact ⟨u3, L, rfl, NRow.of_own (by rw [HLl.out]; exact hO.out), fun h => by rw [hrl.out] at h ⊢; exact hLe.out h, by rw [hrl.out]; exact hR.out, hBt.out⟩
end Go.Proofs.Ytabeimmjclkobaa
