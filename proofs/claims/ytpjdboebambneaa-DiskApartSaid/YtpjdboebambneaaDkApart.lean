/- DiskApart: writes to different sectors can be exchanged. -/
import Derived.Test.YtpjdboebambneaaDv
import Derived.Test.YtpjdboebambneaaLp
namespace Go.Proofs.Ytpjdboebambneaa
open Go.ChangeShapes Go.WideShapes Go.RowKit

set_option maxRecDepth 100000 in
set_option maxHeartbeats 3200000 in
theorem dapart_any (p : Option Addr) (cap : Nat) (ts : List Int) (a b : Int) (bo : Bool) (w : World) (ht : Holds (· < w.heap.size) w p (ts.map (.int .i64))) (hwf : ∀ n ∈ ts, (Lit.int .i64 n).wf = true) (ha : (Lit.int .i64 a).wf = true) (hb : (Lit.int .i64 b).wf = true) :
    Calls Try.prog 9 #[.slice p ts.length cap, .int .i64 a, .int .i64 b, .bool bo] w fun e w' => e = .returned (.bool true) ∧ Below w.heap.size w w' := by
  have Ha := Lib.hid ha
  have Hbb := Lib.hid hb
  have Ht := Lib.hid ht
  have Hwf := Lib.hid hwf
  clear ha hb ht hwf
  obtain ⟨l, hl⟩ : ∃ l, ts.length = l := ⟨_, rfl⟩
  rw [hl]
  have Hl := Lib.hid hl
  clear hl
  by_cases h400 : l ≤ 400
  · have hd : decide (l ≤ 400) = true := by simpa using h400
    go_enter Try.func9, Try.ntmps9
    go_wp2_with fail
    refine (light_any _ l _ ⟨_, _, rfl⟩).mono ?_
    rintro e w' ⟨rfl, rfl⟩
    rw [hd]
    go_wp2_with fail
    refine (roll_any _ ts _ ⟨p, cap, by rw [Hl.out]⟩).mono ?_
    rintro e w1 ⟨gd, rfl, hb1, hgd, hdice⟩
    have hI : IntsAt (· ≠ gd) w1 (.slice p l cap) ts := ⟨p, cap, by rw [Hl.out], (Ht.out.keep (agree_below hb1)).mono fun b hb => by omega, by rw [Hl.out]; exact h400, Hwf.out⟩
    go_wp2_with fail
    refine (some_any gd _ ts _ hdice hI).mono ?_
    rintro e w2 ⟨v2, D0, rfl, hDR, hG0, hm7, hn5', hD0⟩
    have hb2 : Below w.heap.size w w2 := hb1.trans (hDR.below hdice.lt hgd)
    clear hDR hI hdice hgd hb1
    go_wp2_with fail
    refine (rsync_any _ D0 _ hD0 hG0).mono ?_
    rintro e w3 ⟨v3, rfl, hb3, hD⟩
    obtain ⟨hG, hW0, hlen⟩ := sync_good hG0
    rw [← hlen] at hn5'
    generalize Dk.sync D0 = D at *
    obtain ⟨p3, c3, p4, c4, rfl⟩ := hD.parts
    obtain ⟨n, hn⟩ : ∃ n, D.cells.length = n := ⟨_, rfl⟩
    have hn1 : 1 ≤ n := by rw [← hn]; exact hG.some
    have hm : D.writes.length = 0 := by rw [hW0]; rfl
    rw [hn] at hn5'
    rw [hn, hm] at hD ⊢
    have Hn := Lib.hid hn
    have HW0 := Lib.hid hW0
    have HG := Lib.hid hG
    have hb3' : Below w.heap.size w w3 := hb2.trans (hb3.mono hb2.size)
    clear hn hm hG hG0 hW0 hlen hD0 hm7 hb2 hb3
    go_upto_region 5 with fail
    obtain ⟨w4, hw4, B4, hb4⟩ := fresh_blk w3 [Value.slice p3 n c3, Value.slice p4 0 c4] 46
    rw [hw4]
    have HV := Lib.hid (DVH.of (DV.new hD B4 hb4))
    have Hb := Lib.hid (hb3'.trans (hb4.mono hb3'.size))
    obtain ⟨gx, hgx⟩ : ∃ g, g = w3.heap.size := ⟨_, rfl⟩
    have hgxw : w.heap.size ≤ gx := by rw [hgx]; exact hb3'.size
    rw [← hgx] at HV B4
    rw [← hgx]
    have cx0 := B4.cells 0
    have cx1 := B4.cells 1
    have zx := B4.lt
    simp only [List.getElem?_cons_zero, List.getElem?_cons_succ] at cx0 cx1
    clear hw4 B4 hb4 hb3' hD hgx
    have hn1' : 1 ≤ (n : Int) := by omega
    obtain ⟨i, hi⟩ : ∃ i : Nat, a % (n : Int) = (i : Int) := Int.eq_ofNat_of_zero_le (Int.emod_nonneg a (show (n : Int) ≠ 0 by omega))
    have hin : i < n := by have := Int.emod_lt_of_pos a (show (0 : Int) < n by omega); omega
    have Hi := Lib.hid hi
    clear hi
    go_wp2_with fail
    refine (mod_any _ _ _ Ha.out hn1' (by omega)).mono ?_
    rintro e w' ⟨rfl, rfl⟩
    rw [Hi.out]
    go_upto_region 7 with fail
    go_cut [13] (fun s13 wx => (∃ k : Nat, s13 = .int .i64 k ∧ k < n) ∧ wx = w4)
    case first =>
      have hi5 : i < 5 := by omega
      by_cases hn2 : n ≤ 2
      · have hmx : (n : Int) - 1 ≤ 1 := by omega
        have hb0 := Int.emod_nonneg b (show (1 : Int) ≠ 0 by omega)
        have hb1 := Int.emod_lt_of_pos b (show (0 : Int) < 1 by omega)
        obtain ⟨k0, hk0⟩ : ∃ k0 : Nat, b % 1 = (k0 : Int) := Int.eq_ofNat_of_zero_le hb0
        rw [hk0] at hb1
        have Hk0 := Lib.hid hk0
        clear hk0 hb0
        obtain ⟨k, hk⟩ : ∃ k : Nat, ((i : Int) + 1 + (k0 : Int)) % (n : Int) = (k : Int) := Int.eq_ofNat_of_zero_le (Int.emod_nonneg _ (show (n : Int) ≠ 0 by omega))
        have hkn : k < n := by have := Int.emod_lt_of_pos ((i : Int) + 1 + (k0 : Int)) (show (0 : Int) < n by omega); omega
        have Hk := Lib.hid hk
        clear hk
        go_wp2_with fail
        refine (mod_any _ _ _ Hbb.out (by omega) (by omega)).mono ?_
        rintro e w' ⟨rfl, rfl⟩
        rw [Hk0.out]
        go_wp2_with fail
        refine (mod_any _ _ _ (by simp [Lit.wf, IntKind.min, IntKind.max, IntKind.bits, IntKind.signed]; omega) hn1' (by omega)).mono ?_
        rintro e w' ⟨rfl, rfl⟩
        rw [Hk.out]
        go_wp2_with fail
        go_meet
        exact ⟨⟨k, rfl, hkn⟩, rfl⟩
      · have hmx : ¬ ((n : Int) - 1 ≤ 1) := by omega
        have hmx2 : (1 : Int) < (n : Int) - 1 := by omega
        have hb0 := Int.emod_nonneg b (show ((n : Int) - 1) ≠ 0 by omega)
        have hb1 := Int.emod_lt_of_pos b (show (0 : Int) < ((n : Int) - 1) by omega)
        obtain ⟨k0, hk0⟩ : ∃ k0 : Nat, b % ((n : Int) - 1) = (k0 : Int) := Int.eq_ofNat_of_zero_le hb0
        rw [hk0] at hb1
        have Hk0 := Lib.hid hk0
        clear hk0 hb0
        obtain ⟨k, hk⟩ : ∃ k : Nat, ((i : Int) + 1 + (k0 : Int)) % (n : Int) = (k : Int) := Int.eq_ofNat_of_zero_le (Int.emod_nonneg _ (show (n : Int) ≠ 0 by omega))
        have hkn : k < n := by have := Int.emod_lt_of_pos ((i : Int) + 1 + (k0 : Int)) (show (0 : Int) < n by omega); omega
        have Hk := Lib.hid hk
        clear hk
        go_wp2_with fail
        refine (mod_any _ _ _ Hbb.out (by omega) (by omega)).mono ?_
        rintro e w' ⟨rfl, rfl⟩
        rw [Hk0.out]
        go_wp2_with fail
        refine (mod_any _ _ _ (by simp [Lit.wf, IntKind.min, IntKind.max, IntKind.bits, IntKind.signed]; omega) hn1' (by omega)).mono ?_
        rintro e w' ⟨rfl, rfl⟩
        rw [Hk.out]
        go_wp2_with fail
        go_meet
        exact ⟨⟨k, rfl, hkn⟩, rfl⟩
    case rest =>
      obtain ⟨⟨k, rfl, hkn⟩, rfl⟩ := hcut
      --BEGIN
      have HFD : Hid (Dk.Good D ∧ D.cells.length = n ∧ D.writes.length = 0) := ⟨HG.out, Hn.out, by rw [HW0.out]; rfl⟩
      by_cases hik : i = k
      · subst hik
        go_wp2_with fail
        refine (awake_any _).mono ?_
        rintro e w9 ⟨rfl, hb9⟩
        have Hb9 := Lib.hid (Hb.out.trans (hb9.mono Hb.out.size))
        clear hb9 cx0 cx1 zx
        go_wp2_with fail
        go_ret
        exact ⟨rfl, Hb9.out⟩
      have hikb : ((i : Int) == (k : Int)) = false := by simp; omega
      have HVgx := HV
      have hgegx := hgxw
      clear cx0 cx1 zx HV
      go_upto_region 10 with fail
      obtain ⟨hx, hhx⟩ : ∃ hx, wc.heap.size = hx := ⟨_, rfl⟩
      rw [hhx] at HVgx
      have htopx : hx ≤ wc.heap.size := Nat.le_of_eq hhx.symm
      clear hhx
      have c0 := HVgx.out.blk.cells 0
      have c1 := HVgx.out.blk.cells 1
      have z := HVgx.out.blk.lt
      simp only [List.getElem?_cons_zero, List.getElem?_cons_succ] at c0 c1
      refine Lx.region1 Lx.below_steps [(0, true), (1, true), (2, false), (3, false), (4, true)] [(5, true), (6, true)] [(8, false), (9, false)] 7 _ (fun w' => (∀ b o, b < wc.heap.size → w'.cell? ⟨b, o, none⟩ = wc.cell? ⟨b, o, none⟩) ∧ (∀ b o, b < wc.heap.size → w'.frozen? ⟨b, o, none⟩ = wc.frozen? ⟨b, o, none⟩) ∧ Below wc.heap.size wc w') (NewBlk wc.heap.size 46 [Value.slice none 0 0, Value.slice none 0 0]) (by kernel_rfl) (by kernel_rfl) rfl (fun _ _ _ _ _ h => h) (fun _ _ _ _ _ h => h) (fun _ h => held_below h) (fun _ _ h hb => held_call h hb) (fun _ _ _ h hb => h.call hb) (fun a w1 h => new_alloc (z := (Value.agg #[.slice none 0 0, .slice none 0 0])) (by rfl) (by kernel_rfl) h.2.2) ?_; intro xa hbxa; replace hbxa : Below wc.heap.size wc xa := hbxa; simp only [Lx.pick, List.filterMap_cons, List.filterMap_nil, List.getElem?_cons_succ, List.getElem?_cons_zero, List.map_cons, List.map_nil, List.cons_append, List.nil_append]; have hSxa := held_below hbxa
      repeat (first | (refine Lx.takeY ?_ (by rfl) ?_ (by assumption) ?_; rotate_left; (focus (intro w' hSw; (try dsimp only at hSw); go_simp; (try with_reducible rfl))); simp only [Act.put, List.setIfInBounds_toArray, List.set_cons_zero, List.set_cons_succ]) | (refine Lx.takeN (by rfl) (by assumption) ?_; simp only [Act.put, List.setIfInBounds_toArray, List.set_cons_zero, List.set_cons_succ]))
      refine Lx.go ?_; intro K hK; go_simp; go_at_call 34; refine (row4_any _).mono ?_; rintro e w0xb ⟨v9, rfl, hb0xb, hrow⟩; refine hK _ _ hb0xb ?_; clear hK K; intro wxb hbxb; replace hbxb : Below w0xb.heap.size w0xb wxb := hbxb; have hSxb := held_call (held_call hSxa hb0xb) hbxb; try simp only [Act.put, List.setIfInBounds_toArray, List.set_cons_zero, List.set_cons_succ]
      have hrow2 := (hrow.keep (agree_below hbxb)).mono (B := fun _ => True) fun _ _ => trivial
      have hdisk := (HVgx.out.call hSxb.2.2).disk.mono (B := fun _ => True) fun _ _ => trivial
      have hl9 := hrow2
      obtain ⟨q9, c9, rfl, _, _⟩ := hl9
      rw [show List.length row4 = 64 from rfl] at hrow2 ⊢
      have Hr := Lib.hid hrow2
      have Hdk := Lib.hid hdisk
      clear hrow hrow2 hdisk
      obtain ⟨P1, hP1⟩ : ∃ P1, Dk.put D (i : Int) row4 = P1 := ⟨_, rfl⟩
      have hF := put_facts HFD.out.1 (k := i) (bs := row4) (Nat.lt_of_lt_of_eq hin HFD.out.2.1.symm) rfl (Nat.lt_of_le_of_lt (Nat.le_of_eq HFD.out.2.2) (by decide))
      have hput := fun w1 v1 v2 => put_ok (A := fun _ => True) v1 v2 w1 D i row4 HFD.out.1 (Nat.lt_of_lt_of_eq hin HFD.out.2.1.symm) rfl (Nat.lt_of_le_of_lt (Nat.le_of_eq HFD.out.2.2) (by decide))
      rw [HFD.out.2.1, HFD.out.2.2] at hF
      rw [hP1] at hF hput
      have HFP1 := Lib.hid hF
      have HP1 := Lib.hid hP1
      have Hput := Lib.hid hput
      clear hF hP1 hput
      refine Lx.go ?_; intro K hK; go_simp; go_at_call 33; refine (Hput.out _ _ _ Hdk.out Hr.out).mono ?_; rintro e w0xc ⟨v5, rfl, hb0xc, hDk⟩; refine hK _ _ hb0xc ?_; clear hK K; intro wxc hbxc; replace hbxc : Below w0xc.heap.size w0xc wxc := hbxc; have hSxc := held_call (held_call hSxb hb0xc) hbxc; try simp only [Act.put, List.setIfInBounds_toArray, List.set_cons_zero, List.set_cons_succ]
      unfold newRes
      clear Hput
      obtain ⟨pgp, cgp, qgp, dgp, rfl⟩ := hDk.parts
      rw [HFP1.out.2.1, HFP1.out.2.2] at hDk ⊢
      repeat (first | (refine Lx.takeY ?_ (by rfl) ?_ (by assumption) ?_; rotate_left; (focus (intro w' hSw; (try dsimp only at hSw); go_simp; (try with_reducible rfl))); simp only [Act.put, List.setIfInBounds_toArray, List.set_cons_zero, List.set_cons_succ]) | (refine Lx.takeN (by rfl) (by assumption) ?_; simp only [Act.put, List.setIfInBounds_toArray, List.set_cons_zero, List.set_cons_succ]))
      refine Lx.tail ?_
      intro vv hv
      obtain ⟨gp, rfl, hggp, BN, _⟩ := hv
      simp only [Act.put, List.setIfInBounds_toArray, List.set_cons_zero, List.set_cons_succ]
      have hVn := DV.fresh hDk HFP1.out.1 hbxc BN
      have hbn := below_set2 hSxc.2.2 hggp (.slice pgp n cgp) (.slice qgp 1 dgp)
      have HNgx := Lib.hid (HVgx.out.call hbn)
      have HVgp := Lib.hid (DVH.of hVn)
      have Hbn := Lib.hid (Hb.out.trans (hbn.mono Hb.out.size))
      have hgegp : w.heap.size ≤ gp := Nat.le_trans Hb.out.size hggp
      have e0 := BN.cells 0
      have e1 := BN.cells 1
      have f0 := BN.frozen 0
      have f1 := BN.frozen 1
      have l17 := BN.lt
      simp only [List.getElem?_cons_zero, List.getElem?_cons_succ] at e0 e1
      clear hVn hbn BN hDk hSxa hSxb hSxc hbxa hbxb hbxc hb0xb hb0xc Hr Hdk Hb HVgx c0 c1 z
      go_upto_region 11 with fail
      clear e0 e1 f0 f1 l17
      generalize hwf : (wxc.setCell ⟨gp, 0, none⟩ (.slice pgp n cgp)).setCell ⟨gp, 1, none⟩ (.slice qgp 1 dgp) = wd at *
      clear hwf
      have Hb := Hbn
      have HVgx := HNgx
      clear Hbn HNgx
      have hxp : hx ≤ gp := Nat.le_trans htopx hggp
      clear htopx
      have c0 := HVgp.out.blk.cells 0
      have c1 := HVgp.out.blk.cells 1
      have z := HVgp.out.blk.lt
      simp only [List.getElem?_cons_zero, List.getElem?_cons_succ] at c0 c1
      refine Lx.region Lx.below_steps [(0, true), (1, true), (2, false), (3, false), (4, true)] [(5, true), (6, true), (7, false), (8, false)] (fun w' => (∀ b o, b < wd.heap.size → w'.cell? ⟨b, o, none⟩ = wd.cell? ⟨b, o, none⟩) ∧ (∀ b o, b < wd.heap.size → w'.frozen? ⟨b, o, none⟩ = wd.frozen? ⟨b, o, none⟩) ∧ Below wd.heap.size wd w') (by kernel_rfl) (by kernel_rfl) (fun _ _ _ _ _ h => h) (fun _ h => held_below h) (fun _ _ h hb => held_call h hb) ?_; intro ya hbya; replace hbya : Below wd.heap.size wd ya := hbya; simp only [Lx.pick, List.filterMap_cons, List.filterMap_nil, List.getElem?_cons_succ, List.getElem?_cons_zero, List.map_cons, List.map_nil]; have hSya := held_below hbya
      repeat (first | (refine Lx.takeY ?_ (by rfl) ?_ (by assumption) ?_; rotate_left; (focus (intro w' hSw; (try dsimp only at hSw); go_simp; (try with_reducible rfl))); simp only [Act.put, List.setIfInBounds_toArray, List.set_cons_zero, List.set_cons_succ]) | (refine Lx.takeN (by rfl) (by assumption) ?_; simp only [Act.put, List.setIfInBounds_toArray, List.set_cons_zero, List.set_cons_succ]))
      refine Lx.go ?_; intro K hK; go_simp; go_at_call 34; refine (row5_any _).mono ?_; rintro e w0yb ⟨v9, rfl, hb0yb, hrow⟩; refine hK _ _ hb0yb ?_; clear hK K; intro wyb hbyb; replace hbyb : Below w0yb.heap.size w0yb wyb := hbyb; have hSyb := held_call (held_call hSya hb0yb) hbyb; try simp only [Act.put, List.setIfInBounds_toArray, List.set_cons_zero, List.set_cons_succ]
      have hrow2 := (hrow.keep (agree_below hbyb)).mono (B := fun _ => True) fun _ _ => trivial
      have hdisk := (HVgp.out.call hSyb.2.2).disk.mono (B := fun _ => True) fun _ _ => trivial
      have hl9 := hrow2
      obtain ⟨q9, c9, rfl, _, _⟩ := hl9
      rw [show List.length row5 = 64 from rfl] at hrow2 ⊢
      have Hr := Lib.hid hrow2
      have Hdk := Lib.hid hdisk
      clear hrow hrow2 hdisk
      obtain ⟨P2, hP2⟩ : ∃ P2, Dk.put P1 (k : Int) row5 = P2 := ⟨_, rfl⟩
      have hF := put_facts HFP1.out.1 (k := k) (bs := row5) (Nat.lt_of_lt_of_eq hkn HFP1.out.2.1.symm) rfl (Nat.lt_of_le_of_lt (Nat.le_of_eq HFP1.out.2.2) (by decide))
      have hput := fun w1 v1 v2 => put_ok (A := fun _ => True) v1 v2 w1 P1 k row5 HFP1.out.1 (Nat.lt_of_lt_of_eq hkn HFP1.out.2.1.symm) rfl (Nat.lt_of_le_of_lt (Nat.le_of_eq HFP1.out.2.2) (by decide))
      rw [HFP1.out.2.1, HFP1.out.2.2] at hF
      rw [hP2] at hF hput
      have HFP2 := Lib.hid hF
      have HP2 := Lib.hid hP2
      have Hput := Lib.hid hput
      clear hF hP2 hput
      refine Lx.go ?_; intro K hK; go_simp; go_at_call 33; refine (Hput.out _ _ _ Hdk.out Hr.out).mono ?_; rintro e w0yc ⟨v5, rfl, hb0yc, hDk⟩; refine hK _ _ hb0yc ?_; clear hK K; intro wyc hbyc; replace hbyc : Below w0yc.heap.size w0yc wyc := hbyc; have hSyc := held_call (held_call hSyb hb0yc) hbyc; try simp only [Act.put, List.setIfInBounds_toArray, List.set_cons_zero, List.set_cons_succ]
      unfold newRes
      clear Hput
      have hDk2 := hDk.keep (agree_below hbyc)
      obtain ⟨pr, cr, qr, dr, rfl⟩ := hDk2.parts
      rw [HFP2.out.2.1, HFP2.out.2.2] at hDk2 ⊢
      have hlo : gp < wyb.heap.size := Nat.lt_of_lt_of_le z hSyb.2.2.size
      have hVn := DV.set (HVgp.out.call hSyc.2.2).blk hDk2 hlo
      have hbn := below_set2 (Hb.out.trans (hSyc.2.2.mono Hb.out.size)) hgegp (.slice pr n cr) (.slice qr 2 dr)
      have HNgx := Lib.hid ((HVgx.out.call hSyc.2.2).other gp hxp (.slice pr n cr) (.slice qr 2 dr))
      have HNs := Lib.hid (DVH.of hVn)
      have Hbn := Lib.hid hbn
      have e0 := cell_keep hSyc.2.2 c0
      have e1 := cell_keep hSyc.2.2 c1
      have f0 := (hSyc.2.1 gp 0 z).trans (HVgp.out.blk.frozen 0)
      have f1 := (hSyc.2.1 gp 1 z).trans (HVgp.out.blk.frozen 1)
      have zc : gp < wyc.heap.size := Nat.lt_of_lt_of_le z hSyc.2.2.size
      repeat (first | (refine Lx.takeY ?_ (by rfl) ?_ (by assumption) ?_; rotate_left; (focus (intro w' hSw; (try dsimp only at hSw); go_simp; (try with_reducible rfl))); simp only [Act.put, List.setIfInBounds_toArray, List.set_cons_zero, List.set_cons_succ]) | (refine Lx.takeN (by rfl) (by assumption) ?_; simp only [Act.put, List.setIfInBounds_toArray, List.set_cons_zero, List.set_cons_succ]))
      refine Lx.tail ?_
      clear hVn hbn hDk hDk2 hlo hSya hSyb hSyc hbya hbyb hbyc hb0yb hb0yc Hr Hdk Hb HVgx HVgp c0 c1 z
      go_upto_region 12 with fail
      clear e0 e1 f0 f1 zc
      generalize hwf : (wyc.setCell ⟨gp, 0, none⟩ (.slice pr n cr)).setCell ⟨gp, 1, none⟩ (.slice qr 2 dr) = we at *
      clear hwf
      have Hb := Hbn
      have HVgp := HNs
      have HVgx := HNgx
      clear Hbn HNs HNgx
      obtain ⟨hp, hhp⟩ : ∃ hp, we.heap.size = hp := ⟨_, rfl⟩
      rw [hhp] at HVgp
      have htopp : hp ≤ we.heap.size := Nat.le_of_eq hhp.symm
      clear hhp
      as_aux_lemma =>
      have c0 := HVgx.out.blk.cells 0
      have c1 := HVgx.out.blk.cells 1
      have z := HVgx.out.blk.lt
      simp only [List.getElem?_cons_zero, List.getElem?_cons_succ] at c0 c1
      refine Lx.region1 Lx.below_steps [(0, true), (1, true), (2, false), (3, false), (4, true)] [(5, true), (6, true)] [(8, false), (9, false)] 7 _ (fun w' => (∀ b o, b < we.heap.size → w'.cell? ⟨b, o, none⟩ = we.cell? ⟨b, o, none⟩) ∧ (∀ b o, b < we.heap.size → w'.frozen? ⟨b, o, none⟩ = we.frozen? ⟨b, o, none⟩) ∧ Below we.heap.size we w') (NewBlk we.heap.size 46 [Value.slice none 0 0, Value.slice none 0 0]) (by kernel_rfl) (by kernel_rfl) rfl (fun _ _ _ _ _ h => h) (fun _ _ _ _ _ h => h) (fun _ h => held_below h) (fun _ _ h hb => held_call h hb) (fun _ _ _ h hb => h.call hb) (fun a w1 h => new_alloc (z := (Value.agg #[.slice none 0 0, .slice none 0 0])) (by rfl) (by kernel_rfl) h.2.2) ?_; intro ua hbua; replace hbua : Below we.heap.size we ua := hbua; simp only [Lx.pick, List.filterMap_cons, List.filterMap_nil, List.getElem?_cons_succ, List.getElem?_cons_zero, List.map_cons, List.map_nil, List.cons_append, List.nil_append]; have hSua := held_below hbua
      repeat (first | (refine Lx.takeY ?_ (by rfl) ?_ (by assumption) ?_; rotate_left; (focus (intro w' hSw; (try dsimp only at hSw); go_simp; (try with_reducible rfl))); simp only [Act.put, List.setIfInBounds_toArray, List.set_cons_zero, List.set_cons_succ]) | (refine Lx.takeN (by rfl) (by assumption) ?_; simp only [Act.put, List.setIfInBounds_toArray, List.set_cons_zero, List.set_cons_succ]))
      refine Lx.go ?_; intro K hK; go_simp; go_at_call 34; refine (row5_any _).mono ?_; rintro e w0ub ⟨v9, rfl, hb0ub, hrow⟩; refine hK _ _ hb0ub ?_; clear hK K; intro wub hbub; replace hbub : Below w0ub.heap.size w0ub wub := hbub; have hSub := held_call (held_call hSua hb0ub) hbub; try simp only [Act.put, List.setIfInBounds_toArray, List.set_cons_zero, List.set_cons_succ]
      have hrow2 := (hrow.keep (agree_below hbub)).mono (B := fun _ => True) fun _ _ => trivial
      have hdisk := (HVgx.out.call hSub.2.2).disk.mono (B := fun _ => True) fun _ _ => trivial
      have hl9 := hrow2
      obtain ⟨q9, c9, rfl, _, _⟩ := hl9
      rw [show List.length row5 = 64 from rfl] at hrow2 ⊢
      have Hr := Lib.hid hrow2
      have Hdk := Lib.hid hdisk
      clear hrow hrow2 hdisk
      obtain ⟨Q1, hQ1⟩ : ∃ Q1, Dk.put D (k : Int) row5 = Q1 := ⟨_, rfl⟩
      have hF := put_facts HFD.out.1 (k := k) (bs := row5) (Nat.lt_of_lt_of_eq hkn HFD.out.2.1.symm) rfl (Nat.lt_of_le_of_lt (Nat.le_of_eq HFD.out.2.2) (by decide))
      have hput := fun w1 v1 v2 => put_ok (A := fun _ => True) v1 v2 w1 D k row5 HFD.out.1 (Nat.lt_of_lt_of_eq hkn HFD.out.2.1.symm) rfl (Nat.lt_of_le_of_lt (Nat.le_of_eq HFD.out.2.2) (by decide))
      rw [HFD.out.2.1, HFD.out.2.2] at hF
      rw [hQ1] at hF hput
      have HFQ1 := Lib.hid hF
      have HQ1 := Lib.hid hQ1
      have Hput := Lib.hid hput
      clear hF hQ1 hput
      refine Lx.go ?_; intro K hK; go_simp; go_at_call 33; refine (Hput.out _ _ _ Hdk.out Hr.out).mono ?_; rintro e w0uc ⟨v5, rfl, hb0uc, hDk⟩; refine hK _ _ hb0uc ?_; clear hK K; intro wuc hbuc; replace hbuc : Below w0uc.heap.size w0uc wuc := hbuc; have hSuc := held_call (held_call hSub hb0uc) hbuc; try simp only [Act.put, List.setIfInBounds_toArray, List.set_cons_zero, List.set_cons_succ]
      unfold newRes
      clear Hput
      obtain ⟨pgq, cgq, qgq, dgq, rfl⟩ := hDk.parts
      rw [HFQ1.out.2.1, HFQ1.out.2.2] at hDk ⊢
      repeat (first | (refine Lx.takeY ?_ (by rfl) ?_ (by assumption) ?_; rotate_left; (focus (intro w' hSw; (try dsimp only at hSw); go_simp; (try with_reducible rfl))); simp only [Act.put, List.setIfInBounds_toArray, List.set_cons_zero, List.set_cons_succ]) | (refine Lx.takeN (by rfl) (by assumption) ?_; simp only [Act.put, List.setIfInBounds_toArray, List.set_cons_zero, List.set_cons_succ]))
      refine Lx.tail ?_
      intro vv hv
      obtain ⟨gq, rfl, hggq, BN, _⟩ := hv
      simp only [Act.put, List.setIfInBounds_toArray, List.set_cons_zero, List.set_cons_succ]
      have hVn := DV.fresh hDk HFQ1.out.1 hbuc BN
      have hbn := below_set2 hSuc.2.2 hggq (.slice pgq n cgq) (.slice qgq 1 dgq)
      have HNgx := Lib.hid (HVgx.out.call hbn)
      have HNgp := Lib.hid (HVgp.out.call hbn)
      have HVgq := Lib.hid (DVH.of hVn)
      have Hbn := Lib.hid (Hb.out.trans (hbn.mono Hb.out.size))
      have hgegq : w.heap.size ≤ gq := Nat.le_trans Hb.out.size hggq
      have e0 := BN.cells 0
      have e1 := BN.cells 1
      have f0 := BN.frozen 0
      have f1 := BN.frozen 1
      have l17 := BN.lt
      simp only [List.getElem?_cons_zero, List.getElem?_cons_succ] at e0 e1
      clear hVn hbn BN hDk hSua hSub hSuc hbua hbub hbuc hb0ub hb0uc Hr Hdk Hb HVgx HVgp c0 c1 z
      go_upto_region 13 with fail
      clear e0 e1 f0 f1 l17
      generalize hwf : (wuc.setCell ⟨gq, 0, none⟩ (.slice pgq n cgq)).setCell ⟨gq, 1, none⟩ (.slice qgq 1 dgq) = wf at *
      clear hwf
      have Hb := Hbn
      have HVgx := HNgx
      have HVgp := HNgp
      clear Hbn HNgx HNgp
      have hpq : hp ≤ gq := Nat.le_trans htopp hggq
      have hxq : hx ≤ gq := Nat.le_trans hxp (Nat.le_trans (Nat.le_of_lt HVgp.out.lt) hpq)
      clear htopp
      have c0 := HVgq.out.blk.cells 0
      have c1 := HVgq.out.blk.cells 1
      have z := HVgq.out.blk.lt
      simp only [List.getElem?_cons_zero, List.getElem?_cons_succ] at c0 c1
      refine Lx.region Lx.below_steps [(0, true), (1, true), (2, false), (3, false), (4, true)] [(5, true), (6, true), (7, false), (8, false)] (fun w' => (∀ b o, b < wf.heap.size → w'.cell? ⟨b, o, none⟩ = wf.cell? ⟨b, o, none⟩) ∧ (∀ b o, b < wf.heap.size → w'.frozen? ⟨b, o, none⟩ = wf.frozen? ⟨b, o, none⟩) ∧ Below wf.heap.size wf w') (by kernel_rfl) (by kernel_rfl) (fun _ _ _ _ _ h => h) (fun _ h => held_below h) (fun _ _ h hb => held_call h hb) ?_; intro va hbva; replace hbva : Below wf.heap.size wf va := hbva; simp only [Lx.pick, List.filterMap_cons, List.filterMap_nil, List.getElem?_cons_succ, List.getElem?_cons_zero, List.map_cons, List.map_nil]; have hSva := held_below hbva
      repeat (first | (refine Lx.takeY ?_ (by rfl) ?_ (by assumption) ?_; rotate_left; (focus (intro w' hSw; (try dsimp only at hSw); go_simp; (try with_reducible rfl))); simp only [Act.put, List.setIfInBounds_toArray, List.set_cons_zero, List.set_cons_succ]) | (refine Lx.takeN (by rfl) (by assumption) ?_; simp only [Act.put, List.setIfInBounds_toArray, List.set_cons_zero, List.set_cons_succ]))
      refine Lx.go ?_; intro K hK; go_simp; go_at_call 34; refine (row4_any _).mono ?_; rintro e w0vb ⟨v9, rfl, hb0vb, hrow⟩; refine hK _ _ hb0vb ?_; clear hK K; intro wvb hbvb; replace hbvb : Below w0vb.heap.size w0vb wvb := hbvb; have hSvb := held_call (held_call hSva hb0vb) hbvb; try simp only [Act.put, List.setIfInBounds_toArray, List.set_cons_zero, List.set_cons_succ]
      have hrow2 := (hrow.keep (agree_below hbvb)).mono (B := fun _ => True) fun _ _ => trivial
      have hdisk := (HVgq.out.call hSvb.2.2).disk.mono (B := fun _ => True) fun _ _ => trivial
      have hl9 := hrow2
      obtain ⟨q9, c9, rfl, _, _⟩ := hl9
      rw [show List.length row4 = 64 from rfl] at hrow2 ⊢
      have Hr := Lib.hid hrow2
      have Hdk := Lib.hid hdisk
      clear hrow hrow2 hdisk
      obtain ⟨Q2, hQ2⟩ : ∃ Q2, Dk.put Q1 (i : Int) row4 = Q2 := ⟨_, rfl⟩
      have hF := put_facts HFQ1.out.1 (k := i) (bs := row4) (Nat.lt_of_lt_of_eq hin HFQ1.out.2.1.symm) rfl (Nat.lt_of_le_of_lt (Nat.le_of_eq HFQ1.out.2.2) (by decide))
      have hput := fun w1 v1 v2 => put_ok (A := fun _ => True) v1 v2 w1 Q1 i row4 HFQ1.out.1 (Nat.lt_of_lt_of_eq hin HFQ1.out.2.1.symm) rfl (Nat.lt_of_le_of_lt (Nat.le_of_eq HFQ1.out.2.2) (by decide))
      rw [HFQ1.out.2.1, HFQ1.out.2.2] at hF
      rw [hQ2] at hF hput
      have HFQ2 := Lib.hid hF
      have HQ2 := Lib.hid hQ2
      have Hput := Lib.hid hput
      clear hF hQ2 hput
      refine Lx.go ?_; intro K hK; go_simp; go_at_call 33; refine (Hput.out _ _ _ Hdk.out Hr.out).mono ?_; rintro e w0vc ⟨v5, rfl, hb0vc, hDk⟩; refine hK _ _ hb0vc ?_; clear hK K; intro wvc hbvc; replace hbvc : Below w0vc.heap.size w0vc wvc := hbvc; have hSvc := held_call (held_call hSvb hb0vc) hbvc; try simp only [Act.put, List.setIfInBounds_toArray, List.set_cons_zero, List.set_cons_succ]
      unfold newRes
      clear Hput
      have hDk2 := hDk.keep (agree_below hbvc)
      obtain ⟨pt, ct, qt, dt, rfl⟩ := hDk2.parts
      rw [HFQ2.out.2.1, HFQ2.out.2.2] at hDk2 ⊢
      have hlo : gq < wvb.heap.size := Nat.lt_of_lt_of_le z hSvb.2.2.size
      have hVn := DV.set (HVgq.out.call hSvc.2.2).blk hDk2 hlo
      have hbn := below_set2 (Hb.out.trans (hSvc.2.2.mono Hb.out.size)) hgegq (.slice pt n ct) (.slice qt 2 dt)
      have HNgx := Lib.hid ((HVgx.out.call hSvc.2.2).other gq hxq (.slice pt n ct) (.slice qt 2 dt))
      have HNgp := Lib.hid ((HVgp.out.call hSvc.2.2).other gq hpq (.slice pt n ct) (.slice qt 2 dt))
      have HNs := Lib.hid (DVH.of hVn)
      have Hbn := Lib.hid hbn
      have e0 := cell_keep hSvc.2.2 c0
      have e1 := cell_keep hSvc.2.2 c1
      have f0 := (hSvc.2.1 gq 0 z).trans (HVgq.out.blk.frozen 0)
      have f1 := (hSvc.2.1 gq 1 z).trans (HVgq.out.blk.frozen 1)
      have zc : gq < wvc.heap.size := Nat.lt_of_lt_of_le z hSvc.2.2.size
      repeat (first | (refine Lx.takeY ?_ (by rfl) ?_ (by assumption) ?_; rotate_left; (focus (intro w' hSw; (try dsimp only at hSw); go_simp; (try with_reducible rfl))); simp only [Act.put, List.setIfInBounds_toArray, List.set_cons_zero, List.set_cons_succ]) | (refine Lx.takeN (by rfl) (by assumption) ?_; simp only [Act.put, List.setIfInBounds_toArray, List.set_cons_zero, List.set_cons_succ]))
      refine Lx.tail ?_
      clear hVn hbn hDk hDk2 hlo hSva hSvb hSvc hbva hbvb hbvc hb0vb hb0vc Hr Hdk Hb HVgx HVgp HVgq c0 c1 z
      go_upto_region 14 with fail
      clear e0 e1 f0 f1 zc
      generalize hwf : (wvc.setCell ⟨gq, 0, none⟩ (.slice pt n ct)).setCell ⟨gq, 1, none⟩ (.slice qt 2 dt) = wg at *
      clear hwf
      have Hb := Hbn
      have HVgq := HNs
      have HVgx := HNgx
      have HVgp := HNgp
      clear Hbn HNs HNgx HNgp
      as_aux_lemma =>
      go_upto_if 83 with fail
      go_cut [20] (fun s20 wx => (∃ sv : Nat, s20 = .int .u64 sv ∧ sv < 18446744073709551616 ∧ Dk.bit sv 0 = Dk.bit sv 1) ∧ wx = wg)
      case first =>
        cases bo
        · go_wp2_with fail
          go_meet
          exact ⟨⟨0, rfl, by decide, by decide⟩, rfl⟩
        · go_wp2_with fail
          go_meet
          exact ⟨⟨3, rfl, by decide, by decide⟩, rfl⟩
      case rest =>
      obtain ⟨⟨sv, rfl, hsv, hbits⟩, hwc⟩ := hcut
      subst hwc
      have Hsv := Lib.hid hsv
      have Hbits := Lib.hid hbits
      clear hsv hbits
      as_aux_lemma =>
      have hP : P2 = Dk.put (Dk.put D (i : Int) row4) (k : Int) row5 := by rw [HP1.out, HP2.out]
      have hQ : Q2 = Dk.put (Dk.put D (k : Int) row5) (i : Int) row4 := by rw [HQ1.out, HQ2.out]
      have HPQ : Hid (Dk.sync Q2 = Dk.sync P2) := by
        show Dk.sync Q2 = Dk.sync P2
        rw [hP, hQ]; exact (Dk.apart_crash HW0.out hik _ _ _ rfl).symm
      have HCr : Hid (Dk.crash Q2 (Dk.bit sv) (-1) = Dk.crash P2 (Dk.bit sv) (-1)) := by
        show Dk.crash Q2 (Dk.bit sv) (-1) = Dk.crash P2 (Dk.bit sv) (-1)
        rw [hP, hQ]; exact (Dk.apart_crash HW0.out hik _ _ _ Hbits.out).symm
      have HRd : Hid (∀ m : Nat, Dk.read Q2 m = Dk.read P2 m) := by
        intro m
        rw [hP, hQ]; exact (Dk.apart_read HW0.out hik _ _ m).symm
      have HNo : Hid (Dk.crash P2 (Dk.bit 0) (-1) = D) := by
        show Dk.crash P2 (Dk.bit 0) (-1) = D
        rw [hP]; exact Dk.apart_none HW0.out i k _ _ _ (by decide) (by decide)
      have HAll : Hid (Dk.crash P2 (Dk.bit 3) (-1) = Dk.sync P2) := by
        show Dk.crash P2 (Dk.bit 3) (-1) = Dk.sync P2
        rw [hP]; exact Dk.apart_all HW0.out i k _ _ _ (by decide) (by decide)
      clear hP hQ
      have cp0 := HVgp.out.blk.cells 0
      have cp1 := HVgp.out.blk.cells 1
      have zp := HVgp.out.blk.lt
      have cq0 := HVgq.out.blk.cells 0
      have cq1 := HVgq.out.blk.cells 1
      have zq := HVgq.out.blk.lt
      simp only [List.getElem?_cons_zero, List.getElem?_cons_succ] at cp0 cp1 cq0 cq1
      go_upto_region 17 with fail
      refine Lx.region Lx.below_steps [(0, true), (1, true), (2, true), (3, true), (4, true), (5, true), (6, true), (7, true), (8, true), (9, true), (10, true), (11, true), (12, true), (13, true), (14, true), (15, true), (17, true), (16, false), (18, false), (19, false), (20, true), (21, true), (22, true), (23, true), (24, true), (26, true), (27, true), (25, false), (28, false), (29, false), (30, true)] [(31, false)] (fun w' => (∀ b o, b < wc.heap.size → w'.cell? ⟨b, o, none⟩ = wc.cell? ⟨b, o, none⟩) ∧ (∀ b o, b < wc.heap.size → w'.frozen? ⟨b, o, none⟩ = wc.frozen? ⟨b, o, none⟩) ∧ Below wc.heap.size wc w') (by kernel_rfl) (Lx.cert_of (ps := [(31, 0, [22, 21, 14, 10, 6, 2, 1]), (31, 1, [22, 21, 14, 10, 6, 2]), (31, 2, [22, 21, 14, 10, 6]), (31, 3, [22, 21, 14, 10, 6, 5, 4]), (31, 4, [22, 21, 14, 10, 6, 5]), (31, 5, [22, 21, 14, 10, 6]), (31, 6, [22, 21, 14, 10]), (31, 7, [22, 21, 14, 10, 9, 8]), (31, 8, [22, 21, 14, 10, 9]), (31, 9, [22, 21, 14, 10]), (31, 10, [22, 21, 14]), (31, 11, [22, 21, 14, 13, 12]), (31, 12, [22, 21, 14, 13]), (31, 13, [22, 21, 14]), (31, 14, [22, 21]), (31, 15, [22, 19, 16]), (31, 17, [22, 19, 18]), (31, 16, [22, 19]), (31, 18, [22, 19]), (31, 19, [22]), (31, 20, [22, 21]), (31, 21, [22]), (31, 22, []), (31, 23, [30, 29, 25]), (31, 24, [30, 29, 25]), (31, 26, [30, 29, 28]), (31, 27, [30, 29, 28]), (31, 25, [30, 29]), (31, 28, [30, 29]), (31, 29, [30]), (31, 30, [])]) (by kernel_rfl)) (fun _ _ _ _ _ h => h) (fun _ h => held_below h) (fun _ _ h hb => held_call h hb) ?_; intro ga hbga; replace hbga : Below wc.heap.size wc ga := hbga; simp only [Lx.pick, List.filterMap_cons, List.filterMap_nil, List.getElem?_cons_succ, List.getElem?_cons_zero, List.map_cons, List.map_nil]; have hSga := held_below hbga
      repeat (first | (refine Lx.takeY ?_ (by rfl) ?_ (by assumption) ?_; rotate_left; (focus (intro w' hSw; (try dsimp only at hSw); go_simp; (try with_reducible rfl))); simp only [Act.put, List.setIfInBounds_toArray, List.set_cons_zero, List.set_cons_succ]) | (refine Lx.takeN (by rfl) (by assumption) ?_; simp only [Act.put, List.setIfInBounds_toArray, List.set_cons_zero, List.set_cons_succ]))
      as_aux_lemma =>
      refine Lx.go ?_; intro K hK; go_simp; go_at_call 35; refine (sync_any _ P2 _ (HVgp.out.call hbga).disk HFP2.out.1).mono ?_; rintro e w0gb ⟨v6, rfl, hb0gb, hS1⟩; refine hK _ _ hb0gb ?_; clear hK K; intro wgb hbgb; replace hbgb : Below w0gb.heap.size w0gb wgb := hbgb; have hSgb := held_call (held_call hSga hb0gb) hbgb; try simp only [Act.put, List.setIfInBounds_toArray, List.set_cons_zero, List.set_cons_succ]
      as_aux_lemma =>
      refine Lx.go ?_; intro K hK; go_simp; go_at_call 35; refine (sync_any _ Q2 _ (HVgq.out.call hSgb.2.2).disk HFQ2.out.1).mono ?_; rintro e w0gc ⟨v7, rfl, hb0gc, hS2⟩; refine hK _ _ hb0gc ?_; clear hK K; intro wgc hbgc; replace hbgc : Below w0gc.heap.size w0gc wgc := hbgc; have hSgc := held_call (held_call hSgb hb0gc) hbgc; try simp only [Act.put, List.setIfInBounds_toArray, List.set_cons_zero, List.set_cons_succ]
      rw [HPQ.out] at hS2
      have HS1 := Lib.hid (hS1.keep (agree_below (ext_trans hbgb (ext_trans hb0gc hbgc))))
      have HS2 := Lib.hid (hS2.keep (agree_below hbgc))
      clear hS1 hS2
      as_aux_lemma =>
      refine Lx.go ?_; intro K hK; go_simp; go_at_call 37; refine (same_yes _ _ (Dk.sync P2) _ HS1.out HS2.out (sync_good HFP2.out.1).1.fine).mono ?_; rintro e w0gd2 ⟨rfl, hb0gd2⟩; refine hK _ _ hb0gd2 ?_; clear hK K; intro wgd2 hbgd2; replace hbgd2 : Below w0gd2.heap.size w0gd2 wgd2 := hbgd2; have hSgd2 := held_call (held_call hSgc hb0gd2) hbgd2; try simp only [Act.put, List.setIfInBounds_toArray, List.set_cons_zero, List.set_cons_succ]
      as_aux_lemma =>
      repeat (first | (refine Lx.takeY ?_ (by rfl) ?_ (by assumption) ?_; rotate_left; (focus (intro w' hSw; (try dsimp only at hSw); go_simp; (try with_reducible rfl))); simp only [Act.put, List.setIfInBounds_toArray, List.set_cons_zero, List.set_cons_succ]) | (refine Lx.takeN (by rfl) (by assumption) ?_; simp only [Act.put, List.setIfInBounds_toArray, List.set_cons_zero, List.set_cons_succ]))
      as_aux_lemma =>
      refine Lx.go ?_; intro K hK; go_simp; go_at_call 29; refine (crash_any _ P2 sv (-1) _ (HVgp.out.call hSgd2.2.2).disk HFP2.out.1 Hsv.out).mono ?_; rintro e w0ge ⟨v8, rfl, hb0ge, hC1⟩; refine hK _ _ hb0ge ?_; clear hK K; intro wge hbge; replace hbge : Below w0ge.heap.size w0ge wge := hbge; have hSge := held_call (held_call hSgd2 hb0ge) hbge; try simp only [Act.put, List.setIfInBounds_toArray, List.set_cons_zero, List.set_cons_succ]
      as_aux_lemma =>
      refine Lx.go ?_; intro K hK; go_simp; go_at_call 29; refine (crash_any _ Q2 sv (-1) _ (HVgq.out.call hSge.2.2).disk HFQ2.out.1 Hsv.out).mono ?_; rintro e w0gf ⟨v9, rfl, hb0gf, hC2⟩; refine hK _ _ hb0gf ?_; clear hK K; intro wgf hbgf; replace hbgf : Below w0gf.heap.size w0gf wgf := hbgf; have hSgf := held_call (held_call hSge hb0gf) hbgf; try simp only [Act.put, List.setIfInBounds_toArray, List.set_cons_zero, List.set_cons_succ]
      rw [HCr.out] at hC2
      have HC1 := Lib.hid (hC1.keep (agree_below (ext_trans hbge (ext_trans hb0gf hbgf))))
      have HC2 := Lib.hid (hC2.keep (agree_below hbgf))
      clear hC1 hC2
      as_aux_lemma =>
      refine Lx.go ?_; intro K hK; go_simp; go_at_call 37; refine (same_yes _ _ (Dk.crash P2 (Dk.bit sv) (-1)) _ HC1.out HC2.out (Dk.crash_good HFP2.out.1 _ _).fine).mono ?_; rintro e w0gg ⟨rfl, hb0gg⟩; refine hK _ _ hb0gg ?_; clear hK K; intro wgg hbgg; replace hbgg : Below w0gg.heap.size w0gg wgg := hbgg; have hSgg := held_call (held_call hSgf hb0gg) hbgg; try simp only [Act.put, List.setIfInBounds_toArray, List.set_cons_zero, List.set_cons_succ]
      as_aux_lemma =>
      repeat (first | (refine Lx.takeY ?_ (by rfl) ?_ (by assumption) ?_; rotate_left; (focus (intro w' hSw; (try dsimp only at hSw); go_simp; (try with_reducible rfl))); simp only [Act.put, List.setIfInBounds_toArray, List.set_cons_zero, List.set_cons_succ]) | (refine Lx.takeN (by rfl) (by assumption) ?_; simp only [Act.put, List.setIfInBounds_toArray, List.set_cons_zero, List.set_cons_succ]))
      refine Lx.tail ?_
      as_aux_lemma =>
      have HVX := Lib.hid (HVgx.out.call hSgg.2.2)
      have HVP := Lib.hid (HVgp.out.call hSgg.2.2)
      have HVQ := Lib.hid (HVgq.out.call hSgg.2.2)
      have HB := Lib.hid (Hb.out.trans (hSgg.2.2.mono Hb.out.size))
      clear cp0 cp1 zp cq0 cq1 zq hSga hSgb hSgc hSgd2 hSge hSgf hSgg hbga hbgb hbgc hbgd2 hbge hbgf hbgg hb0gb hb0gc hb0gd2 hb0ge hb0gf hb0gg HS1 HS2 HC1 HC2 HVgx HVgp HVgq Hb
      go_wp2_with fail
      go_loopw [117] (fun i wr => ∃ j : Nat, i = .int .i64 j ∧ Hid (j ≤ n) ∧ Hid (DVH wr gx hx (Value.slice p3 n c3) (Value.slice p4 0 c4) D) ∧ Hid (DVH wr gp hp (Value.slice pr n cr) (Value.slice qr 2 dr) P2) ∧ Hid (DVH wr gq wc.heap.size (Value.slice pt n ct) (Value.slice qt 2 dt) Q2) ∧ Hid (Below w.heap.size w wr)) (fun i _ => (n - intOf i).toNat)
      case atStart => exact ⟨0, rfl, Nat.zero_le _, HVX, HVP, HVQ, HB⟩
      case round =>
        obtain ⟨j, rfl, hj, hX, hP, hQ, hB⟩ := hrel
        clear HVX HVP HVQ HB
        have hjn := hj.out
        by_cases hj2 : j < n
        · have hd : decide ((j : Int) < (n : Int)) = true := by simp; omega
          have hjP : j < P2.cells.length := by rw [HFP2.out.2.1]; exact hj2
          have hjQ : j < Q2.cells.length := by rw [HFQ2.out.2.1]; exact hj2
          have cp0 := hP.out.blk.cells 0
          have cp1 := hP.out.blk.cells 1
          have zp := hP.out.blk.lt
          simp only [List.getElem?_cons_zero, List.getElem?_cons_succ] at cp0 cp1
          go_wp2_with fail
          refine (read_any _ P2 (j : Int) _ hP.out.disk HFP2.out.1).mono ?_
          rw [readR_in hjP]
          rintro e w7 ⟨v7, rfl, hb7, hrow7⟩
          have hl7 := Dk.read_length HFP2.out.1 hjP
          obtain ⟨R7, hR7⟩ : ∃ R7, Dk.read P2 j = R7 := ⟨_, rfl⟩
          rw [hR7] at hrow7 hl7
          obtain ⟨q7, c8, rfl, hq7, hqc7⟩ := hrow7
          rw [hl7]
          have HR7 := Lib.hid hR7
          have Hl7 := Lib.hid hl7
          have Hq7 := Lib.hid (hq7.mono (B := fun _ => True) fun _ _ => trivial)
          have HQ7 := Lib.hid (hQ.out.call hb7)
          have Hb7 := Lib.hid hb7
          unfold newRes
          have cq0 := HQ7.out.blk.cells 0
          have cq1 := HQ7.out.blk.cells 1
          have zq := HQ7.out.blk.lt
          simp only [List.getElem?_cons_zero, List.getElem?_cons_succ] at cq0 cq1
          clear hR7 hl7 hq7 hqc7 hb7 cp0 cp1 zp hjP
          go_wp2_with fail
          refine (read_any _ Q2 (j : Int) _ HQ7.out.disk HFQ2.out.1).mono ?_
          rw [readR_in hjQ, HRd.out, HR7.out]
          rintro e w8 ⟨v8, rfl, hb8, hrow8⟩
          obtain ⟨q8, c9', rfl, hq8, hqc8⟩ := hrow8
          have s1 := conv_bytes (P := Try.prog) (w := w8) (n := 64) (cap := c8) Try.underlying28 Try.underlying5 Try.underlying9 (Hq7.out.keep (agree_below hb8)) Hl7.out
          have s2 := conv_bytes (P := Try.prog) (w := w8) (n := R7.length) (cap := c9') Try.underlying28 Try.underlying5 Try.underlying9 hq8 rfl
          have HX := Lib.hid (And.intro ((hX.out.call Hb7.out).call hb8) (And.intro ((hP.out.call Hb7.out).call hb8) (And.intro (HQ7.out.call hb8) (hB.out.trans ((ext_trans Hb7.out hb8).mono hB.out.size)))))
          unfold newRes
          clear cq0 cq1 zq hq8 hqc8 hb8 hjQ
          go_wp2_with fail
          go_roundw
          case rel => exact ⟨j + 1, by simp, hj2, HX.out.1, HX.out.2.1, HX.out.2.2.1, HX.out.2.2.2⟩
          case measure => simp [intOf]; omega
        · have hd : decide ((j : Int) < (n : Int)) = false := by simp; omega
          have cp0 := hP.out.blk.cells 0
          have cp1 := hP.out.blk.cells 1
          have zp := hP.out.blk.lt
          have cx0 := hX.out.blk.cells 0
          have cx1 := hX.out.blk.cells 1
          have zx := hX.out.blk.lt
          simp only [List.getElem?_cons_zero, List.getElem?_cons_succ] at cp0 cp1 cx0 cx1
          go_upto_region 27 with fail
          as_aux_lemma =>
          refine Lx.region Lx.below_steps [(0, true), (2, true), (1, false), (3, false), (4, true), (5, true), (7, true), (6, false), (8, false), (9, false), (10, true), (11, true), (12, false), (13, true)] [(14, false)] (fun w' => (∀ b o, b < wr.heap.size → w'.cell? ⟨b, o, none⟩ = wr.cell? ⟨b, o, none⟩) ∧ (∀ b o, b < wr.heap.size → w'.frozen? ⟨b, o, none⟩ = wr.frozen? ⟨b, o, none⟩) ∧ Below wr.heap.size wr w') (by kernel_rfl) (by kernel_rfl) (fun _ _ _ _ _ h => h) (fun _ h => held_below h) (fun _ _ h hb => held_call h hb) ?_; intro ga hbga; replace hbga : Below wr.heap.size wr ga := hbga; simp only [Lx.pick, List.filterMap_cons, List.filterMap_nil, List.getElem?_cons_succ, List.getElem?_cons_zero, List.map_cons, List.map_nil]; have hSga := held_below hbga
          repeat (first | (refine Lx.takeY ?_ (by rfl) ?_ (by assumption) ?_; rotate_left; (focus (intro w' hSw; (try dsimp only at hSw); go_simp; (try with_reducible rfl))); simp only [Act.put, List.setIfInBounds_toArray, List.set_cons_zero, List.set_cons_succ]) | (refine Lx.takeN (by rfl) (by assumption) ?_; simp only [Act.put, List.setIfInBounds_toArray, List.set_cons_zero, List.set_cons_succ]))
          refine Lx.go ?_; intro K hK; go_simp; go_at_call 29; refine (crash_zero _ P2 _ (hP.out.call hbga).disk HFP2.out.1).mono ?_; rintro e w0gb ⟨v6, rfl, hb0gb, hC1⟩; refine hK _ _ hb0gb ?_; clear hK K; intro wgb hbgb; replace hbgb : Below w0gb.heap.size w0gb wgb := hbgb; have hSgb := held_call (held_call hSga hb0gb) hbgb; try simp only [Act.put, List.setIfInBounds_toArray, List.set_cons_zero, List.set_cons_succ]
          rw [HNo.out] at hC1
          have HC1 := Lib.hid (hC1.keep (agree_below hbgb))
          clear hC1
          refine Lx.go ?_; intro K hK; go_simp; go_at_call 37; refine (same_yes _ _ D _ HC1.out (hX.out.call hSgb.2.2).disk HFD.out.1.fine).mono ?_; rintro e w0gc ⟨rfl, hb0gc⟩; refine hK _ _ hb0gc ?_; clear hK K; intro wgc hbgc; replace hbgc : Below w0gc.heap.size w0gc wgc := hbgc; have hSgc := held_call (held_call hSgb hb0gc) hbgc; try simp only [Act.put, List.setIfInBounds_toArray, List.set_cons_zero, List.set_cons_succ]
          repeat (first | (refine Lx.takeY ?_ (by rfl) ?_ (by assumption) ?_; rotate_left; (focus (intro w' hSw; (try dsimp only at hSw); go_simp; (try with_reducible rfl))); simp only [Act.put, List.setIfInBounds_toArray, List.set_cons_zero, List.set_cons_succ]) | (refine Lx.takeN (by rfl) (by assumption) ?_; simp only [Act.put, List.setIfInBounds_toArray, List.set_cons_zero, List.set_cons_succ]))
          refine Lx.go ?_; intro K hK; go_simp; go_at_call 29; refine (crash_three _ P2 _ (hP.out.call hSgc.2.2).disk HFP2.out.1).mono ?_; rintro e w0ge ⟨v7, rfl, hb0ge, hC2⟩; refine hK _ _ hb0ge ?_; clear hK K; intro wge hbge; replace hbge : Below w0ge.heap.size w0ge wge := hbge; have hSge := held_call (held_call hSgc hb0ge) hbge; try simp only [Act.put, List.setIfInBounds_toArray, List.set_cons_zero, List.set_cons_succ]
          rw [HAll.out] at hC2
          refine Lx.go ?_; intro K hK; go_simp; go_at_call 35; refine (sync_any _ P2 _ (hP.out.call hSge.2.2).disk HFP2.out.1).mono ?_; rintro e w0gf ⟨v8, rfl, hb0gf, hS2⟩; refine hK _ _ hb0gf ?_; clear hK K; intro wgf hbgf; replace hbgf : Below w0gf.heap.size w0gf wgf := hbgf; have hSgf := held_call (held_call hSge hb0gf) hbgf; try simp only [Act.put, List.setIfInBounds_toArray, List.set_cons_zero, List.set_cons_succ]
          have HC2 := Lib.hid (hC2.keep (agree_below (ext_trans hbge (ext_trans hb0gf hbgf))))
          have HS2 := Lib.hid (hS2.keep (agree_below hbgf))
          clear hC2 hS2
          refine Lx.go ?_; intro K hK; go_simp; go_at_call 37; refine (same_yes _ _ (Dk.sync P2) _ HC2.out HS2.out (sync_good HFP2.out.1).1.fine).mono ?_; rintro e w0gg ⟨rfl, hb0gg⟩; refine hK _ _ hb0gg ?_; clear hK K; intro wgg hbgg; replace hbgg : Below w0gg.heap.size w0gg wgg := hbgg; have hSgg := held_call (held_call hSgf hb0gg) hbgg; try simp only [Act.put, List.setIfInBounds_toArray, List.set_cons_zero, List.set_cons_succ]
          repeat (first | (refine Lx.takeY ?_ (by rfl) ?_ (by assumption) ?_; rotate_left; (focus (intro w' hSw; (try dsimp only at hSw); go_simp; (try with_reducible rfl))); simp only [Act.put, List.setIfInBounds_toArray, List.set_cons_zero, List.set_cons_succ]) | (refine Lx.takeN (by rfl) (by assumption) ?_; simp only [Act.put, List.setIfInBounds_toArray, List.set_cons_zero, List.set_cons_succ]))
          refine Lx.go ?_; intro K hK; go_simp; go_at_call 26; refine (awake_any _).mono ?_; rintro e w0gh ⟨rfl, hb0gh⟩; refine hK _ _ hb0gh ?_; clear hK K; intro wgh hbgh; replace hbgh : Below w0gh.heap.size w0gh wgh := hbgh; have hSgh := held_call (held_call hSgg hb0gh) hbgh; try simp only [Act.put, List.setIfInBounds_toArray, List.set_cons_zero, List.set_cons_succ]
          repeat (first | (refine Lx.takeY ?_ (by rfl) ?_ (by assumption) ?_; rotate_left; (focus (intro w' hSw; (try dsimp only at hSw); go_simp; (try with_reducible rfl))); simp only [Act.put, List.setIfInBounds_toArray, List.set_cons_zero, List.set_cons_succ]) | (refine Lx.takeN (by rfl) (by assumption) ?_; simp only [Act.put, List.setIfInBounds_toArray, List.set_cons_zero, List.set_cons_succ]))
          refine Lx.tail ?_
          have HE := Lib.hid (hB.out.trans (hSgh.2.2.mono hB.out.size))
          clear cp0 cp1 zp cx0 cx1 zx hSga hSgb hSgc hSge hSgf hSgg hSgh hbga hbgb hbgc hbge hbgf hbgg hbgh hb0gb hb0gc hb0ge hb0gf hb0gg hb0gh HC1 HC2 HS2 hX hP hQ hB
          go_wp2_with fail
          go_ret
          exact ⟨rfl, HE.out⟩
  · have hd : decide (l ≤ 400) = false := by simpa using h400
    go_enter Try.func9, Try.ntmps9
    go_wp2_with fail
    refine (light_any _ l _ ⟨_, _, rfl⟩).mono ?_
    rintro e w' ⟨rfl, rfl⟩
    rw [hd]
    go_wp2_with fail
    refine (awake_any _).mono ?_
    rintro e w9 ⟨rfl, hb9⟩
    have Hb9 := Lib.hid hb9
    clear hb9
    go_wp2_with fail
    go_ret
    exact ⟨rfl, Hb9.out⟩

theorem dapart_law (a : Option Addr) (len cap : Nat) (zs : List Int) (x y : Int) (bo : Bool) (w : World) (h0 : IsRow .i64 w a len cap zs) (h1 : (Lit.int .i64 x).wf = true) (h2 : (Lit.int .i64 y).wf = true) :
    Calls Try.prog 9 #[.slice a len cap, .int .i64 x, .int .i64 y, .bool bo] w fun e w' => e = .returned (.bool true) ∧ Below w.heap.size w w' := by
  have hl := h0.size
  subst hl
  exact dapart_any a cap zs x y bo w h0.holds h0.wf h1 h2
end Go.Proofs.Ytpjdboebambneaa
