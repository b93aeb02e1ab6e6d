import Derived.Test.YtabeimmjclkobaaRwg15
/- Objects: ReadObject. -/
namespace Go.Proofs.Ytabeimmjclkobaa
open Go.ChangeShapes Go.WideShapes Go.RowKit

set_option maxRecDepth 100000 in
set_option maxHeartbeats 1600000 in
theorem readobject_any (S : ByteArray) (w : World) (hS : S.size ≤ 1000000000) :
    Calls Try.prog 23 #[.string S] w fun e w' => ∃ v', e = .returned (.tuple #[v', .int .i64 (Ob.readObj S.data.toList).2.1, .int .i64 (Ob.readObj S.data.toList).2.2]) ∧ PlcOwn w' w.heap.size v' (Ob.readObj S.data.toList).1 ∧ Below w.heap.size w w' := by
  obtain ⟨w1, hw1, Z1, hb1⟩ := fresh_blk w [.int .i64 0, .slice none 0 0, .int .i64 0, .int .i64 0, .slice none 0 0] 42
  obtain ⟨g0, hg0⟩ : ∃ g, g = w.heap.size := ⟨_, rfl⟩
  have hg0a := Nat.le_of_eq hg0
  have hg0b := Nat.le_of_eq hg0.symm
  rw [← hg0] at Z1
  obtain ⟨cap, w2, hcv, hcap, hlt2, hb2, hrow⟩ := string_bytes (P := Try.prog) w1 (src := 9) (dst := 22) (e := 5) S Try.underlying9 Try.underlying22 Try.underlying5
  obtain ⟨w3, hw3, R3, hb3⟩ := fresh_blk w2 [.slice (some ⟨w1.heap.size, 0, none⟩) S.size cap, .int .i64 0, .int .i64 0] 82
  obtain ⟨g, hg⟩ : ∃ g, g = w2.heap.size := ⟨_, rfl⟩
  have hga := Nat.le_of_eq hg
  have hgb := Nat.le_of_eq hg.symm
  obtain ⟨bs, hbs⟩ : ∃ b, S.data.toList = b := ⟨_, rfl⟩
  have hbl : bs.length = S.size := by rw [← hbs]; simp
  rw [hbs]
  have hB : BRow (· < g) w3 (.slice (some ⟨w1.heap.size, 0, none⟩) S.size cap) bs := by
    refine ⟨_, cap, by rw [hbl], ?_, by rw [hbl]; exact hcap⟩
    have h1 : rowOf w2 w1.heap.size (bs.map byteVal) := by rw [← hbs]; exact hrow
    exact (holds_row (A := (· < g)) h1 (by show w1.heap.size < g; omega)).keep (agree_below hb3)
  have hb01 := hb1.size
  have h12 := hb2.size
  have H4 := Lib.hid (rdplaced_any g _ bs 0 0 w3 (by rw [hg]; exact R3) hB (Nat.zero_le _) (by rw [hbl]; exact hS))
  have HZ3 := Lib.hid ((Z1.call hb2).call hb3)
  have HB3 := Lib.hid (hb1.trans ((hb2.trans (hb3.mono h12)).mono hb01))
  have Hg0 := Lib.hid hg0
  have Hg := Lib.hid hg
  have Hw1 := Lib.hid hw1
  have Hw3 := Lib.hid hw3
  have hg0g : g0 < g := by have := Z1.lt; omega
  clear hw1 hw3 R3 Z1 hb1 hb2 hb3 hrow hB hg0 hg hbs hlt2
  go_enter Try.func23, Try.ntmps23
  go_upto_region 1 with fail
  rw [Hw1.out]
  go_upto_region 2 with fail
  rw [Hw3.out, ← Hg.out, ← Hg0.out]
  clear hcv hcap
  go_wp2_with fail
  refine H4.out.mono ?_
  rintro e' w4 ⟨v4, rfl, hP4, hR4, hB4⟩
  obtain ⟨pl, s4, hpl⟩ : ∃ p s, Ob.rPlaced bs (0, 0) = (p, s) := ⟨_, _, rfl⟩
  obtain ⟨a4, e4⟩ := s4
  have hres : Hid (Ob.readObj bs = if e4 = 0 then (pl, a4, 0) else (Ob.zero, 0, e4)) := by show _ = _; unfold Ob.readObj; rw [hpl]
  rw [hpl] at hP4 hR4
  obtain ⟨slots, at_, params, regs, ops⟩ := pl
  obtain ⟨u1, u2, rfl, hN, hO⟩ := hP4
  dsimp only at hN hO hR4
  obtain ⟨p1, c1, rfl⟩ := hN.parts
  obtain ⟨p2, c2, rfl⟩ := hO.at.parts
  obtain ⟨n1, hn1⟩ : ∃ n, at_.length = n := ⟨_, rfl⟩
  obtain ⟨n2, hn2⟩ : ∃ n, ops.length = n := ⟨_, rfl⟩
  rw [hn1] at hN ⊢
  rw [hn2] at hN hO ⊢
  obtain ⟨w5, hw5, B5, hb5⟩ := fresh_blk w4 [.int .i64 slots, .slice p1 n1 c1, .int .i64 params, .int .i64 regs, .slice p2 n2 c2] 42
  obtain ⟨g6, hg6⟩ : ∃ g, g = w4.heap.size := ⟨_, rfl⟩
  have hg6a := Nat.le_of_eq hg6
  have hg6b := Nat.le_of_eq hg6.symm
  rw [← hg6] at B5
  have h34 := hB4.size
  have h3g : g0 < w3.heap.size := HZ3.out.lt
  have HN5 := Lib.hid (hN.keep (agree_below hb5))
  have HO5 := Lib.hid (hO.call hb5)
  have HR5 := Lib.hid (hR4.call hb5)
  have HZ5 := Lib.hid ((HZ3.out.keep (A := (· = g0)) ((But.agree hB4).mono fun b hb => by omega) hB4.size rfl).call hb5)
  have HP5 := Lib.hid B5
  have h03 := HB3.out.size
  have HB5 : Hid (Below w.heap.size w w5) := by
    have h1 : Below w.heap.size w3 w4 := hB4.below (by omega) (by omega)
    exact HB3.out.trans (h1.trans (hb5.mono (by omega)))
  have Hw5 := Lib.hid hw5
  have Hg6 := Lib.hid hg6
  have hne60 : g6 ≠ g0 := by omega
  have hne6g : g6 ≠ g := by have := hR4.lt; omega
  clear hw5 hg6 hb5 hR4 hN hO hB4 hpl H4 HB3 HZ3 B5
  go_upto_region 3 with fail
  rw [Hw5.out, ← Hg6.out]
  have c0 := HR5.out.cells 1
  have c2' := HR5.out.cells 2
  have cl := HR5.out.lt
  simp only [List.getElem?_cons_zero, List.getElem?_cons_succ] at c0 c2'
  by_cases he : e4 = 0
  · subst he
    have hres2 : Hid (Ob.readObj bs = (⟨slots, at_, params, regs, ops⟩, (a4, 0))) := by show _ = _; rw [hres.out]; exact if_pos rfl
    clear hres
    go_upto_region 5 with fail
    have x0 := HP5.out.cells 0
    have x1 := HP5.out.cells 1
    have x2 := HP5.out.cells 2
    have x3 := HP5.out.cells 3
    have x4 := HP5.out.cells 4
    have xl := HP5.out.lt
    have y0 := HZ5.out.cells 0
    have y1 := HZ5.out.cells 1
    have y2 := HZ5.out.cells 2
    have y3 := HZ5.out.cells 3
    have y4 := HZ5.out.cells 4
    have yl := HZ5.out.lt
    have z0 := HZ5.out.frozen 0
    have z1 := HZ5.out.frozen 1
    have z2 := HZ5.out.frozen 2
    have z3 := HZ5.out.frozen 3
    have z4 := HZ5.out.frozen 4
    simp only [List.getElem?_cons_zero, List.getElem?_cons_succ] at x0 x1 x2 x3 x4 y0 y1 y2 y3 y4
    clear c2'
    refine Ls.region (Ls.pair (g0)) [5] [(0, 0), (1, 1), (2, 1), (3, 1), (4, 1), (5, 3), (6, 1)] [(7, false)] (fun w' => (∀ b o, b < w5.heap.size → w'.cell? ⟨b, o, none⟩ = w5.cell? ⟨b, o, none⟩) ∧ (∀ b o, b < w5.heap.size → w'.frozen? ⟨b, o, none⟩ = w5.frozen? ⟨b, o, none⟩) ∧ Below w5.heap.size w5 w') (by kernel_rfl) (by kernel_rfl) (fun _ _ _ _ _ h => h) (fun _ _ h hb => held_call h hb) ?_; intro ya hbya; replace hbya : Below w5.heap.size w5 ya := hbya; simp only [Ls.pick, Lx.pick, List.filterMap_cons, List.filterMap_nil, List.getElem?_cons_succ, List.getElem?_cons_zero, List.map_cons, List.map_nil]; have hSya := held_below hbya
    have HPa := Lib.hid (HP5.out.call hbya)
    have HZa := Lib.hid (HZ5.out.call hbya)
    have x0 := HPa.out.cells 0
    have x1 := HPa.out.cells 1
    have x2 := HPa.out.cells 2
    have x3 := HPa.out.cells 3
    have x4 := HPa.out.cells 4
    have xl := HPa.out.lt
    have y0 := HZa.out.cells 0
    have y1 := HZa.out.cells 1
    have y2 := HZa.out.cells 2
    have y3 := HZa.out.cells 3
    have y4 := HZa.out.cells 4
    have yl := HZa.out.lt
    have z0 := HZa.out.frozen 0
    have z1 := HZa.out.frozen 1
    have z2 := HZa.out.frozen 2
    have z3 := HZa.out.frozen 3
    have z4 := HZa.out.frozen 4
    simp only [List.getElem?_cons_zero, List.getElem?_cons_succ] at x0 x1 x2 x3 x4 y0 y1 y2 y3 y4
    have HRa := HR5.out.call hbya
    have HNa := HN5.out.keep (agree_below hbya)
    have HOa := HO5.out.call hbya
    have HBa := HB5.out.trans (hbya.mono HB5.out.size)
    have d1 := HRa.cells 1
    have dl := HRa.lt
    simp only [List.getElem?_cons_zero, List.getElem?_cons_succ] at d1
    have hg0ne : g ≠ g0 := fun h => by omega
    repeat (first | (refine Ls.takeY ?_ (by rfl) ?_ (by assumption) ?_; rotate_left; (focus (intro w' hSw; (try dsimp only at hSw); go_simp; (try with_reducible rfl))); simp only [Act.put, List.setIfInBounds_toArray, List.set_cons_zero, List.set_cons_succ]) | (refine Ls.takeN (by rfl) (by assumption) ?_; simp only [Act.put, List.setIfInBounds_toArray, List.set_cons_zero, List.set_cons_succ]) | (refine Ls.takeT ?_ (by rfl) ?_ ?_; rotate_left; (focus (intro w' hRw; (try dsimp only at hRw); have hSw := but_held hRw; go_simp; (try with_reducible rfl))); simp only [Act.put, List.setIfInBounds_toArray, List.set_cons_zero, List.set_cons_succ]))
    refine Ls.goX (by rfl) ?_; intro K hK; go_simp; refine hK _ _ (by repeat (first | exact Ls.But.of (Below.refl _ _) | refine but_set ?_)) ?_; clear hK K; intro wyb hbyb; try simp only [Act.put, List.setIfInBounds_toArray, List.set_cons_zero, List.set_cons_succ]
    obtain ⟨k1, k2⟩ := store5 ya g0 (.int .i64 slots) (.slice p1 n1 c1) (.int .i64 params) (.int .i64 regs) (.slice p2 n2 c2)
    have F := (((((HZa.out.set 0 (.int .i64 slots) (by simp)).set 1 (.slice p1 n1 c1) (by simp)).set 2 (.int .i64 params) (by simp)).set 3 (.int .i64 regs) (by simp)).set 4 (.slice p2 n2 c2) (by simp)).call hbyb
    have HNb := (HNa.keep (k1.mono fun b hb => by omega)).keep (agree_below hbyb)
    have HOb := (HOa.keep k1 fun b hb => by show b ≠ g0; omega).call hbyb
    have HBb : Below w.heap.size w wyb := ((((((HBa.setCell (p := ⟨g0, 0, none⟩) hg0b _).setCell (p := ⟨g0, 1, none⟩) hg0b _).setCell (p := ⟨g0, 2, none⟩) hg0b _).setCell (p := ⟨g0, 3, none⟩) hg0b _).setCell (p := ⟨g0, 4, none⟩) hg0b _)).trans (hbyb.mono (by rw [k2]; exact HBa.size))
    have HNb' := Lib.hid HNb
    have HOb' := Lib.hid HOb
    have HBb' := Lib.hid HBb
    clear x0 x1 x2 x3 x4 xl y0 y1 y2 y3 y4 yl z0 z1 z2 z3 z4 d1 dl HNb HOb HBb hbya hSya hbyb k1 k2 HNa HOa HBa HRa
    have f0 := F.cells 0
    have f1 := F.cells 1
    have f2 := F.cells 2
    have f3 := F.cells 3
    have f4 := F.cells 4
    simp only [List.set_cons_zero, List.set_cons_succ, List.getElem?_cons_zero, List.getElem?_cons_succ] at f0 f1 f2 f3 f4
    clear F
    repeat (first | (refine Ls.takeY ?_ (by rfl) ?_ (by assumption) ?_; rotate_left; (focus (intro w' hSw; (try dsimp only at hSw); go_simp; (try with_reducible rfl))); simp only [Act.put, List.setIfInBounds_toArray, List.set_cons_zero, List.set_cons_succ]) | (refine Ls.takeN (by rfl) (by assumption) ?_; simp only [Act.put, List.setIfInBounds_toArray, List.set_cons_zero, List.set_cons_succ]) | (refine Ls.takeT ?_ (by rfl) ?_ ?_; rotate_left; (focus (intro w' hRw; (try dsimp only at hRw); have hSw := but_held hRw; go_simp; (try with_reducible rfl))); simp only [Act.put, List.setIfInBounds_toArray, List.set_cons_zero, List.set_cons_succ]))
    refine Ls.tail ?_
    go_wp2_with fail
    refine bodyPost_ret (v := .tuple #[.agg #[.int .i64 slots, .slice p1 n1 c1, .int .i64 params, .int .i64 regs, .slice p2 n2 c2], .int .i64 (a4 : Int), .int .i64 0]) (by simp [results, Try.results23, go_sem, f0, f1, f2, f3, f4]) rfl ?_
    rw [hres2.out]
    exact ⟨_, rfl, ⟨_, _, rfl, HNb'.out.mono fun b hb => ⟨by omega, hb.2⟩, HOb'.out.base (by omega)⟩, HBb'.out⟩
  · have q0 : (e4 == 0) = false := by simp [he]
    have hres2 : Hid (Ob.readObj bs = (Ob.zero, (0, e4))) := by show _ = _; rw [hres.out]; exact if_neg he
    clear hres he
    go_upto_region 4 with fail
    have x0 := HP5.out.cells 0
    have x1 := HP5.out.cells 1
    have x2 := HP5.out.cells 2
    have x3 := HP5.out.cells 3
    have x4 := HP5.out.cells 4
    have xl := HP5.out.lt
    have y0 := HZ5.out.cells 0
    have y1 := HZ5.out.cells 1
    have y2 := HZ5.out.cells 2
    have y3 := HZ5.out.cells 3
    have y4 := HZ5.out.cells 4
    have yl := HZ5.out.lt
    have z0 := HZ5.out.frozen 0
    have z1 := HZ5.out.frozen 1
    have z2 := HZ5.out.frozen 2
    have z3 := HZ5.out.frozen 3
    have z4 := HZ5.out.frozen 4
    simp only [List.getElem?_cons_zero, List.getElem?_cons_succ] at x0 x1 x2 x3 x4 y0 y1 y2 y3 y4
    clear c0
    refine Ls.region (Ls.pair (g0)) [5] [(0, 0), (1, 1), (2, 1), (3, 1), (4, 1), (5, 3), (6, 1)] [(7, false)] (fun w' => (∀ b o, b < w5.heap.size → w'.cell? ⟨b, o, none⟩ = w5.cell? ⟨b, o, none⟩) ∧ (∀ b o, b < w5.heap.size → w'.frozen? ⟨b, o, none⟩ = w5.frozen? ⟨b, o, none⟩) ∧ Below w5.heap.size w5 w') (by kernel_rfl) (by kernel_rfl) (fun _ _ _ _ _ h => h) (fun _ _ h hb => held_call h hb) ?_; intro ya hbya; replace hbya : Below w5.heap.size w5 ya := hbya; simp only [Ls.pick, Lx.pick, List.filterMap_cons, List.filterMap_nil, List.getElem?_cons_succ, List.getElem?_cons_zero, List.map_cons, List.map_nil]; have hSya := held_below hbya
    have HPa := Lib.hid (HP5.out.call hbya)
    have HZa := Lib.hid (HZ5.out.call hbya)
    have x0 := HPa.out.cells 0
    have x1 := HPa.out.cells 1
    have x2 := HPa.out.cells 2
    have x3 := HPa.out.cells 3
    have x4 := HPa.out.cells 4
    have xl := HPa.out.lt
    have y0 := HZa.out.cells 0
    have y1 := HZa.out.cells 1
    have y2 := HZa.out.cells 2
    have y3 := HZa.out.cells 3
    have y4 := HZa.out.cells 4
    have yl := HZa.out.lt
    have z0 := HZa.out.frozen 0
    have z1 := HZa.out.frozen 1
    have z2 := HZa.out.frozen 2
    have z3 := HZa.out.frozen 3
    have z4 := HZa.out.frozen 4
    simp only [List.getElem?_cons_zero, List.getElem?_cons_succ] at x0 x1 x2 x3 x4 y0 y1 y2 y3 y4
    have HRa := HR5.out.call hbya
    have HBa := HB5.out.trans (hbya.mono HB5.out.size)
    have d2 := HRa.cells 2
    have dl := HRa.lt
    simp only [List.getElem?_cons_zero, List.getElem?_cons_succ] at d2
    have hg0ne : g ≠ g0 := fun h => by omega
    repeat (first | (refine Ls.takeY ?_ (by rfl) ?_ (by assumption) ?_; rotate_left; (focus (intro w' hSw; (try dsimp only at hSw); go_simp; (try with_reducible rfl))); simp only [Act.put, List.setIfInBounds_toArray, List.set_cons_zero, List.set_cons_succ]) | (refine Ls.takeN (by rfl) (by assumption) ?_; simp only [Act.put, List.setIfInBounds_toArray, List.set_cons_zero, List.set_cons_succ]) | (refine Ls.takeT ?_ (by rfl) ?_ ?_; rotate_left; (focus (intro w' hRw; (try dsimp only at hRw); have hSw := but_held hRw; go_simp; (try with_reducible rfl))); simp only [Act.put, List.setIfInBounds_toArray, List.set_cons_zero, List.set_cons_succ]))
    refine Ls.goX (by rfl) ?_; intro K hK; go_simp; refine hK _ _ (by repeat (first | exact Ls.But.of (Below.refl _ _) | refine but_set ?_)) ?_; clear hK K; intro wyb hbyb; try simp only [Act.put, List.setIfInBounds_toArray, List.set_cons_zero, List.set_cons_succ]
    obtain ⟨k1, k2⟩ := store5 ya g0 (.int .i64 0) (.slice none 0 0) (.int .i64 0) (.int .i64 0) (.slice none 0 0)
    have F := (((((HZa.out.set 0 (.int .i64 0) (by simp)).set 1 (.slice none 0 0) (by simp)).set 2 (.int .i64 0) (by simp)).set 3 (.int .i64 0) (by simp)).set 4 (.slice none 0 0) (by simp)).call hbyb
    have HBb : Below w.heap.size w wyb := ((((((HBa.setCell (p := ⟨g0, 0, none⟩) hg0b _).setCell (p := ⟨g0, 1, none⟩) hg0b _).setCell (p := ⟨g0, 2, none⟩) hg0b _).setCell (p := ⟨g0, 3, none⟩) hg0b _).setCell (p := ⟨g0, 4, none⟩) hg0b _)).trans (hbyb.mono (by rw [k2]; exact HBa.size))
    have HBb' := Lib.hid HBb
    clear x0 x1 x2 x3 x4 xl y0 y1 y2 y3 y4 yl z0 z1 z2 z3 z4 d2 dl HBb hbya hSya hbyb k1 k2 HBa HRa
    have f0 := F.cells 0
    have f1 := F.cells 1
    have f2 := F.cells 2
    have f3 := F.cells 3
    have f4 := F.cells 4
    simp only [List.set_cons_zero, List.set_cons_succ, List.getElem?_cons_zero, List.getElem?_cons_succ] at f0 f1 f2 f3 f4
    clear F
    repeat (first | (refine Ls.takeY ?_ (by rfl) ?_ (by assumption) ?_; rotate_left; (focus (intro w' hSw; (try dsimp only at hSw); go_simp; (try with_reducible rfl))); simp only [Act.put, List.setIfInBounds_toArray, List.set_cons_zero, List.set_cons_succ]) | (refine Ls.takeN (by rfl) (by assumption) ?_; simp only [Act.put, List.setIfInBounds_toArray, List.set_cons_zero, List.set_cons_succ]) | (refine Ls.takeT ?_ (by rfl) ?_ ?_; rotate_left; (focus (intro w' hRw; (try dsimp only at hRw); have hSw := but_held hRw; go_simp; (try with_reducible rfl))); simp only [Act.put, List.setIfInBounds_toArray, List.set_cons_zero, List.set_cons_succ]))
    refine Ls.tail ?_
    go_wp2_with fail
    refine bodyPost_ret (v := .tuple #[.agg #[.int .i64 0, .slice none 0 0, .int .i64 0, .int .i64 0, .slice none 0 0], .int .i64 0, .int .i64 e4]) (by simp [results, Try.results23, go_sem, f0, f1, f2, f3, f4]) rfl ?_
    rw [hres2.out]
    exact ⟨_, rfl, ⟨_, _, rfl, NRow.nil _ _, OpsOwn.nil _ _⟩, HBb'.out⟩
end Go.Proofs.Ytabeimmjclkobaa
