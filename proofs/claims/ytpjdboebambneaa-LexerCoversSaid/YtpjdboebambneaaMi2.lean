/- Expressions that are made: Int of one depth more. -/
import Derived.Test.YtpjdboebambneaaMi1
namespace Go.Proofs.Ytpjdboebambneaa
open Go.ChangeShapes Go.WideShapes Go.RowKit

/-- what a drawn region keeps where a program is made -/
def PS (E : Env) (w w' : World) : Prop :=
  (∀ b o, b ≠ E.gd → b ≠ E.gp → b < w.heap.size → w'.cell? ⟨b, o, none⟩ = w.cell? ⟨b, o, none⟩) ∧ w'.cell? ⟨E.gp, 0, none⟩ = some (.pointer (some ⟨E.gd, 0, none⟩)) ∧ w'.cell? ⟨E.gp, 1, none⟩ = some E.fv ∧ w'.cell? ⟨E.gp, 2, none⟩ = some E.cv ∧ w'.cell? ⟨E.gp, 3, none⟩ = some E.mv ∧ PR E w w'
theorem PS.of {E : Env} {w w' : World} (hE : PE E w) (h : PR E w w') : PS E w w' := by
  obtain ⟨c0, c1, c2, c3, _⟩ := (hE.keep h).cells
  exact ⟨fun b o h1 h2 hlt => World.cell?_of_block (w := w) (h.block b h1 h2 hlt), c0, c1, c2, c3, h⟩
theorem PS.step {E : Env} {w w1 w2 : World} (hE : PE E w) (h : PS E w w1) (k : PR E w1 w2) : PS E w w2 := PS.of hE (h.2.2.2.2.2.trans k)

set_option maxRecDepth 100000 in
set_option maxHeartbeats 12800000 in
theorem int_step (d b c bB bS bK : Nat) (hI : OkInt d b) (hB : OkBool d bB) (hS : OkShown d bS) (hK : OkBlock d bK) (hb : b ≤ 100000000) (hb2 : 20 ≤ b) (hd0 : d ≤ 9) (hc1 : 2 * b + 50 ≤ c) (hc2 : bB + 2 * b + 18 ≤ c) (hc3 : bS + 6 ≤ c) (hc4 : bK ≤ c) (hc5 : c ≤ 100000000) : OkInt (d + 1) c := by
  intro E x v n w hx1 hx2 hE hV hn
  by_cases hx0 : x ≤ 0
  · refine (int_base E x v n w hx1 (by simpa using hx0) hE hV hn).mono ?_
    rintro e w' ⟨S, rfl, hS, hp⟩
    exact ⟨S, rfl, by omega, hp⟩
  · have hd : decide (x ≤ 0) = false := by simpa using hx0
    have hx3 : x ≤ (d : Int) + 1 := by simpa using hx2
    clear hx2
    have HI := Lib.hid hI
    have HB := Lib.hid hB
    have HS := Lib.hid hS
    have HK := Lib.hid hK
    clear hI hB hS hK
    have hA := PR.refl E w
    have hfew := hE.few
    obtain ⟨p, cap, rfl⟩ := hV.parts
    obtain ⟨pf, cf, hfv⟩ := hE.fns.parts
    obtain ⟨pc, cc, hcv⟩ := hE.cons.parts
    obtain ⟨pm, cm, hmv⟩ := hE.macs.parts
    obtain ⟨d0, d1, d2, d3, d4, d5, d7⟩ := hE.cells
    go_enter Try.func89, Try.ntmps89
    go_wp2_with (first | (go_at_call 61; refine (mnext_any E _ _ (by first | assumption | exact PE.alloc (by assumption) _ | exact PE.alloc (PE.alloc (by assumption) _) _) (by omega) (by omega)).mono ?_; rintro e w' ⟨k, rfl, hk0, hk1, hp⟩; have hE := PE.keep (by first | assumption | exact PE.alloc (by assumption) _ | exact PE.alloc (PE.alloc (by assumption) _) _) hp; have hV := SR.pr (E := E) (c := 20) (n := n) (by first | assumption | exact SR.alloc (by assumption) _ | exact SR.alloc (SR.alloc (by assumption) _) _) hp; have hA := PR.trans (a := w) (by first | assumption | exact PR.alloc (by assumption) _ | exact PR.alloc (PR.alloc (by assumption) _) _) hp; obtain ⟨d0, d1, d2, d3, d4, d5, d7⟩ := hE.cells; clear hp) | (go_at_call 89; refine (HI.out E _ _ n _ (by omega) (by omega) (by first | assumption | exact PE.alloc (by assumption) _ | exact PE.alloc (PE.alloc (by assumption) _) _) (by first | assumption | exact SR.alloc (by assumption) _ | exact SR.alloc (SR.alloc (by assumption) _) _) (by omega)).mono ?_; rintro e w' ⟨S, rfl, hS, hp⟩; have hE := PE.keep (by first | assumption | exact PE.alloc (by assumption) _ | exact PE.alloc (PE.alloc (by assumption) _) _) hp; have hV := SR.pr (E := E) (c := 20) (n := n) (by first | assumption | exact SR.alloc (by assumption) _ | exact SR.alloc (SR.alloc (by assumption) _) _) hp; have hA := PR.trans (a := w) (by first | assumption | exact PR.alloc (by assumption) _ | exact PR.alloc (PR.alloc (by assumption) _) _) hp; obtain ⟨d0, d1, d2, d3, d4, d5, d7⟩ := hE.cells; clear hp) | (go_at_call 92; refine (HB.out E _ _ n _ (by omega) (by omega) (by first | assumption | exact PE.alloc (by assumption) _ | exact PE.alloc (PE.alloc (by assumption) _) _) (by first | assumption | exact SR.alloc (by assumption) _ | exact SR.alloc (SR.alloc (by assumption) _) _) (by omega)).mono ?_; rintro e w' ⟨S, rfl, hS, hp⟩; have hE := PE.keep (by first | assumption | exact PE.alloc (by assumption) _ | exact PE.alloc (PE.alloc (by assumption) _) _) hp; have hV := SR.pr (E := E) (c := 20) (n := n) (by first | assumption | exact SR.alloc (by assumption) _ | exact SR.alloc (SR.alloc (by assumption) _) _) hp; have hA := PR.trans (a := w) (by first | assumption | exact PR.alloc (by assumption) _ | exact PR.alloc (PR.alloc (by assumption) _) _) hp; obtain ⟨d0, d1, d2, d3, d4, d5, d7⟩ := hE.cells; clear hp) | (go_at_call 93; refine (HS.out E _ _ n _ (by omega) (by omega) (by first | assumption | exact PE.alloc (by assumption) _ | exact PE.alloc (PE.alloc (by assumption) _) _) (by first | assumption | exact SR.alloc (by assumption) _ | exact SR.alloc (SR.alloc (by assumption) _) _) (by omega)).mono ?_; rintro e w' ⟨S, rfl, hS, hp⟩; have hE := PE.keep (by first | assumption | exact PE.alloc (by assumption) _ | exact PE.alloc (PE.alloc (by assumption) _) _) hp; have hV := SR.pr (E := E) (c := 20) (n := n) (by first | assumption | exact SR.alloc (by assumption) _ | exact SR.alloc (SR.alloc (by assumption) _) _) hp; have hA := PR.trans (a := w) (by first | assumption | exact PR.alloc (by assumption) _ | exact PR.alloc (PR.alloc (by assumption) _) _) hp; obtain ⟨d0, d1, d2, d3, d4, d5, d7⟩ := hE.cells; clear hp) | (go_at_call 83; refine (HK.out E _ _ n _ (by omega) (by omega) (by first | assumption | exact PE.alloc (by assumption) _ | exact PE.alloc (PE.alloc (by assumption) _) _) (by first | assumption | exact SR.alloc (by assumption) _ | exact SR.alloc (SR.alloc (by assumption) _) _) (by omega)).mono ?_; rintro e w' ⟨S, rfl, hS, hp⟩; have hE := PE.keep (by first | assumption | exact PE.alloc (by assumption) _ | exact PE.alloc (PE.alloc (by assumption) _) _) hp; have hV := SR.pr (E := E) (c := 20) (n := n) (by first | assumption | exact SR.alloc (by assumption) _ | exact SR.alloc (SR.alloc (by assumption) _) _) hp; have hA := PR.trans (a := w) (by first | assumption | exact PR.alloc (by assumption) _ | exact PR.alloc (PR.alloc (by assumption) _) _) hp; obtain ⟨d0, d1, d2, d3, d4, d5, d7⟩ := hE.cells; clear hp) | (go_at_call 79; refine (mof_any E 20 _ _ _ (PE.alloc (by first | assumption | exact PE.alloc (by assumption) _ | exact PE.alloc (PE.alloc (by assumption) _) _) _) (SR.new _ _ _ (by rfl) (PE.apart (by first | assumption | exact PE.alloc (by assumption) _ | exact PE.alloc (PE.alloc (by assumption) _) _)) (by rfl)) (by omega) (by omega)).mono ?_; rintro e w' ⟨S, rfl, hS, hp⟩; have hE := PE.keep (by first | assumption | exact PE.alloc (by assumption) _ | exact PE.alloc (PE.alloc (by assumption) _) _) hp; have hV := SR.pr (E := E) (c := 20) (n := n) (by first | assumption | exact SR.alloc (by assumption) _ | exact SR.alloc (SR.alloc (by assumption) _) _) hp; have hA := PR.trans (a := w) (by first | assumption | exact PR.alloc (by assumption) _ | exact PR.alloc (PR.alloc (by assumption) _) _) hp; obtain ⟨d0, d1, d2, d3, d4, d5, d7⟩ := hE.cells; clear hp))
    all_goals try (go_ret; exact ⟨_, rfl, by first | omega | (simp only [ByteArray.size_append, size_lit, List.size_toArray, List.length_cons, List.length_nil]; omega), by assumption⟩)
    · have hwr : IntKind.i64.wrap (x - 1) = x - 1 := by rw [IntKind.wrap_i64]; omega
      refine Lx.region (pr_steps E) [(0, true), (1, true), (2, true), (3, true), (4, true), (5, true), (6, true), (7, true), (8, true), (9, true), (14, true), (15, true), (16, true), (17, true), (21, true), (22, true), (10, false), (11, true), (12, true), (13, true), (18, false), (19, true), (20, true), (23, false), (24, true), (25, true)] [(26, false)] (fun wz => (∀ b o, b ≠ E.gd → b ≠ E.gp → b < w'.heap.size → wz.cell? ⟨b, o, none⟩ = w'.cell? ⟨b, o, none⟩) ∧ wz.cell? ⟨E.gp, 0, none⟩ = some (.pointer (some ⟨E.gd, 0, none⟩)) ∧ wz.cell? ⟨E.gp, 1, none⟩ = some E.fv ∧ wz.cell? ⟨E.gp, 2, none⟩ = some E.cv ∧ wz.cell? ⟨E.gp, 3, none⟩ = some E.mv ∧ PR E w' wz) (by kernel_rfl) (by kernel_rfl) (fun _ _ _ _ _ h => h) (fun _ h => PS.of (E := E) (w := w') hE h) (fun _ _ h hb => PS.step (E := E) (w := w') hE h hb) ?_; intro xa hbxa; replace hbxa : PR E w' xa := hbxa; simp only [Lx.pick, List.filterMap_cons, List.filterMap_nil, List.getElem?_cons_succ, List.getElem?_cons_zero, List.map_cons, List.map_nil]; have hSxa : PS E w' xa := PS.of hE hbxa
      repeat (first | (refine Lx.takeY ?_ (by rfl) ?_ (by assumption) ?_; rotate_left; (focus (intro w' hSw; (try dsimp only at hSw); go_simp; (try with_reducible rfl))); simp only [Act.put, List.setIfInBounds_toArray, List.set_cons_zero, List.set_cons_succ]) | (refine Lx.takeN (by rfl) (by assumption) ?_; simp only [Act.put, List.setIfInBounds_toArray, List.set_cons_zero, List.set_cons_succ]))
      refine Lx.go ?_; intro K hK; go_simp; go_at_call 61; refine (mnext_any E _ _ (hE.keep hbxa) (by omega) (by omega)).mono ?_; rintro e w0xb ⟨k2, rfl, hk2, hk3, hb0xb⟩; refine hK _ _ hb0xb ?_; clear hK K; intro wxb hbxb; replace hbxb := PR.trans hb0xb hbxb; have hSxb := PS.step hE hSxa hbxb; try simp only [Act.put, List.setIfInBounds_toArray, List.set_cons_zero, List.set_cons_succ]
      obtain ⟨j, rfl⟩ := Int.eq_ofNat_of_zero_le hk2
      have hfs := hE.fns
      rw [hfv] at hfs
      obtain ⟨g, o, S1, rfl, hgA, hg, hc, hS1⟩ := hfs.at (k := j) (by omega)
      have hg1 := hgA.1
      have hg2 := hgA.2
      clear hfs hgA
      have hcat1 : (9223372036854775807 < S1.size + 1) = False := eq_false (by omega)
      repeat (first | (refine Lx.takeY ?_ (by rfl) ?_ (by assumption) ?_; rotate_left; (focus (intro w' hSw; (try dsimp only at hSw); go_simp; (try with_reducible rfl))); simp only [Act.put, List.setIfInBounds_toArray, List.set_cons_zero, List.set_cons_succ]) | (refine Lx.takeN (by rfl) (by assumption) ?_; simp only [Act.put, List.setIfInBounds_toArray, List.set_cons_zero, List.set_cons_succ]))
      refine Lx.go ?_; intro K hK; go_simp; go_at_call 89; refine (HI.out E _ _ n _ (by omega) (by omega) (hE.keep hSxb.2.2.2.2.2) (hV.pr hSxb.2.2.2.2.2) (by omega)).mono ?_; rintro e w0xc ⟨S2, rfl, hS2, hb0xc⟩; refine hK _ _ hb0xc ?_; clear hK K; intro wxc hbxc; replace hbxc := PR.trans hb0xc hbxc; have hSxc := PS.step hE hSxb hbxc; try simp only [Act.put, List.setIfInBounds_toArray, List.set_cons_zero, List.set_cons_succ]
      have hcat2 : (9223372036854775807 < S1.size + 1 + S2.size) = False := eq_false (by omega)
      have hcat3 : (9223372036854775807 < S1.size + 1 + S2.size + 2) = False := eq_false (by omega)
      repeat (first | (refine Lx.takeY ?_ (by rfl) ?_ (by assumption) ?_; rotate_left; (focus (intro w' hSw; (try dsimp only at hSw); go_simp; (try with_reducible rfl))); simp only [Act.put, List.setIfInBounds_toArray, List.set_cons_zero, List.set_cons_succ]) | (refine Lx.takeN (by rfl) (by assumption) ?_; simp only [Act.put, List.setIfInBounds_toArray, List.set_cons_zero, List.set_cons_succ]))
      refine Lx.go ?_; intro K hK; go_simp; go_at_call 89; refine (HI.out E _ _ n _ (by omega) (by omega) (hE.keep hSxc.2.2.2.2.2) (hV.pr hSxc.2.2.2.2.2) (by omega)).mono ?_; rintro e w0xd ⟨S3, rfl, hS3, hb0xd⟩; refine hK _ _ hb0xd ?_; clear hK K; intro wxd hbxd; replace hbxd := PR.trans hb0xd hbxd; have hSxd := PS.step hE hSxc hbxd; try simp only [Act.put, List.setIfInBounds_toArray, List.set_cons_zero, List.set_cons_succ]
      have hcat4 : (9223372036854775807 < S1.size + 1 + S2.size + 2 + S3.size) = False := eq_false (by omega)
      have hcat5 : (9223372036854775807 < S1.size + 1 + S2.size + 2 + S3.size + 1) = False := eq_false (by omega)
      repeat (first | (refine Lx.takeY ?_ (by rfl) ?_ (by assumption) ?_; rotate_left; (focus (intro w' hSw; (try dsimp only at hSw); go_simp; (try with_reducible rfl))); simp only [Act.put, List.setIfInBounds_toArray, List.set_cons_zero, List.set_cons_succ]) | (refine Lx.takeN (by rfl) (by assumption) ?_; simp only [Act.put, List.setIfInBounds_toArray, List.set_cons_zero, List.set_cons_succ]))
      refine Lx.tail ?_
      have hfin := hA.trans hSxd.2.2.2.2.2
      go_wp2_with fail
      go_ret; exact ⟨_, rfl, by first | omega | (simp only [ByteArray.size_append, size_lit, List.size_toArray, List.length_cons, List.length_nil]; omega), by assumption⟩
    · have hwr : IntKind.i64.wrap (x - 1) = x - 1 := by rw [IntKind.wrap_i64]; omega
      refine Lx.region (pr_steps E) [(0, true), (1, true), (2, true), (3, true), (4, true), (5, true), (6, true), (7, true), (8, true), (9, true), (14, true), (15, true), (16, true), (17, true), (21, true), (22, true), (10, false), (11, true), (12, true), (13, true), (18, false), (19, true), (20, true), (23, false), (24, true), (25, true)] [(26, false)] (fun wz => (∀ b o, b ≠ E.gd → b ≠ E.gp → b < w'.heap.size → wz.cell? ⟨b, o, none⟩ = w'.cell? ⟨b, o, none⟩) ∧ wz.cell? ⟨E.gp, 0, none⟩ = some (.pointer (some ⟨E.gd, 0, none⟩)) ∧ wz.cell? ⟨E.gp, 1, none⟩ = some E.fv ∧ wz.cell? ⟨E.gp, 2, none⟩ = some E.cv ∧ wz.cell? ⟨E.gp, 3, none⟩ = some E.mv ∧ PR E w' wz) (by kernel_rfl) (by kernel_rfl) (fun _ _ _ _ _ h => h) (fun _ h => PS.of (E := E) (w := w') hE h) (fun _ _ h hb => PS.step (E := E) (w := w') hE h hb) ?_; intro xa hbxa; replace hbxa : PR E w' xa := hbxa; simp only [Lx.pick, List.filterMap_cons, List.filterMap_nil, List.getElem?_cons_succ, List.getElem?_cons_zero, List.map_cons, List.map_nil]; have hSxa : PS E w' xa := PS.of hE hbxa
      repeat (first | (refine Lx.takeY ?_ (by rfl) ?_ (by assumption) ?_; rotate_left; (focus (intro w' hSw; (try dsimp only at hSw); go_simp; (try with_reducible rfl))); simp only [Act.put, List.setIfInBounds_toArray, List.set_cons_zero, List.set_cons_succ]) | (refine Lx.takeN (by rfl) (by assumption) ?_; simp only [Act.put, List.setIfInBounds_toArray, List.set_cons_zero, List.set_cons_succ]))
      refine Lx.go ?_; intro K hK; go_simp; go_at_call 61; refine (mnext_any E _ _ (hE.keep hbxa) (by omega) (by omega)).mono ?_; rintro e w0xb ⟨k2, rfl, hk2, hk3, hb0xb⟩; refine hK _ _ hb0xb ?_; clear hK K; intro wxb hbxb; replace hbxb := PR.trans hb0xb hbxb; have hSxb := PS.step hE hSxa hbxb; try simp only [Act.put, List.setIfInBounds_toArray, List.set_cons_zero, List.set_cons_succ]
      obtain ⟨j, rfl⟩ := Int.eq_ofNat_of_zero_le hk2
      have hfs := hE.fns
      rw [hfv] at hfs
      obtain ⟨g, o, S1, rfl, hgA, hg, hc, hS1⟩ := hfs.at (k := j) (by omega)
      have hg1 := hgA.1
      have hg2 := hgA.2
      clear hfs hgA
      have hcat1 : (9223372036854775807 < S1.size + 1) = False := eq_false (by omega)
      repeat (first | (refine Lx.takeY ?_ (by rfl) ?_ (by assumption) ?_; rotate_left; (focus (intro w' hSw; (try dsimp only at hSw); go_simp; (try with_reducible rfl))); simp only [Act.put, List.setIfInBounds_toArray, List.set_cons_zero, List.set_cons_succ]) | (refine Lx.takeN (by rfl) (by assumption) ?_; simp only [Act.put, List.setIfInBounds_toArray, List.set_cons_zero, List.set_cons_succ]))
      refine Lx.go ?_; intro K hK; go_simp; go_at_call 89; refine (HI.out E _ _ n _ (by omega) (by omega) (hE.keep hSxb.2.2.2.2.2) (hV.pr hSxb.2.2.2.2.2) (by omega)).mono ?_; rintro e w0xc ⟨S2, rfl, hS2, hb0xc⟩; refine hK _ _ hb0xc ?_; clear hK K; intro wxc hbxc; replace hbxc := PR.trans hb0xc hbxc; have hSxc := PS.step hE hSxb hbxc; try simp only [Act.put, List.setIfInBounds_toArray, List.set_cons_zero, List.set_cons_succ]
      have hcat2 : (9223372036854775807 < S1.size + 1 + S2.size) = False := eq_false (by omega)
      have hcat3 : (9223372036854775807 < S1.size + 1 + S2.size + 2) = False := eq_false (by omega)
      repeat (first | (refine Lx.takeY ?_ (by rfl) ?_ (by assumption) ?_; rotate_left; (focus (intro w' hSw; (try dsimp only at hSw); go_simp; (try with_reducible rfl))); simp only [Act.put, List.setIfInBounds_toArray, List.set_cons_zero, List.set_cons_succ]) | (refine Lx.takeN (by rfl) (by assumption) ?_; simp only [Act.put, List.setIfInBounds_toArray, List.set_cons_zero, List.set_cons_succ]))
      refine Lx.go ?_; intro K hK; go_simp; go_at_call 89; refine (HI.out E _ _ n _ (by omega) (by omega) (hE.keep hSxc.2.2.2.2.2) (hV.pr hSxc.2.2.2.2.2) (by omega)).mono ?_; rintro e w0xd ⟨S3, rfl, hS3, hb0xd⟩; refine hK _ _ hb0xd ?_; clear hK K; intro wxd hbxd; replace hbxd := PR.trans hb0xd hbxd; have hSxd := PS.step hE hSxc hbxd; try simp only [Act.put, List.setIfInBounds_toArray, List.set_cons_zero, List.set_cons_succ]
      have hcat4 : (9223372036854775807 < S1.size + 1 + S2.size + 2 + S3.size) = False := eq_false (by omega)
      have hcat5 : (9223372036854775807 < S1.size + 1 + S2.size + 2 + S3.size + 1) = False := eq_false (by omega)
      repeat (first | (refine Lx.takeY ?_ (by rfl) ?_ (by assumption) ?_; rotate_left; (focus (intro w' hSw; (try dsimp only at hSw); go_simp; (try with_reducible rfl))); simp only [Act.put, List.setIfInBounds_toArray, List.set_cons_zero, List.set_cons_succ]) | (refine Lx.takeN (by rfl) (by assumption) ?_; simp only [Act.put, List.setIfInBounds_toArray, List.set_cons_zero, List.set_cons_succ]))
      refine Lx.tail ?_
      have hfin := hA.trans hSxd.2.2.2.2.2
      go_wp2_with fail
      go_ret; exact ⟨_, rfl, by first | omega | (simp only [ByteArray.size_append, size_lit, List.size_toArray, List.length_cons, List.length_nil]; omega), by assumption⟩
    · have hwr : IntKind.i64.wrap (x - 1) = x - 1 := by rw [IntKind.wrap_i64]; omega
      refine Lx.region (pr_steps E) [(0, true), (1, true), (2, true), (3, true), (4, true), (5, true), (6, true), (7, true), (8, true), (9, true), (10, false), (11, true), (12, true)] [(13, false)] (fun wz => (∀ b o, b ≠ E.gd → b ≠ E.gp → b < w'.heap.size → wz.cell? ⟨b, o, none⟩ = w'.cell? ⟨b, o, none⟩) ∧ wz.cell? ⟨E.gp, 0, none⟩ = some (.pointer (some ⟨E.gd, 0, none⟩)) ∧ wz.cell? ⟨E.gp, 1, none⟩ = some E.fv ∧ wz.cell? ⟨E.gp, 2, none⟩ = some E.cv ∧ wz.cell? ⟨E.gp, 3, none⟩ = some E.mv ∧ PR E w' wz) (by kernel_rfl) (by kernel_rfl) (fun _ _ _ _ _ h => h) (fun _ h => PS.of (E := E) (w := w') hE h) (fun _ _ h hb => PS.step (E := E) (w := w') hE h hb) ?_; intro xa hbxa; replace hbxa : PR E w' xa := hbxa; simp only [Lx.pick, List.filterMap_cons, List.filterMap_nil, List.getElem?_cons_succ, List.getElem?_cons_zero, List.map_cons, List.map_nil]; have hSxa : PS E w' xa := PS.of hE hbxa
      repeat (first | (refine Lx.takeY ?_ (by rfl) ?_ (by assumption) ?_; rotate_left; (focus (intro w' hSw; (try dsimp only at hSw); go_simp; (try with_reducible rfl))); simp only [Act.put, List.setIfInBounds_toArray, List.set_cons_zero, List.set_cons_succ]) | (refine Lx.takeN (by rfl) (by assumption) ?_; simp only [Act.put, List.setIfInBounds_toArray, List.set_cons_zero, List.set_cons_succ]))
      refine Lx.go ?_; intro K hK; go_simp; go_at_call 61; refine (mnext_any E _ _ (hE.keep hbxa) (by omega) (by omega)).mono ?_; rintro e w0xb ⟨k2, rfl, hk2, hk3, hb0xb⟩; refine hK _ _ hb0xb ?_; clear hK K; intro wxb hbxb; replace hbxb := PR.trans hb0xb hbxb; have hSxb := PS.step hE hSxa hbxb; try simp only [Act.put, List.setIfInBounds_toArray, List.set_cons_zero, List.set_cons_succ]
      obtain ⟨j, rfl⟩ := Int.eq_ofNat_of_zero_le hk2
      have hfs := hE.cons
      rw [hcv] at hfs
      obtain ⟨g, o, S1, rfl, hgA, hg, hc, hS1⟩ := hfs.at (k := j) (by omega)
      have hg1 := hgA.1
      have hg2 := hgA.2
      clear hfs hgA
      repeat (first | (refine Lx.takeY ?_ (by rfl) ?_ (by assumption) ?_; rotate_left; (focus (intro w' hSw; (try dsimp only at hSw); go_simp; (try with_reducible rfl))); simp only [Act.put, List.setIfInBounds_toArray, List.set_cons_zero, List.set_cons_succ]) | (refine Lx.takeN (by rfl) (by assumption) ?_; simp only [Act.put, List.setIfInBounds_toArray, List.set_cons_zero, List.set_cons_succ]))
      refine Lx.tail ?_
      have hfin := hA.trans hSxb.2.2.2.2.2
      go_wp2_with fail
      go_ret; exact ⟨_, rfl, by first | omega | (simp only [ByteArray.size_append, size_lit, List.size_toArray, List.length_cons, List.length_nil]; omega), by assumption⟩
    · have hwr : IntKind.i64.wrap (x - 1) = x - 1 := by rw [IntKind.wrap_i64]; omega
      refine Lx.region (pr_steps E) [(0, true), (1, true), (2, true), (3, true), (4, true), (5, true), (6, true), (7, true), (8, true), (9, true), (14, true), (15, true), (16, true), (17, true), (10, false), (11, true), (12, true), (13, true), (18, false), (19, true), (20, true)] [(21, false)] (fun wz => (∀ b o, b ≠ E.gd → b ≠ E.gp → b < w'.heap.size → wz.cell? ⟨b, o, none⟩ = w'.cell? ⟨b, o, none⟩) ∧ wz.cell? ⟨E.gp, 0, none⟩ = some (.pointer (some ⟨E.gd, 0, none⟩)) ∧ wz.cell? ⟨E.gp, 1, none⟩ = some E.fv ∧ wz.cell? ⟨E.gp, 2, none⟩ = some E.cv ∧ wz.cell? ⟨E.gp, 3, none⟩ = some E.mv ∧ PR E w' wz) (by kernel_rfl) (by kernel_rfl) (fun _ _ _ _ _ h => h) (fun _ h => PS.of (E := E) (w := w') hE h) (fun _ _ h hb => PS.step (E := E) (w := w') hE h hb) ?_; intro xa hbxa; replace hbxa : PR E w' xa := hbxa; simp only [Lx.pick, List.filterMap_cons, List.filterMap_nil, List.getElem?_cons_succ, List.getElem?_cons_zero, List.map_cons, List.map_nil]; have hSxa : PS E w' xa := PS.of hE hbxa
      repeat (first | (refine Lx.takeY ?_ (by rfl) ?_ (by assumption) ?_; rotate_left; (focus (intro w' hSw; (try dsimp only at hSw); go_simp; (try with_reducible rfl))); simp only [Act.put, List.setIfInBounds_toArray, List.set_cons_zero, List.set_cons_succ]) | (refine Lx.takeN (by rfl) (by assumption) ?_; simp only [Act.put, List.setIfInBounds_toArray, List.set_cons_zero, List.set_cons_succ]))
      refine Lx.go ?_; intro K hK; go_simp; go_at_call 61; refine (mnext_any E _ _ (hE.keep hbxa) (by omega) (by omega)).mono ?_; rintro e w0xb ⟨k2, rfl, hk2, hk3, hb0xb⟩; refine hK _ _ hb0xb ?_; clear hK K; intro wxb hbxb; replace hbxb := PR.trans hb0xb hbxb; have hSxb := PS.step hE hSxa hbxb; try simp only [Act.put, List.setIfInBounds_toArray, List.set_cons_zero, List.set_cons_succ]
      obtain ⟨j, rfl⟩ := Int.eq_ofNat_of_zero_le hk2
      have hfs := hE.macs
      rw [hmv] at hfs
      obtain ⟨g, o, S1, rfl, hgA, hg, hc, hS1⟩ := hfs.at (k := j) (by omega)
      have hg1 := hgA.1
      have hg2 := hgA.2
      clear hfs hgA
      have hcat1 : (9223372036854775807 < S1.size + 2) = False := eq_false (by omega)
      repeat (first | (refine Lx.takeY ?_ (by rfl) ?_ (by assumption) ?_; rotate_left; (focus (intro w' hSw; (try dsimp only at hSw); go_simp; (try with_reducible rfl))); simp only [Act.put, List.setIfInBounds_toArray, List.set_cons_zero, List.set_cons_succ]) | (refine Lx.takeN (by rfl) (by assumption) ?_; simp only [Act.put, List.setIfInBounds_toArray, List.set_cons_zero, List.set_cons_succ]))
      refine Lx.go ?_; intro K hK; go_simp; go_at_call 89; refine (HI.out E _ _ n _ (by omega) (by omega) (hE.keep hSxb.2.2.2.2.2) (hV.pr hSxb.2.2.2.2.2) (by omega)).mono ?_; rintro e w0xc ⟨S2, rfl, hS2, hb0xc⟩; refine hK _ _ hb0xc ?_; clear hK K; intro wxc hbxc; replace hbxc := PR.trans hb0xc hbxc; have hSxc := PS.step hE hSxb hbxc; try simp only [Act.put, List.setIfInBounds_toArray, List.set_cons_zero, List.set_cons_succ]
      have hcat2 : (9223372036854775807 < S1.size + 2 + S2.size) = False := eq_false (by omega)
      have hcat3 : (9223372036854775807 < S1.size + 2 + S2.size + 1) = False := eq_false (by omega)
      repeat (first | (refine Lx.takeY ?_ (by rfl) ?_ (by assumption) ?_; rotate_left; (focus (intro w' hSw; (try dsimp only at hSw); go_simp; (try with_reducible rfl))); simp only [Act.put, List.setIfInBounds_toArray, List.set_cons_zero, List.set_cons_succ]) | (refine Lx.takeN (by rfl) (by assumption) ?_; simp only [Act.put, List.setIfInBounds_toArray, List.set_cons_zero, List.set_cons_succ]))
      refine Lx.tail ?_
      have hfin := hA.trans hSxc.2.2.2.2.2
      go_wp2_with fail
      go_ret; exact ⟨_, rfl, by first | omega | (simp only [ByteArray.size_append, size_lit, List.size_toArray, List.length_cons, List.length_nil]; omega), by assumption⟩
end Go.Proofs.Ytpjdboebambneaa
