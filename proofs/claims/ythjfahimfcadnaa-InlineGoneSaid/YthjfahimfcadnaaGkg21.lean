import Derived.Test.YthjfahimfcadnaaGkg20
import Derived.Test.YthjfahimfcadnaaGkg11
/- An operation and a word added to a piece (inline.put's function). -/
namespace Go.Proofs.Ythjfahimfcadnaa
open Go.ChangeShapes Go.WideShapes Go.RowKit

theorem OpsIn.parts {A : Nat → Prop} {w : World} {base : Nat} {v : Value} {l : List Ob.Op} (h : OpsIn A w base v l) : ∃ p c, v = .slice p l.length c := by
  obtain ⟨cs, h1, _⟩ := h
  obtain ⟨p, c, e, _⟩ := ownsRow_holds2 h1
  exact ⟨p, c, e⟩
theorem BoolsOwn.parts {w : World} {base : Nat} {v : Value} {l : List Bool} (h : BoolsOwn w base v l) : ∃ p c, v = .slice p l.length c := by
  obtain ⟨p, c, e, _⟩ := ownsRow_holds2 h
  exact ⟨p, c, e⟩
set_option maxRecDepth 100000 in
set_option maxHeartbeats 1600000 in
theorem add_any {A : Nat → Prop} (gp base : Nat) (v1 v2 v3 : Value) (L : List Ob.Op) (B : List Bool) (o : Ob.Op) (u : Value) (xb : Bool) (w : World) (hP : Blk w gp [v1, v2, v3]) (hgb : gp < base) (hbs : base ≤ w.heap.size) (hO : OpsIn A w base v1 L) (hB : BoolsOwn w base v2 B)
    (hA : ∀ g, A g → base ≤ g ∧ some g ≠ v2.ownBlock) (hu : NRow (fun g => A g ∧ some g ≠ v1.ownBlock) w u o.list) (hl1 : L.length ≤ 1000000000) (hl2 : B.length ≤ 1000000000) :
    Calls Try.prog 101 #[opVal o u, .bool xb, .pointer (some ⟨gp, 0, none⟩)] w fun e w' => e = .returned (.tuple #[]) ∧ ∃ v1' v2', Blk w' gp [v1', v2', v3] ∧ OpsIn (fun g => A g ∧ g < w.heap.size) w' base v1' (L ++ [o]) ∧ BoolsOwn w' base v2' (B ++ [xb]) ∧ Sep (fun g => g ≠ gp ∧ some g ≠ v1.ownBlock ∧ some g ≠ v2.ownBlock) w w' ∧ (v1'.ownBlock = v1.ownBlock ∨ ∃ g, v1'.ownBlock = some g ∧ w.heap.size ≤ g) ∧ (v2'.ownBlock = v2.ownBlock ∨ ∃ g, v2'.ownBlock = some g ∧ w.heap.size ≤ g) := by
  obtain ⟨kd, oa, ob, oc, ls, sy⟩ := o
  unfold opVal
  dsimp only at hu ⊢
  obtain ⟨pu, cu, rfl⟩ := hu.parts
  obtain ⟨n, hn⟩ : ∃ n, ls.length = n := ⟨_, rfl⟩
  obtain ⟨S, hS⟩ : ∃ S : ByteArray, ⟨sy.toArray⟩ = S := ⟨_, rfl⟩
  have HSy := Lib.hid hS
  rw [hS]
  have HU := Lib.hid (hu.lt.mono (B := fun g => (A g ∧ g < w.heap.size) ∧ some g ≠ v1.ownBlock) fun g hg => ⟨⟨hg.1.1, hg.2⟩, hg.1.2⟩)
  rw [hn] at HU ⊢
  have HO := Lib.hid hO.lt
  have HB := Lib.hid hB
  have HA := Lib.hid hA
  have HP := Lib.hid hP
  have HlO := Lib.hid hl1
  have hown1 : ∀ g, v1.ownBlock = some g → g < w.heap.size := fun g e => (HO.out.own g e).2
  have hown2 : ∀ g, v2.ownBlock = some g → g < w.heap.size := fun g e => (HB.out.lt g e).2
  have HlB := Lib.hid hl2
  obtain ⟨lo, hlo⟩ : ∃ lo, lo = w.heap.size := ⟨_, rfl⟩
  have Hlo := Lib.hid hlo
  rw [← hlo] at hown1 hown2
  have Hown1 := Lib.hid hown1
  have Hown2 := Lib.hid hown2
  clear hown1 hown2
  obtain ⟨w1, hw1, B1, hb1⟩ := fresh_blk w [.int .i64 kd, .int .i64 oa, .int .i64 ob, .int .i64 oc, .slice pu n cu, .string S] 41
  have Hw := Lib.hid hw1
  have HX := Lib.hid B1
  rw [← hlo] at HX
  have HS : Hid (Sep (fun g => g ≠ gp ∧ some g ≠ v1.ownBlock ∧ some g ≠ v2.ownBlock) w w1) := Sep.of hb1
  have hbs_w1 : base ≤ w1.heap.size := Nat.le_trans hbs hb1.size
  have hlo_w1 : lo ≤ w1.heap.size := by rw [hlo]; exact hb1.size
  have hpo : gp < lo := by omega
  replace HO := Lib.hid (HO.out.call hb1)
  replace HB := Lib.hid (HB.out.call hb1)
  replace HU := Lib.hid (HU.out.keep (agree_below hb1))
  replace HP := Lib.hid (HP.out.call hb1)
  clear hu hn hS hO hB hA hP hl1 hl2 hw1 B1 hb1 hlo hbs
  go_enter Try.func101, Try.ntmps101
  go_upto_region 1 with fail
  rw [Hw.out, ← Hlo.out]
  have k0 := HP.out.cells 0
  have k1 := HP.out.cells 1
  have kl := HP.out.lt
  simp only [List.getElem?_cons_zero, List.getElem?_cons_succ] at k0 k1
  have j0 := HX.out.cells 0
  have j1 := HX.out.cells 1
  have j2 := HX.out.cells 2
  have j3 := HX.out.cells 3
  have j4 := HX.out.cells 4
  have j5 := HX.out.cells 5
  have jl := HX.out.lt
  simp only [List.getElem?_cons_zero, List.getElem?_cons_succ] at j0 j1 j2 j3 j4 j5
  refine Lt.region (R := Lt.Rg (fun b => b < base ∨ b = lo)) (fun _ => Lt.Rg.refl _) (fun h k => h.trans k) (.take 0 (.take 1 (.take 2 (.take 5 (.take 6 (.take 7 (.alt 3 (.alt 4 (.take 10 (.alt 8 (.alt 9 .done .stop) .stop)) (.alt 8 (.alt 4 (.take 10 (.alt 9 .done .stop)) .stop) .stop)) (.alt 8 (.alt 3 (.alt 4 (.take 10 (.alt 9 .done .stop)) .stop) .stop) .stop)))))))) [(11, false), (12, false), (13, false)] (fun _ => True) (by kernel_rfl) (by kernel_rfl) (fun _ _ _ _ _ h => h) trivial (fun _ _ _ _ => trivial) ?_; simp only [Lt.Pl.on, Lx.pick, List.filterMap_cons, List.filterMap_nil, List.getElem?_cons_succ, List.getElem?_cons_zero]
  obtain ⟨xa, hxa, hbxa⟩ : ∃ x, w1.drew = x ∧ Below w1.heap.size w1 x := ⟨_, rfl, (Below.refl _ w1).drew⟩
  rw [hxa]
  clear hxa
  clear k0 k1 kl j0 j1 j2 j3 j4 j5 jl
  replace HP := Lib.hid (HP.out.call hbxa)
  replace HX := Lib.hid (HX.out.call hbxa)
  have hbs_xa : base ≤ xa.heap.size := Nat.le_trans hbs_w1 hbxa.size
  have hlo_xa : lo ≤ xa.heap.size := Nat.le_trans hlo_w1 hbxa.size
  replace HO := Lib.hid (HO.out.call hbxa)
  replace HB := Lib.hid (HB.out.call hbxa)
  replace HU := Lib.hid (HU.out.keep (agree_below hbxa))
  replace HS := Lib.hid (HS.out.trans (Sep.of hbxa))
  clear hbxa
  have k0 := HP.out.cells 0
  have k1 := HP.out.cells 1
  have kl := HP.out.lt
  simp only [List.getElem?_cons_zero, List.getElem?_cons_succ] at k0 k1
  have j0 := HX.out.cells 0
  have j1 := HX.out.cells 1
  have j2 := HX.out.cells 2
  have j3 := HX.out.cells 3
  have j4 := HX.out.cells 4
  have j5 := HX.out.cells 5
  have jl := HX.out.lt
  simp only [List.getElem?_cons_zero, List.getElem?_cons_succ] at j0 j1 j2 j3 j4 j5
  have hrun1 := fun (w' : World) (h : Lt.Rg (fun b => b < base ∨ b = lo) xa w') => (h.cell gp 0 (.inl hgb) kl).trans k0
  have hrun2 := fun (w' : World) (h : Lt.Rg (fun b => b < base ∨ b = lo) xa w') => (h.cell gp 1 (.inl hgb) kl).trans k1
  have hrun3 := fun (w' : World) (h : Lt.Rg (fun b => b < base ∨ b = lo) xa w') => And.intro ((h.cell lo 0 (.inr rfl) jl).trans j0) (And.intro ((h.cell lo 1 (.inr rfl) jl).trans j1) (And.intro ((h.cell lo 2 (.inr rfl) jl).trans j2) (And.intro ((h.cell lo 3 (.inr rfl) jl).trans j3) (And.intro ((h.cell lo 4 (.inr rfl) jl).trans j4) ((h.cell lo 5 (.inr rfl) jl).trans j5)))))
  have Hr1 := Lib.hid hrun1
  have Hr2 := Lib.hid hrun2
  have Hr3 := Lib.hid hrun3
  clear hrun1 hrun2 hrun3
  clear k0 k1 kl j0 j1 j2 j3 j4 j5 jl
  have hr1 := Hr1.out
  have hr2 := Hr2.out
  have hr3 := Hr3.out
  (first | (refine Lt.takeR ?_ (by rfl) ?_ ?_; rotate_left; (focus (intro w' hRw; go_simp; (try with_reducible rfl))); simp only [Act.put, List.setIfInBounds_toArray, List.set_cons_zero, List.set_cons_succ]) | (refine Lt.takeN (by rfl) trivial ?_; simp only [Act.put, List.setIfInBounds_toArray, List.set_cons_zero, List.set_cons_succ]))
  refine Lt.takeR ?_ (by rfl) ?_ ?_; rotate_left; (focus (intro w' hRw; have hsq := hr1 w' hRw; go_simp; (try with_reducible rfl))); simp only [Act.put, List.setIfInBounds_toArray, List.set_cons_zero, List.set_cons_succ]
  refine Lt.takeR ?_ (by rfl) ?_ ?_; rotate_left; (focus (intro w' hRw; have hsq := hr3 w' hRw; go_simp; (try with_reducible rfl))); simp only [Act.put, List.setIfInBounds_toArray, List.set_cons_zero, List.set_cons_succ]
  (first | (refine Lt.takeR ?_ (by rfl) ?_ ?_; rotate_left; (focus (intro w' hRw; go_simp; (try with_reducible rfl))); simp only [Act.put, List.setIfInBounds_toArray, List.set_cons_zero, List.set_cons_succ]) | (refine Lt.takeN (by rfl) trivial ?_; simp only [Act.put, List.setIfInBounds_toArray, List.set_cons_zero, List.set_cons_succ]))
  refine Lt.takeR ?_ (by rfl) ?_ ?_; rotate_left; (focus (intro w' hRw; have hsq := hr2 w' hRw; go_simp; (try with_reducible rfl))); simp only [Act.put, List.setIfInBounds_toArray, List.set_cons_zero, List.set_cons_succ]
  (first | (refine Lt.takeR ?_ (by rfl) ?_ ?_; rotate_left; (focus (intro w' hRw; go_simp; (try with_reducible rfl))); simp only [Act.put, List.setIfInBounds_toArray, List.set_cons_zero, List.set_cons_succ]) | (refine Lt.takeN (by rfl) trivial ?_; simp only [Act.put, List.setIfInBounds_toArray, List.set_cons_zero, List.set_cons_succ]))
  clear hr1 hr2 hr3 Hr1 Hr2 Hr3
  clear HX
  refine Lt.go (fun _ => Lt.Rg.refl _) ?_ ?_
  · skip
    intro K hK; go_simp
    obtain ⟨xb1, hy9, B9, hb9⟩ := fresh_blk xa [.int .i64 kd, .int .i64 oa, .int .i64 ob, .int .i64 oc, .slice pu n cu, .string S] 41
    rw [hy9]
    refine hK _ _ (Lt.Rg.of_below hb9) ?_
    clear hK K
    try simp only [Act.put, List.setIfInBounds_toArray, List.set_cons_zero, List.set_cons_succ]
    obtain ⟨g3, hg3⟩ : ∃ g, g = (xa).heap.size := ⟨_, rfl⟩
    rw [← hg3] at B9 ⊢
    have hg3a : base ≤ g3 := by omega
    have hg3b : ∀ g, g < (xa).heap.size → g < g3 := fun g h => by omega
    have hlo3 : lo ≤ g3 := by omega
    replace HP := Lib.hid (HP.out.call hb9)
    have hbs_xb1 : base ≤ (xb1).heap.size := Nat.le_trans hbs_xa hb9.size
    have hlo_xb1 : lo ≤ (xb1).heap.size := Nat.le_trans hlo_xa hb9.size
    replace HO := Lib.hid (HO.out.call hb9)
    replace HB := Lib.hid (HB.out.call hb9)
    replace HU := Lib.hid (HU.out.keep (agree_below hb9))
    replace HS := Lib.hid (HS.out.trans (Sep.of hb9))
    have H3 := Lib.hid B9
    clear hy9 hg3 B9 hb9
    refine Lt.go (fun _ => Lt.Rg.refl _) ?_ ?_
    · skip
      intro K hK
      rw [if_pos (by rfl)]
      refine wp_app_opB _ _ rfl base HO.out hbs_xb1 HlO.out sy HSy.out H3.out HU.out rfl rfl ?_
      intro v1' xb2 ho hg hv
      have hown := HO.out.own
      have hag : Agree (fun g => some g ≠ v1.ownBlock) xb1 xb2 := agree_grown hg fun b hb => hb
      refine hK _ _ (Lt.Rg.of (hag.mono fun b hb e => by have h1 := (hown b e.symm).1; have h2 := Hown1.out b e.symm; omega) hg.size) ?_
      clear hK K
      try simp only [Act.put, List.setIfInBounds_toArray, List.set_cons_zero, List.set_cons_succ]
      have hap := own_apart HO.out.choose_spec.1 HB.out (by decide)
      have hbs_xb2 : base ≤ (xb2).heap.size := Nat.le_trans hbs_xb1 hg.size
      have hlo_xb2 : lo ≤ (xb2).heap.size := Nat.le_trans hlo_xb1 hg.size
      replace HP := Lib.hid (HP.out.keep (A := (· = gp)) (hag.mono fun b hb e => by have := (hown b e.symm).1; omega) hg.size rfl)
      replace HB := Lib.hid (HB.out.keep hag fun g e e' => hap g e'.symm e)
      replace HS := Lib.hid (HS.out.trans (Sep.grown hg fun g _ hp => hp.2.1))
      have hv1 : v1'.ownBlock = v1.ownBlock ∨ ∃ g, v1'.ownBlock = some g ∧ lo ≤ g := hv.imp id fun e => ⟨_, e, hlo_xb1⟩
      have HO1 := Lib.hid ho
      have Hv1 := Lib.hid hv1
      clear ho hg hv hown hag hap hv1 HO HU H3
      (first | (refine Lt.takeR ?_ (by rfl) ?_ ?_; rotate_left; (focus (intro w' hRw; go_simp; (try with_reducible rfl))); simp only [Act.put, List.setIfInBounds_toArray, List.set_cons_zero, List.set_cons_succ]) | (refine Lt.takeN (by rfl) trivial ?_; simp only [Act.put, List.setIfInBounds_toArray, List.set_cons_zero, List.set_cons_succ]))
      refine Lt.go (fun _ => Lt.Rg.refl _) ?_ Lt.stop
      intro K hK; go_simp
      obtain ⟨xb3, hy9, B9, hb9⟩ := fresh_blk xb2 [.bool xb] 4
      rw [hy9]
      refine hK _ _ (Lt.Rg.of_below hb9) ?_
      clear hK K
      try simp only [Act.put, List.setIfInBounds_toArray, List.set_cons_zero, List.set_cons_succ]
      obtain ⟨g8, hg8⟩ : ∃ g, g = (xb2).heap.size := ⟨_, rfl⟩
      rw [← hg8] at B9 ⊢
      have hg8a : base ≤ g8 := by omega
      have hlo8 : lo ≤ g8 := by omega
      replace HP := Lib.hid (HP.out.call hb9)
      have hbs_xb3 : base ≤ (xb3).heap.size := Nat.le_trans hbs_xb2 hb9.size
      have hlo_xb3 : lo ≤ (xb3).heap.size := Nat.le_trans hlo_xb2 hb9.size
      replace HO1 := Lib.hid (HO1.out.call hb9)
      replace HB := Lib.hid (HB.out.call hb9)
      replace HS := Lib.hid (HS.out.trans (Sep.of hb9))
      have H8 := Lib.hid B9
      clear hy9 hg8 B9 hb9
      refine Lt.go (fun _ => Lt.Rg.refl _) ?_ Lt.stop
      intro K hK
      rw [if_pos (by rfl)]
      refine wp_app_boolB _ _ rfl base HB.out hbs_xb3 HlB.out H8.out rfl rfl ?_
      intro v2' xb4 ho hg hv
      have hown := HB.out.lt
      have hag : Agree (fun g => some g ≠ v2.ownBlock) xb3 xb4 := agree_grown hg fun b hb => hb
      refine hK _ _ (Lt.Rg.of (hag.mono fun b hb e => by have h1 := (hown b e.symm).1; have h2 := Hown2.out b e.symm; omega) hg.size) ?_
      clear hK K
      try simp only [Act.put, List.setIfInBounds_toArray, List.set_cons_zero, List.set_cons_succ]
      have hap := own_apart HO1.out.choose_spec.1 HB.out (by decide)
      replace HP := Lib.hid (HP.out.keep (A := (· = gp)) (hag.mono fun b hb e => by have := (hown b e.symm).1; omega) hg.size rfl)
      replace HO1 := Lib.hid (HO1.out.keep hag (fun g e e' => hap g e e'.symm) (fun g hg' e' => (HA.out g hg'.1).2 e'))
      replace HS := Lib.hid (HS.out.trans (Sep.grown hg fun g _ hp => hp.2.2))
      have hv2 : v2'.ownBlock = v2.ownBlock ∨ ∃ g, v2'.ownBlock = some g ∧ lo ≤ g := hv.imp id fun e => ⟨_, e, hlo_xb3⟩
      have HB1 := Lib.hid ho
      have Hv2 := Lib.hid hv2
      clear ho hg hv hown hag hap hv2 HB H8
      refine Lt.tail ?_
      have ho1 := HO1.out.own
      have ho2 := HB1.out.lt
      have HO2 := Lib.hid (HO1.out.keep (w' := (((xb4).setCell ⟨gp, 0, none⟩ v1').setCell ⟨gp, 1, none⟩ v2')) ((agree_at _ gp 0 v1').trans (by simp [World.setCell]) (agree_at _ gp 1 v2')) (fun g e => by have := (ho1 g e).1; omega) (fun g hg => by have := (HA.out g hg.1).1; omega))
      have HB2 := Lib.hid (HB1.out.keep (w' := (((xb4).setCell ⟨gp, 0, none⟩ v1').setCell ⟨gp, 1, none⟩ v2')) ((agree_at _ gp 0 v1').trans (by simp [World.setCell]) (agree_at _ gp 1 v2')) (fun g e => by have := (ho2 g e).1; omega))
      have HP2 := Lib.hid ((HP.out.set 0 v1' (by simp)).set 1 v2' (by simp))
      simp only [List.set_cons_zero, List.set_cons_succ] at HP2
      have HS2 := Lib.hid ((HS.out.trans (Sep.set _ ⟨gp, 0, none⟩ v1' (fun h => h.1 rfl))).trans (Sep.set _ ⟨gp, 1, none⟩ v2' (fun h => h.1 rfl)))
      obtain ⟨p1, c1, hp1⟩ := HO1.out.parts
      obtain ⟨p2, c2, hp2⟩ := HB1.out.parts
      obtain ⟨n1, hn1⟩ : ∃ n1, (L ++ [(⟨kd, oa, ob, oc, ls, sy⟩ : Ob.Op)]).length = n1 := ⟨_, rfl⟩
      obtain ⟨n2, hn2⟩ : ∃ n2, (B ++ [xb]).length = n2 := ⟨_, rfl⟩
      rw [hn1] at hp1
      rw [hn2] at hp2
      clear ho1 ho2 HO1 HB1 HS hn1 hn2
      subst hp1 hp2
      have k0 := HP.out.cells 0
      have k1 := HP.out.cells 1
      have kf0 := HP.out.frozen 0
      have kf1 := HP.out.frozen 1
      have kl := HP.out.lt
      simp only [List.getElem?_cons_zero, List.getElem?_cons_succ] at k0 k1
      clear HP
      go_wp2_with fail
      go_end0
      exact ⟨rfl, _, _, HP2.out, HO2.out, HB2.out, HS2.out, by rw [← Hlo.out]; exact Hv1.out, by rw [← Hlo.out]; exact Hv2.out⟩
    · refine Lt.go (fun _ => Lt.Rg.refl _) ?_ Lt.stop
      intro K hK; go_simp
      obtain ⟨xb2, hy9, B9, hb9⟩ := fresh_blk xb1 [.bool xb] 4
      rw [hy9]
      refine hK _ _ (Lt.Rg.of_below hb9) ?_
      clear hK K
      try simp only [Act.put, List.setIfInBounds_toArray, List.set_cons_zero, List.set_cons_succ]
      obtain ⟨g8, hg8⟩ : ∃ g, g = (xb1).heap.size := ⟨_, rfl⟩
      rw [← hg8] at B9 ⊢
      have hg8a : base ≤ g8 := by omega
      have hlo8 : lo ≤ g8 := by omega
      replace HP := Lib.hid (HP.out.call hb9)
      replace H3 := Lib.hid (H3.out.call hb9)
      have hbs_xb2 : base ≤ (xb2).heap.size := Nat.le_trans hbs_xb1 hb9.size
      have hlo_xb2 : lo ≤ (xb2).heap.size := Nat.le_trans hlo_xb1 hb9.size
      replace HO := Lib.hid (HO.out.call hb9)
      replace HB := Lib.hid (HB.out.call hb9)
      replace HU := Lib.hid (HU.out.keep (agree_below hb9))
      replace HS := Lib.hid (HS.out.trans (Sep.of hb9))
      have H8 := Lib.hid B9
      clear hy9 hg8 B9 hb9
      refine Lt.go (fun _ => Lt.Rg.refl _) ?_ Lt.stop
      intro K hK
      rw [if_pos (by rfl)]
      refine wp_app_opB _ _ rfl base HO.out hbs_xb2 HlO.out sy HSy.out H3.out HU.out rfl rfl ?_
      intro v1' xb3 ho hg hv
      have hown := HO.out.own
      have hag : Agree (fun g => some g ≠ v1.ownBlock) xb2 xb3 := agree_grown hg fun b hb => hb
      refine hK _ _ (Lt.Rg.of (hag.mono fun b hb e => by have h1 := (hown b e.symm).1; have h2 := Hown1.out b e.symm; omega) hg.size) ?_
      clear hK K
      try simp only [Act.put, List.setIfInBounds_toArray, List.set_cons_zero, List.set_cons_succ]
      have hap := own_apart HO.out.choose_spec.1 HB.out (by decide)
      have hbs_xb3 : base ≤ (xb3).heap.size := Nat.le_trans hbs_xb2 hg.size
      have hlo_xb3 : lo ≤ (xb3).heap.size := Nat.le_trans hlo_xb2 hg.size
      replace HP := Lib.hid (HP.out.keep (A := (· = gp)) (hag.mono fun b hb e => by have := (hown b e.symm).1; omega) hg.size rfl)
      replace H8 := Lib.hid (H8.out.keep (A := (· = g8)) (hag.mono fun b hb e => by have := Hown1.out b e.symm; omega) hg.size rfl)
      replace HB := Lib.hid (HB.out.keep hag fun g e e' => hap g e'.symm e)
      replace HS := Lib.hid (HS.out.trans (Sep.grown hg fun g _ hp => hp.2.1))
      have hv1 : v1'.ownBlock = v1.ownBlock ∨ ∃ g, v1'.ownBlock = some g ∧ lo ≤ g := hv.imp id fun e => ⟨_, e, hlo_xb2⟩
      have HO1 := Lib.hid ho
      have Hv1 := Lib.hid hv1
      clear ho hg hv hown hag hap hv1 HO HU H3
      (first | (refine Lt.takeR ?_ (by rfl) ?_ ?_; rotate_left; (focus (intro w' hRw; go_simp; (try with_reducible rfl))); simp only [Act.put, List.setIfInBounds_toArray, List.set_cons_zero, List.set_cons_succ]) | (refine Lt.takeN (by rfl) trivial ?_; simp only [Act.put, List.setIfInBounds_toArray, List.set_cons_zero, List.set_cons_succ]))
      refine Lt.go (fun _ => Lt.Rg.refl _) ?_ Lt.stop
      intro K hK
      rw [if_pos (by rfl)]
      refine wp_app_boolB _ _ rfl base HB.out hbs_xb3 HlB.out H8.out rfl rfl ?_
      intro v2' xb4 ho hg hv
      have hown := HB.out.lt
      have hag : Agree (fun g => some g ≠ v2.ownBlock) xb3 xb4 := agree_grown hg fun b hb => hb
      refine hK _ _ (Lt.Rg.of (hag.mono fun b hb e => by have h1 := (hown b e.symm).1; have h2 := Hown2.out b e.symm; omega) hg.size) ?_
      clear hK K
      try simp only [Act.put, List.setIfInBounds_toArray, List.set_cons_zero, List.set_cons_succ]
      have hap := own_apart HO1.out.choose_spec.1 HB.out (by decide)
      replace HP := Lib.hid (HP.out.keep (A := (· = gp)) (hag.mono fun b hb e => by have := (hown b e.symm).1; omega) hg.size rfl)
      replace HO1 := Lib.hid (HO1.out.keep hag (fun g e e' => hap g e e'.symm) (fun g hg' e' => (HA.out g hg'.1).2 e'))
      replace HS := Lib.hid (HS.out.trans (Sep.grown hg fun g _ hp => hp.2.2))
      have hv2 : v2'.ownBlock = v2.ownBlock ∨ ∃ g, v2'.ownBlock = some g ∧ lo ≤ g := hv.imp id fun e => ⟨_, e, hlo_xb3⟩
      have HB1 := Lib.hid ho
      have Hv2 := Lib.hid hv2
      clear ho hg hv hown hag hap hv2 HB H8
      refine Lt.tail ?_
      have ho1 := HO1.out.own
      have ho2 := HB1.out.lt
      have HO2 := Lib.hid (HO1.out.keep (w' := (((xb4).setCell ⟨gp, 0, none⟩ v1').setCell ⟨gp, 1, none⟩ v2')) ((agree_at _ gp 0 v1').trans (by simp [World.setCell]) (agree_at _ gp 1 v2')) (fun g e => by have := (ho1 g e).1; omega) (fun g hg => by have := (HA.out g hg.1).1; omega))
      have HB2 := Lib.hid (HB1.out.keep (w' := (((xb4).setCell ⟨gp, 0, none⟩ v1').setCell ⟨gp, 1, none⟩ v2')) ((agree_at _ gp 0 v1').trans (by simp [World.setCell]) (agree_at _ gp 1 v2')) (fun g e => by have := (ho2 g e).1; omega))
      have HP2 := Lib.hid ((HP.out.set 0 v1' (by simp)).set 1 v2' (by simp))
      simp only [List.set_cons_zero, List.set_cons_succ] at HP2
      have HS2 := Lib.hid ((HS.out.trans (Sep.set _ ⟨gp, 0, none⟩ v1' (fun h => h.1 rfl))).trans (Sep.set _ ⟨gp, 1, none⟩ v2' (fun h => h.1 rfl)))
      obtain ⟨p1, c1, hp1⟩ := HO1.out.parts
      obtain ⟨p2, c2, hp2⟩ := HB1.out.parts
      obtain ⟨n1, hn1⟩ : ∃ n1, (L ++ [(⟨kd, oa, ob, oc, ls, sy⟩ : Ob.Op)]).length = n1 := ⟨_, rfl⟩
      obtain ⟨n2, hn2⟩ : ∃ n2, (B ++ [xb]).length = n2 := ⟨_, rfl⟩
      rw [hn1] at hp1
      rw [hn2] at hp2
      clear ho1 ho2 HO1 HB1 HS hn1 hn2
      subst hp1 hp2
      have k0 := HP.out.cells 0
      have k1 := HP.out.cells 1
      have kf0 := HP.out.frozen 0
      have kf1 := HP.out.frozen 1
      have kl := HP.out.lt
      simp only [List.getElem?_cons_zero, List.getElem?_cons_succ] at k0 k1
      clear HP
      go_wp2_with fail
      go_end0
      exact ⟨rfl, _, _, HP2.out, HO2.out, HB2.out, HS2.out, by rw [← Hlo.out]; exact Hv1.out, by rw [← Hlo.out]; exact Hv2.out⟩
  · refine Lt.go (fun _ => Lt.Rg.refl _) ?_ Lt.stop
    intro K hK; go_simp
    obtain ⟨xb1, hy9, B9, hb9⟩ := fresh_blk xa [.bool xb] 4
    rw [hy9]
    refine hK _ _ (Lt.Rg.of_below hb9) ?_
    clear hK K
    try simp only [Act.put, List.setIfInBounds_toArray, List.set_cons_zero, List.set_cons_succ]
    obtain ⟨g8, hg8⟩ : ∃ g, g = (xa).heap.size := ⟨_, rfl⟩
    rw [← hg8] at B9 ⊢
    have hg8a : base ≤ g8 := by omega
    have hlo8 : lo ≤ g8 := by omega
    replace HP := Lib.hid (HP.out.call hb9)
    have hbs_xb1 : base ≤ (xb1).heap.size := Nat.le_trans hbs_xa hb9.size
    have hlo_xb1 : lo ≤ (xb1).heap.size := Nat.le_trans hlo_xa hb9.size
    replace HO := Lib.hid (HO.out.call hb9)
    replace HB := Lib.hid (HB.out.call hb9)
    replace HU := Lib.hid (HU.out.keep (agree_below hb9))
    replace HS := Lib.hid (HS.out.trans (Sep.of hb9))
    have H8 := Lib.hid B9
    clear hy9 hg8 B9 hb9
    refine Lt.go (fun _ => Lt.Rg.refl _) ?_ Lt.stop
    intro K hK; go_simp
    obtain ⟨xb2, hy9, B9, hb9⟩ := fresh_blk xb1 [.int .i64 kd, .int .i64 oa, .int .i64 ob, .int .i64 oc, .slice pu n cu, .string S] 41
    rw [hy9]
    refine hK _ _ (Lt.Rg.of_below hb9) ?_
    clear hK K
    try simp only [Act.put, List.setIfInBounds_toArray, List.set_cons_zero, List.set_cons_succ]
    obtain ⟨g3, hg3⟩ : ∃ g, g = (xb1).heap.size := ⟨_, rfl⟩
    rw [← hg3] at B9 ⊢
    have hg3a : base ≤ g3 := by omega
    have hg3b : ∀ g, g < (xb1).heap.size → g < g3 := fun g h => by omega
    have hlo3 : lo ≤ g3 := by omega
    replace HP := Lib.hid (HP.out.call hb9)
    replace H8 := Lib.hid (H8.out.call hb9)
    have hbs_xb2 : base ≤ (xb2).heap.size := Nat.le_trans hbs_xb1 hb9.size
    have hlo_xb2 : lo ≤ (xb2).heap.size := Nat.le_trans hlo_xb1 hb9.size
    replace HO := Lib.hid (HO.out.call hb9)
    replace HB := Lib.hid (HB.out.call hb9)
    replace HU := Lib.hid (HU.out.keep (agree_below hb9))
    replace HS := Lib.hid (HS.out.trans (Sep.of hb9))
    have H3 := Lib.hid B9
    clear hy9 hg3 B9 hb9
    refine Lt.go (fun _ => Lt.Rg.refl _) ?_ Lt.stop
    intro K hK
    rw [if_pos (by rfl)]
    refine wp_app_opB _ _ rfl base HO.out hbs_xb2 HlO.out sy HSy.out H3.out HU.out rfl rfl ?_
    intro v1' xb3 ho hg hv
    have hown := HO.out.own
    have hag : Agree (fun g => some g ≠ v1.ownBlock) xb2 xb3 := agree_grown hg fun b hb => hb
    refine hK _ _ (Lt.Rg.of (hag.mono fun b hb e => by have h1 := (hown b e.symm).1; have h2 := Hown1.out b e.symm; omega) hg.size) ?_
    clear hK K
    try simp only [Act.put, List.setIfInBounds_toArray, List.set_cons_zero, List.set_cons_succ]
    have hap := own_apart HO.out.choose_spec.1 HB.out (by decide)
    have hbs_xb3 : base ≤ (xb3).heap.size := Nat.le_trans hbs_xb2 hg.size
    have hlo_xb3 : lo ≤ (xb3).heap.size := Nat.le_trans hlo_xb2 hg.size
    replace HP := Lib.hid (HP.out.keep (A := (· = gp)) (hag.mono fun b hb e => by have := (hown b e.symm).1; omega) hg.size rfl)
    replace H8 := Lib.hid (H8.out.keep (A := (· = g8)) (hag.mono fun b hb e => by have := Hown1.out b e.symm; omega) hg.size rfl)
    replace HB := Lib.hid (HB.out.keep hag fun g e e' => hap g e'.symm e)
    replace HS := Lib.hid (HS.out.trans (Sep.grown hg fun g _ hp => hp.2.1))
    have hv1 : v1'.ownBlock = v1.ownBlock ∨ ∃ g, v1'.ownBlock = some g ∧ lo ≤ g := hv.imp id fun e => ⟨_, e, hlo_xb2⟩
    have HO1 := Lib.hid ho
    have Hv1 := Lib.hid hv1
    clear ho hg hv hown hag hap hv1 HO HU H3
    (first | (refine Lt.takeR ?_ (by rfl) ?_ ?_; rotate_left; (focus (intro w' hRw; go_simp; (try with_reducible rfl))); simp only [Act.put, List.setIfInBounds_toArray, List.set_cons_zero, List.set_cons_succ]) | (refine Lt.takeN (by rfl) trivial ?_; simp only [Act.put, List.setIfInBounds_toArray, List.set_cons_zero, List.set_cons_succ]))
    refine Lt.go (fun _ => Lt.Rg.refl _) ?_ Lt.stop
    intro K hK
    rw [if_pos (by rfl)]
    refine wp_app_boolB _ _ rfl base HB.out hbs_xb3 HlB.out H8.out rfl rfl ?_
    intro v2' xb4 ho hg hv
    have hown := HB.out.lt
    have hag : Agree (fun g => some g ≠ v2.ownBlock) xb3 xb4 := agree_grown hg fun b hb => hb
    refine hK _ _ (Lt.Rg.of (hag.mono fun b hb e => by have h1 := (hown b e.symm).1; have h2 := Hown2.out b e.symm; omega) hg.size) ?_
    clear hK K
    try simp only [Act.put, List.setIfInBounds_toArray, List.set_cons_zero, List.set_cons_succ]
    have hap := own_apart HO1.out.choose_spec.1 HB.out (by decide)
    replace HP := Lib.hid (HP.out.keep (A := (· = gp)) (hag.mono fun b hb e => by have := (hown b e.symm).1; omega) hg.size rfl)
    replace HO1 := Lib.hid (HO1.out.keep hag (fun g e e' => hap g e e'.symm) (fun g hg' e' => (HA.out g hg'.1).2 e'))
    replace HS := Lib.hid (HS.out.trans (Sep.grown hg fun g _ hp => hp.2.2))
    have hv2 : v2'.ownBlock = v2.ownBlock ∨ ∃ g, v2'.ownBlock = some g ∧ lo ≤ g := hv.imp id fun e => ⟨_, e, hlo_xb3⟩
    have HB1 := Lib.hid ho
    have Hv2 := Lib.hid hv2
    clear ho hg hv hown hag hap hv2 HB H8
    refine Lt.tail ?_
    have ho1 := HO1.out.own
    have ho2 := HB1.out.lt
    have HO2 := Lib.hid (HO1.out.keep (w' := (((xb4).setCell ⟨gp, 0, none⟩ v1').setCell ⟨gp, 1, none⟩ v2')) ((agree_at _ gp 0 v1').trans (by simp [World.setCell]) (agree_at _ gp 1 v2')) (fun g e => by have := (ho1 g e).1; omega) (fun g hg => by have := (HA.out g hg.1).1; omega))
    have HB2 := Lib.hid (HB1.out.keep (w' := (((xb4).setCell ⟨gp, 0, none⟩ v1').setCell ⟨gp, 1, none⟩ v2')) ((agree_at _ gp 0 v1').trans (by simp [World.setCell]) (agree_at _ gp 1 v2')) (fun g e => by have := (ho2 g e).1; omega))
    have HP2 := Lib.hid ((HP.out.set 0 v1' (by simp)).set 1 v2' (by simp))
    simp only [List.set_cons_zero, List.set_cons_succ] at HP2
    have HS2 := Lib.hid ((HS.out.trans (Sep.set _ ⟨gp, 0, none⟩ v1' (fun h => h.1 rfl))).trans (Sep.set _ ⟨gp, 1, none⟩ v2' (fun h => h.1 rfl)))
    obtain ⟨p1, c1, hp1⟩ := HO1.out.parts
    obtain ⟨p2, c2, hp2⟩ := HB1.out.parts
    obtain ⟨n1, hn1⟩ : ∃ n1, (L ++ [(⟨kd, oa, ob, oc, ls, sy⟩ : Ob.Op)]).length = n1 := ⟨_, rfl⟩
    obtain ⟨n2, hn2⟩ : ∃ n2, (B ++ [xb]).length = n2 := ⟨_, rfl⟩
    rw [hn1] at hp1
    rw [hn2] at hp2
    clear ho1 ho2 HO1 HB1 HS hn1 hn2
    subst hp1 hp2
    have k0 := HP.out.cells 0
    have k1 := HP.out.cells 1
    have kf0 := HP.out.frozen 0
    have kf1 := HP.out.frozen 1
    have kl := HP.out.lt
    simp only [List.getElem?_cons_zero, List.getElem?_cons_succ] at k0 k1
    clear HP
    go_wp2_with fail
    go_end0
    exact ⟨rfl, _, _, HP2.out, HO2.out, HB2.out, HS2.out, by rw [← Hlo.out]; exact Hv1.out, by rw [← Hlo.out]; exact Hv2.out⟩
end Go.Proofs.Ythjfahimfcadnaa
/- Pieces as the program makes and joins them, plainly. -/
namespace Go.Il
open Go.Ob
/-- what stands for an operation of the callee, before the pieces are joined -/
def rbody (a regs : Int) (o : Ob.Op) : List Ob.Op := if retK o.kind then [⟨2, a, o.b + regs, 0, [], []⟩, ⟨12, 0, 0, -1, [], []⟩] else [raise o regs]
def rflag (o : Ob.Op) : List Bool := if retK o.kind then [false, false] else [goesK o.kind]
/-- a piece as the program makes it -/
structure Raw where
  ops : List Ob.Op
  inner : List Bool
  starts : List Int
def startsOf (p : Nat) (f : List Ob.Op) (k : Nat) : List Int := (List.range k).map fun j => ((p + j + rets f j : Nat) : Int)
def rput (call : Ob.Op) (regs : Int) (f : List Ob.Op) : Raw := ⟨copies regs 0 call.list ++ f.flatMap (rbody call.a regs), call.list.map (fun _ => false) ++ f.flatMap rflag, startsOf call.list.length f f.length⟩
def rone (o : Ob.Op) : Raw := ⟨[o], [false], []⟩
def Piece.raw : Piece → Raw
  | .one o => rone o
  | .put call regs f => rput call regs f
theorem rbody_len (a regs : Int) (o : Ob.Op) : (rbody a regs o).length = 1 + (if retK o.kind then 1 else 0) := by
  unfold rbody; split <;> rfl
theorem rflag_len (o : Ob.Op) : (rflag o).length = 1 + (if retK o.kind then 1 else 0) := by
  unfold rflag; split <;> rfl
theorem flat_len {α : Type} (h : Ob.Op → List α) (hh : ∀ o, (h o).length = 1 + (if retK o.kind then 1 else 0)) (l : List Ob.Op) : (l.flatMap h).length = l.length + rets l l.length := by
  unfold rets
  rw [List.take_length]
  induction l with
  | nil => rfl
  | cons o l ih =>
    rw [List.flatMap_cons, List.length_append, ih, hh, List.countP_cons, List.length_cons]
    omega
theorem rets_take (f : List Ob.Op) (k : Nat) (_h : k ≤ f.length) : rets (f.take k) (f.take k).length = rets f k := by
  unfold rets; rw [List.take_length]
theorem flat_snoc {α : Type} (h : Ob.Op → List α) {f : List Ob.Op} {k : Nat} {o : Ob.Op} (ho : f[k]? = some o) : (f.take (k + 1)).flatMap h = (f.take k).flatMap h ++ h o := by
  obtain ⟨h1, h2⟩ := List.getElem?_eq_some_iff.1 ho
  rw [List.take_succ_eq_append_getElem h1, h2, List.flatMap_append]; simp
theorem copies_snoc (regs : Int) (q : Nat) (l : List Int) (z : Int) : copies regs q (l ++ [z]) = copies regs q l ++ [⟨2, regs + ((q + l.length : Nat) : Int), z, 0, [], []⟩] := by
  induction l generalizing q with
  | nil => simp [copies]
  | cons a l ih =>
    rw [List.cons_append, copies, copies, ih, List.cons_append, List.length_cons, show q + 1 + l.length = q + (l.length + 1) by omega]
theorem startsOf_succ (p : Nat) (f : List Ob.Op) (k : Nat) : startsOf p f (k + 1) = startsOf p f k ++ [((p + k + rets f k : Nat) : Int)] := by
  unfold startsOf; rw [List.range_succ, List.map_append]; rfl
/-- how the program joins: begins[i] for the pieces, then the operations with their positions -/
def rbegins (ps : List Raw) (j : Nat) : Nat := ((ps.take j).map fun p => p.ops.length).sum
def relocate (B : Nat → Nat) (i : Nat) (p : Raw) (k : Nat) (o : Ob.Op) : Ob.Op :=
  if goesK o.kind then
    if p.inner[k]? = some true then { o with c := (B i : Int) + (p.starts[o.c.toNat]?).getD 0 }
    else if p.starts ≠ [] then { o with c := B (i + 1) } else { o with c := B o.c.toNat }
  else o
def relocAll (B : Nat → Nat) (i : Nat) (p : Raw) : List Ob.Op := p.ops.mapIdx fun k o => relocate B i p k o
def rjoinFrom (B : Nat → Nat) : Nat → List Raw → List Ob.Op
  | _, [] => []
  | i, p :: ps => relocAll B i p ++ rjoinFrom B (i + 1) ps
end Go.Il
/- What stands for a call, by the program (inline.put). -/
namespace Go.Proofs.Ythjfahimfcadnaa
open Go.ChangeShapes Go.WideShapes Go.RowKit

/-- where the lists of a piece's operations may lie -/
def AA (base : Nat) (v2 v3 : Value) (g : Nat) : Prop := base ≤ g ∧ some g ≠ v2.ownBlock ∧ some g ≠ v3.ownBlock
theorem eg_put : ∀ args w, (callFunc 101 args).run Try.prog w = .ok (.enter 101 args) w := enters_of Try.func101 (by kernel_rfl) rfl
def BoolsAt (A : Nat → Prop) (w : World) (v : Value) (l : List Bool) : Prop := ∃ p cap, v = .slice p l.length cap ∧ Holds A w p (l.map .bool) ∧ l.length ≤ cap
/-- a piece in making: its three rows, of the call's own; what has changed since w -/
structure Mk (w : World) (gp base : Nat) (wx : World) (v1 v2 v3 : Value) (r : Il.Raw) : Prop where
  p : Blk wx gp [v1, v2, v3]
  ops : OpsIn (AA base v2 v3) wx base v1 r.ops
  inner : BoolsOwn wx base v2 r.inner
  starts : IntsOwn wx base v3 r.starts
  below : Below gp w wx
  keep : Sep (fun g => g ≠ gp ∧ g < base) w wx
  size : base ≤ wx.heap.size
/-- one operation more -/
theorem Mk.add {w : World} {gp base : Nat} {wx : World} {v1 v2 v3 : Value} {r : Il.Raw} (h : Mk w gp base wx v1 v2 v3 r) (hgb : gp < base) (hbw : base ≤ w.heap.size) (o : Ob.Op) (u : Value) (xb : Bool) (hu : NRow (fun g => AA base v2 v3 g ∧ some g ≠ v1.ownBlock) wx u o.list) (hl1 : r.ops.length ≤ 1000000000) (hl2 : r.inner.length ≤ 1000000000) :
    Calls Try.prog 101 #[opVal o u, .bool xb, .pointer (some ⟨gp, 0, none⟩)] wx fun e w' => e = .returned (.tuple #[]) ∧ ∃ v1' v2', Mk w gp base w' v1' v2' v3 ⟨r.ops ++ [o], r.inner ++ [xb], r.starts⟩ ∧ wx.heap.size ≤ w'.heap.size := by
  refine (add_any gp base v1 v2 v3 r.ops r.inner o u xb wx h.p hgb h.size h.ops h.inner (fun g hg => ⟨hg.1, hg.2.1⟩) hu hl1 hl2).mono ?_
  rintro e w' ⟨rfl, v1', v2', P9, O9, B9, S9, hv1, hv2⟩
  refine ⟨rfl, v1', v2', ⟨P9, ?_, B9, ?_, ?_, ?_, Nat.le_trans h.size S9.size⟩, S9.size⟩
  · exact O9.mono fun g hg => ⟨hg.1.1, fun e => by
      rcases hv2 with h | ⟨g', h, hg'⟩
      · rw [h] at e; exact hg.1.2.1 e
      · rw [h] at e; injection e with e; have := hg.2; omega, hg.1.2.2⟩
  · have h1 := h.starts.lt
    obtain ⟨cs, ho1, _⟩ := h.ops
    have a1 := own_apart h.starts ho1 (by decide)
    have a2 := own_apart h.starts h.inner (by decide)
    exact h.starts.keep S9.agree fun g e => ⟨fun e2 => by have := (h1 g e).1; omega, fun e2 => a1 g e e2.symm, fun e2 => a2 g e e2.symm⟩
  · have h1 := h.ops.own
    have h2 := h.inner.lt
    refine h.below.trans (S9.below (by have := h.p.lt; omega) fun g hg => ⟨by omega, fun e => by have := (h1 g e.symm).1; omega, fun e => by have := (h2 g e.symm).1; omega⟩)
  · have h1 := h.ops.own
    have h2 := h.inner.lt
    exact h.keep.then S9 fun g _ hg => ⟨hg.1, fun e => by have := (h1 g e.symm).1; omega, fun e => by have := (h2 g e.symm).1; omega⟩
/-- through what only makes memory -/
theorem Mk.call {w : World} {gp base : Nat} {wx w' : World} {v1 v2 v3 : Value} {r : Il.Raw} (h : Mk w gp base wx v1 v2 v3 r) (hgb : gp < base) (hb : Below wx.heap.size wx w') : Mk w gp base w' v1 v2 v3 r :=
  ⟨h.p.call hb, h.ops.call hb, h.inner.call hb, h.starts.call hb, h.below.trans (hb.mono (by have := h.p.lt; omega)), h.keep.trans (Sep.of hb), Nat.le_trans h.size hb.size⟩
/-- through a change of what was made since -/
theorem Mk.sep {w : World} {gp base : Nat} {wx w1 w' : World} {v1 v2 v3 : Value} {r : Il.Raw} (h : Mk w gp base wx v1 v2 v3 r) (hgb : gp < base) (hb : Below wx.heap.size wx w1) (hs : Sep (· < wx.heap.size) w1 w') : Mk w gp base w' v1 v2 v3 r := by
  have hb2 : Below wx.heap.size wx w' := hb.trans (hs.below hb.size fun g hg => hg)
  exact h.call hgb hb2
/-- the starts grow -/
theorem Mk.start {w : World} {gp base : Nat} {wx : World} {v1 v2 v3 v3' : Value} {r : Il.Raw} {w' : World} {z : Int} (h : Mk w gp base wx v1 v2 v3 r) (hgb : gp < base) (ho : IntsOwn w' base v3' (r.starts ++ [z])) (hg : wx.grownBy w' v3.ownBlock) (hv : v3'.ownBlock = v3.ownBlock ∨ v3'.ownBlock = some (wx.heap.size + 1)) :
    Mk w gp base (w'.setCell ⟨gp, 2, none⟩ v3') v1 v2 v3' ⟨r.ops, r.inner, r.starts ++ [z]⟩ ∧ Blk w' gp [v1, v2, v3] := by
  have h1 := h.starts.lt
  have hag : Agree (fun g => some g ≠ v3.ownBlock) wx w' := agree_grown hg fun b hb => hb
  obtain ⟨cs, ho1, _⟩ := h.ops
  have a1 := own_apart ho1 h.starts (by decide)
  have a2 := own_apart h.inner h.starts (by decide)
  have hP : Blk w' gp [v1, v2, v3] := h.p.keep (A := (· = gp)) (hag.mono fun b hb e => by have := (h1 b e.symm).1; omega) hg.size rfl
  have hset := agree_at w' gp 2 v3'
  have hO := (h.ops.lt.keep hag (fun g e e2 => a1 g e e2.symm) (fun g hg' => hg'.1.2.2)).mono (B := AA base v2 v3') fun g hg' => ⟨hg'.1.1, hg'.1.2.1, fun e => by
    rcases hv with e2 | e2
    · rw [e2] at e; exact hg'.1.2.2 e
    · rw [e2] at e; injection e with e; have := hg'.2; omega⟩
  have hB := h.inner.keep hag fun g e e2 => a2 g e e2.symm
  have o1 := hO.own
  have o2 := hB.lt
  have o3 := ho.lt
  refine ⟨⟨?_, hO.keep hset (fun g e => by have := (o1 g e).1; omega) (fun g hg' => by have := hg'.1; omega), hB.keep hset (fun g e => by have := (o2 g e).1; omega), ho.keep hset (fun g e => by have := (o3 g e).1; omega), ?_, ?_, ?_⟩, hP⟩
  · have := hP.set 2 v3' (by simp)
    simpa only [List.set_cons_zero, List.set_cons_succ] using this
  · exact (h.below.grown hg (by have := h.p.lt; omega) fun k e => by have := (h1 k e).1; omega).setCell (p := ⟨gp, 2, none⟩) (Nat.le_refl _) v3'
  · exact (h.keep.then (Sep.grown (P := fun g => g < base) hg fun g _ hg' e => by have := (h1 g e.symm).1; omega) fun g _ hg' => hg'.2).trans (Sep.set _ _ _ fun hg' => hg'.1 rfl)
  · have := Nat.le_trans h.size hg.size
    simpa [World.setCell] using this
end Go.Proofs.Ythjfahimfcadnaa
