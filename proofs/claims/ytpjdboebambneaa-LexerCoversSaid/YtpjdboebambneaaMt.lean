/- Items that are made. -/
import Derived.Test.YtpjdboebambneaaMo
namespace Go.Proofs.Ytpjdboebambneaa
open Go.ChangeShapes Go.WideShapes Go.RowKit

theorem OkBool.mono {d b c : Nat} (h : OkBool d b) (hbc : b ≤ c) : OkBool d c := fun E x v n w h1 h2 h3 h4 h5 => (h E x v n w h1 h2 h3 h4 h5).mono fun e w' ⟨S, he, hS, hp⟩ => ⟨S, he, by omega, hp⟩
theorem OkShown.mono {d b c : Nat} (h : OkShown d b) (hbc : b ≤ c) : OkShown d c := fun E x v n w h1 h2 h3 h4 h5 => (h E x v n w h1 h2 h3 h4 h5).mono fun e w' ⟨S, he, hS, hp⟩ => ⟨S, he, by omega, hp⟩
theorem OkBlock.down {d b : Nat} (h : OkBlock (d + 1) b) : OkBlock d b := fun E x v n w h1 h2 h3 h4 h5 => h E x v n w h1 (by omega) h3 h4 h5
theorem oks : OkInt 2 550 ∧ OkBlock 3 1800 := by
  have k1 := block_ok 0 20 int_base (by omega) (by omega) (by omega)
  have h1 : OkInt 1 210 := int_step 0 20 210 70 30 210 int_base (bool_ok 0 20 int_base (by omega) (by omega) (by omega) 0 (by omega)) (shown_ok 0 20 int_base (by omega) (by omega) 0 (by omega)) k1.down (by omega) (by omega) (by omega) (by omega) (by omega) (by omega) (by omega) (by omega)
  have h2 : OkInt 2 550 := int_step 1 210 550 100 40 210 h1 (bool_ok 0 20 int_base (by omega) (by omega) (by omega) 1 (by omega)) (shown_ok 0 20 int_base (by omega) (by omega) 1 (by omega)) k1 (by omega) (by omega) (by omega) (by omega) (by omega) (by omega) (by omega) (by omega)
  exact ⟨h2, block_ok 2 550 h2 (by omega) (by omega) (by omega)⟩

/-- one name more in a row -/
theorem Own.snoc {B : Nat} {w' : World} {vd : Value} {n : Nat} {xs : List Value} {S : ByteArray} (ho : w'.ownsRow B 9 1 vd (n + 1) (xs ++ [.string S])) (ha : xs.all (strB 20) = true) (hS : S.size ≤ 20) : Own B w' vd (n + 1) :=
  ⟨_, ho, by rw [List.all_append, ha]; simp [strB]; omega⟩

set_option maxRecDepth 100000 in
set_option maxHeartbeats 12800000 in
theorem item_ok (E : Env) (B : Nat) (m : ByteArray) (k : Nat) (w : World) (hO : PO E B w) (hm : m.size ≤ 1) (hk : k < 1000) (hfew : E.nf + E.nc + E.nm < 900) :
    Calls Try.prog 82 #[.pointer (some ⟨E.gp, 0, none⟩), .string m, .int .i64 k] w fun e w' => ∃ (E' : Env) (S : ByteArray), e = .returned (.string S) ∧ S.size ≤ 1850 ∧ E'.gd = E.gd ∧ E'.gp = E.gp ∧ E'.tv = E.tv ∧ E'.ts = E.ts ∧ E'.nf + E'.nc + E'.nm ≤ E.nf + E.nc + E.nm + 1 ∧ PO E' B w' ∧ PW B E.gd E.gp w w' := by
  have OKS := Lib.hid oks
  have HO := Lib.hid hO
  have hE := hO.pe
  have hA := PR.refl E w
  obtain ⟨d0, d1, d2, d3, d4, d5, d7⟩ := hE.cells
  clear hO
  go_enter Try.func82, Try.ntmps82
  go_upto_region 3 with (go_at_call 85; refine (mdigits E k _ hk).mono ?_; rintro e w' ⟨Sk, rfl, hSk, hp⟩; have hE := PE.keep hE hp; have hA := PR.trans hA hp; clear hp)
  have hname : (m ++ Sk).size ≤ 4 := by rw [ByteArray.size_append]; omega
  obtain ⟨nm, hnm⟩ : ∃ nm, m ++ Sk = nm := ⟨_, rfl⟩
  rw [hnm] at hname ⊢
  clear hnm hSk
  go_wp2_with fail
  refine (mnext_any E 6 _ hE (by omega) (by omega)).mono ?_
  rintro e w' ⟨r, rfl, hk0, hk1, hp⟩
  have hE2 := PE.keep hE hp
  have hA2 := PR.trans hA hp
  clear hp hE hA d0 d1 d2 d3 d4 d5 d7
  have hE := hE2
  have hA := hA2
  clear hE2 hA2
  obtain ⟨d0, d1, d2, d3, d4, d5, d7⟩ := hE.cells
  obtain ⟨j, rfl⟩ := Int.eq_ofNat_of_zero_le hk0
  have hj5 : j = 0 ∨ j = 1 ∨ j = 2 ∨ j = 3 ∨ j = 4 ∨ j = 5 := by omega
  clear hk0 hk1
  rcases hj5 with rfl | rfl | rfl | rfl | rfl | rfl
  · go_upto_region 6 with (first | (go_at_call 61; refine (mnext_any E _ _ (by first | assumption | exact PE.alloc (by assumption) _) (by omega) (by omega)).mono ?_; rintro e w' ⟨r, rfl, hk0, hk1, hp⟩; have hE := PE.keep (by first | assumption | exact PE.alloc (by assumption) _) hp; have hA := PR.trans (E := E) (a := w) (by first | assumption | exact PR.alloc (by assumption) _) hp; clear hp) | (go_at_call 89; refine (OKS.out.1 E _ _ 0 _ (by omega) (by omega) (by first | assumption | exact PE.alloc (by assumption) _) (SR.nil _ _ _) (by omega)).mono ?_; rintro e w' ⟨Si, rfl, hSi, hp⟩; have hE := PE.keep (by first | assumption | exact PE.alloc (by assumption) _) hp; have hA := PR.trans (E := E) (a := w) (by first | assumption | exact PR.alloc (by assumption) _) hp; clear hp))

    have hO6 := HO.out.pr hA
    have hPW6 := hA.toPX.pw HO.out.b

    clear d0 d1 d2 d3 d4 d5 d7
    obtain ⟨d0, d1, d2, d3, d4, d5, d7⟩ := hE.cells
    have hSn : (ByteArray.mk #[99] ++ nm).size ≤ 20 := by rw [ByteArray.size_append]; simp only [size_lit, List.size_toArray, List.length_cons, List.length_nil]; omega
    have hcat : (9223372036854775807 < 1 + nm.size) = False := eq_false (by omega)
    obtain ⟨xs, ho, hxa⟩ := hO6.c
    obtain ⟨wb, hwb, HB7, hbb⟩ := fresh_blk w' [Value.string (ByteArray.mk #[99] ++ nm)] 9
    have hsrc : Src Try.prog 1 32 (.slice (some ⟨w'.heap.size, 0, none⟩) 1 1) 1 [Value.string (ByteArray.mk #[99] ++ nm)] wb :=
      Src.ofSlice wb (e' := 9) Try.underlying32 _ 1 1 _ rfl (fun j u hj => by rw [Addr.add_lit, Nat.zero_add]; exact (HB7.cells j).trans hj) (fun u hu => by rw [List.mem_singleton.1 hu]; rfl)
    have hown := ownsRow_below ho hbb
    have hOb := hO6.below hbb
    have hbig := hOb.b
    have HAb := Lib.hid (hPW6.trans ((PX.of_below (E := E) hbb).pw (B := B) hO6.b))
    have HOb := Lib.hid hOb
    have Hsrc := Lib.hid hsrc
    try dsimp only at hown
    have Hown := Lib.hid hown
    have Hxa := Lib.hid hxa
    have hxl := ho.1
    obtain ⟨pz, cz, hz⟩ := (hO6.c.sr (E := E) hO6.d hO6.p).parts
    try dsimp only at hz
    try dsimp only at hxl
    try dsimp only at d1
    try dsimp only at d2
    try dsimp only at d3
    clear hsrc hown HB7 hbb ho hxa hO6 hE hPW6 d4 d5 d7
    go_wp2_with (at_builtin; (try rw [hwb]); refine app_at _ _ 32 32 9 (.string ⟨#[]⟩) 1 16 rfl rfl Try.underlying32 (by kernel_rfl) rfl (by decide) B Hown.out hbig (by first | rfl | exact hz.symm) rfl Hsrc.out (by unfold maxLen; omega) (by omega) ?_)
    intro vd wd Ho Hg hat
    rw [← hz] at Hg hat
    have hOd := HOb.out.app_c (Own.snoc Ho Hxa.out hSn) Hg hat hfew
    have hPW : PW B E.gd E.gp w (wd.setCell ⟨E.gp, 2, none⟩ vd) := (HAb.out.grown hbig HOb.out.c Hg).set _ _ (.inr (.inl rfl))
    have HOd := Lib.hid hOd
    have HPW := Lib.hid hPW
    obtain ⟨pd, cd, rfl, _⟩ := ownsRow_holds2 Ho
    obtain ⟨aa, kk, hss, _⟩ := HOb.out.st
    have hbp := hss.2.2.keep (agree_grown (A := fun b => some b ≠ E.cv.ownBlock) Hg (fun b hb => hb)) Hg.size (fun e => by have := (HOb.out.c.lt _ e.symm).1; have := HOb.out.p; omega)
    have c2 := hbp.cells 2
    have f2 := hbp.frozen 2
    have zz := hbp.lt
    simp only [List.getElem?_cons_zero, List.getElem?_cons_succ] at c2
    clear hOd hPW Ho Hg hat hss hbp d0 d1 d2 d3
    go_wp2_with fail
    go_ret
    refine ⟨_, _, rfl, by (first | omega | (simp only [ByteArray.size_append, size_lit, List.size_toArray, List.length_cons, List.length_nil]; omega)), ?_, ?_, ?_, ?_, ?_, HOd.out, HPW.out⟩
    · rfl
    · rfl
    · rfl
    · rfl
    · dsimp only; omega
  · have hO6 := HO.out.pr hA
    have hPW6 := hA.toPX.pw HO.out.b
    obtain ⟨aa, kk, hss, _⟩ := hO6.st
    have f7 := hss.2.2.frozen 7
    have zz := hss.2.2.lt
    clear hss
    go_upto_region 10 with fail
    have hO7 := hO6.flag true
    have hPW7 := hPW6.set ⟨E.gp, 7, none⟩ (.bool true) (.inr (.inl rfl))
    clear hO6 hPW6 hE hA d0 d1 d2 d3 d4 d5 d7 f7 zz
    generalize w'.setCell ⟨E.gp, 7, none⟩ (.bool true) = w7 at *
    go_wp2_with fail
    refine (OKS.out.1 ({ E with mac := true } : Env) _ _ 1 _ (by omega) (by omega) (PE.alloc hO7.pe _) (SR.new (c := 20) (A := ({ E with mac := true } : Env).A) _ _ _ (n := 1) (by rfl) (PE.apart hO7.pe) (by rfl)) (by omega)).mono ?_
    rintro e w8 ⟨Sb, rfl, hSb, hp⟩
    have hb7 : Below w7.heap.size w7 (w7.alloc (.cells #[Value.string ⟨#[101]⟩] 9)) := ext_alloc (ext_refl w7) _
    have hO8 := (hO7.below hb7).pr hp
    have hPW8 := hPW7.trans (((PX.of_below (E := ({ E with mac := true } : Env)) hb7).trans hp.toPX).pw (B := B) hO7.b)
    clear hO7 hPW7 hb7 hp
    obtain ⟨aa, kk, hss, _⟩ := hO8.st
    have f7 := hss.2.2.frozen 7
    have c7 := hss.2.2.cells 7
    have zz := hss.2.2.lt
    simp only [List.getElem?_cons_zero, List.getElem?_cons_succ] at c7
    clear hss
    go_upto_region 12 with fail
    have hO9 : PO ({ E with mac := false } : Env) B (w8.setCell ⟨E.gp, 7, none⟩ (.bool false)) := hO8.flag false
    have hPW9 := hPW8.set ⟨E.gp, 7, none⟩ (.bool false) (.inr (.inl rfl))
    clear hO8 hPW8 f7 zz c7
    generalize w8.setCell ⟨E.gp, 7, none⟩ (.bool false) = w9 at *
    go_wp2_with fail
    refine (mof_any ({ E with mac := false } : Env) 550 _ 4 _ (PE.alloc hO9.pe _) (SR.new (c := 550) (A := ({ E with mac := false } : Env).A) _ _ _ (n := 4) (by rfl) (PE.apart hO9.pe) (by simp [strB, size_lit]; omega)) (by omega) (by omega)).mono ?_
    rintro e w' ⟨Si, rfl, hSi, hp⟩
    have hb9 : Below w9.heap.size w9 (w9.alloc (.cells #[Value.string ⟨#[101, 32, 43, 32, 101]⟩, Value.string ⟨#[123, 32, 108, 101, 116, 32, 116, 32, 61, 32, 101, 59, 32, 116, 32, 42, 32, 116, 32, 125]⟩, Value.string ⟨#[105, 102, 32, 101, 32, 60, 32, 53, 32, 123, 32, 49, 32, 125, 32, 101, 108, 115, 101, 32, 123, 32, 101, 32, 125]⟩, Value.string Sb] 9)) := ext_alloc (ext_refl w9) _
    have hO6 := (hO9.below hb9).pr hp
    have hPW6 := hPW9.trans (((PX.of_below (E := ({ E with mac := false } : Env)) hb9).trans hp.toPX).pw (B := B) hO9.b)
    have hE := hO6.pe
    obtain ⟨d0, d1, d2, d3, d4, d5, d7⟩ := hE.cells
    clear hO9 hPW9 hb9 hp
    try dsimp only at d0 d1 d2 d3
    go_upto_region 13 with fail

    clear d0 d1 d2 d3 d4 d5 d7
    obtain ⟨d0, d1, d2, d3, d4, d5, d7⟩ := hE.cells
    have hSn : (ByteArray.mk #[109] ++ nm).size ≤ 20 := by rw [ByteArray.size_append]; simp only [size_lit, List.size_toArray, List.length_cons, List.length_nil]; omega
    have hcat : (9223372036854775807 < 1 + nm.size) = False := eq_false (by omega)
    obtain ⟨xs, ho, hxa⟩ := hO6.m
    obtain ⟨wb, hwb, HB7, hbb⟩ := fresh_blk w' [Value.string (ByteArray.mk #[109] ++ nm)] 9
    have hsrc : Src Try.prog 1 32 (.slice (some ⟨w'.heap.size, 0, none⟩) 1 1) 1 [Value.string (ByteArray.mk #[109] ++ nm)] wb :=
      Src.ofSlice wb (e' := 9) Try.underlying32 _ 1 1 _ rfl (fun j u hj => by rw [Addr.add_lit, Nat.zero_add]; exact (HB7.cells j).trans hj) (fun u hu => by rw [List.mem_singleton.1 hu]; rfl)
    have hown := ownsRow_below ho hbb
    have hOb := hO6.below hbb
    have hbig := hOb.b
    have HAb := Lib.hid (hPW6.trans ((PX.of_below (E := E) hbb).pw (B := B) hO6.b))
    have HOb := Lib.hid hOb
    have Hsrc := Lib.hid hsrc
    try dsimp only at hown
    have Hown := Lib.hid hown
    have Hxa := Lib.hid hxa
    have hxl := ho.1
    obtain ⟨pz, cz, hz⟩ := (hO6.m.sr (E := E) hO6.d hO6.p).parts
    try dsimp only at hz
    try dsimp only at hxl
    try dsimp only at d1
    try dsimp only at d2
    try dsimp only at d3
    clear hsrc hown HB7 hbb ho hxa hO6 hE hPW6 d4 d5 d7
    go_wp2_with (at_builtin; (try rw [hwb]); refine app_at _ _ 32 32 9 (.string ⟨#[]⟩) 1 16 rfl rfl Try.underlying32 (by kernel_rfl) rfl (by decide) B Hown.out hbig (by first | rfl | exact hz.symm) rfl Hsrc.out (by unfold maxLen; omega) (by omega) ?_)
    intro vd wd Ho Hg hat
    rw [← hz] at Hg hat
    have hOd := HOb.out.app_m (Own.snoc Ho Hxa.out hSn) Hg hat hfew
    have hPW : PW B E.gd E.gp w (wd.setCell ⟨E.gp, 3, none⟩ vd) := (HAb.out.grown hbig HOb.out.m Hg).set _ _ (.inr (.inl rfl))
    have HOd := Lib.hid hOd
    have HPW := Lib.hid hPW
    obtain ⟨pd, cd, rfl, _⟩ := ownsRow_holds2 Ho
    obtain ⟨aa, kk, hss, _⟩ := HOb.out.st
    have hbp := hss.2.2.keep (agree_grown (A := fun b => some b ≠ E.mv.ownBlock) Hg (fun b hb => hb)) Hg.size (fun e => by have := (HOb.out.m.lt _ e.symm).1; have := HOb.out.p; omega)
    have c3 := hbp.cells 3
    have f3 := hbp.frozen 3
    have zz := hbp.lt
    simp only [List.getElem?_cons_zero, List.getElem?_cons_succ] at c3
    clear hOd hPW Ho Hg hat hss hbp d0 d1 d2 d3
    go_wp2_with fail
    go_ret
    refine ⟨_, _, rfl, by (first | omega | (simp only [ByteArray.size_append, size_lit, List.size_toArray, List.length_cons, List.length_nil]; omega)), ?_, ?_, ?_, ?_, ?_, HOd.out, HPW.out⟩
    · rfl
    · rfl
    · rfl
    · rfl
    · dsimp only; omega
  · go_upto_region 17 with (first | (go_at_call 89; refine (OKS.out.1 E _ _ 2 _ (by omega) (by omega) (PE.alloc (by first | assumption | exact PE.alloc (by assumption) _) _) (SR.new (c := 20) (A := E.A) _ _ _ (n := 2) (by rfl) (PE.apart (by first | assumption | exact PE.alloc (by assumption) _)) (by rfl)) (by omega)).mono ?_; rintro e w' ⟨Si, rfl, hSi, hp⟩; have hE := PE.keep (by first | assumption | exact PE.alloc (by assumption) _) hp; have hA := PR.trans (E := E) (a := w) (PR.alloc (by assumption) _) hp; clear hp))

    have hO6 := HO.out.pr hA
    have hPW6 := hA.toPX.pw HO.out.b

    clear d0 d1 d2 d3 d4 d5 d7
    obtain ⟨d0, d1, d2, d3, d4, d5, d7⟩ := hE.cells
    have hSn : (ByteArray.mk #[102] ++ nm).size ≤ 20 := by rw [ByteArray.size_append]; simp only [size_lit, List.size_toArray, List.length_cons, List.length_nil]; omega
    have hcat : (9223372036854775807 < 1 + nm.size) = False := eq_false (by omega)
    obtain ⟨xs, ho, hxa⟩ := hO6.f
    obtain ⟨wb, hwb, HB7, hbb⟩ := fresh_blk w' [Value.string (ByteArray.mk #[102] ++ nm)] 9
    have hsrc : Src Try.prog 1 32 (.slice (some ⟨w'.heap.size, 0, none⟩) 1 1) 1 [Value.string (ByteArray.mk #[102] ++ nm)] wb :=
      Src.ofSlice wb (e' := 9) Try.underlying32 _ 1 1 _ rfl (fun j u hj => by rw [Addr.add_lit, Nat.zero_add]; exact (HB7.cells j).trans hj) (fun u hu => by rw [List.mem_singleton.1 hu]; rfl)
    have hown := ownsRow_below ho hbb
    have hOb := hO6.below hbb
    have hbig := hOb.b
    have HAb := Lib.hid (hPW6.trans ((PX.of_below (E := E) hbb).pw (B := B) hO6.b))
    have HOb := Lib.hid hOb
    have Hsrc := Lib.hid hsrc
    try dsimp only at hown
    have Hown := Lib.hid hown
    have Hxa := Lib.hid hxa
    have hxl := ho.1
    obtain ⟨pz, cz, hz⟩ := (hO6.f.sr (E := E) hO6.d hO6.p).parts
    try dsimp only at hz
    try dsimp only at hxl
    try dsimp only at d1
    try dsimp only at d2
    try dsimp only at d3
    clear hsrc hown HB7 hbb ho hxa hO6 hE hPW6 d4 d5 d7
    go_wp2_with (at_builtin; (try rw [hwb]); refine app_at _ _ 32 32 9 (.string ⟨#[]⟩) 1 16 rfl rfl Try.underlying32 (by kernel_rfl) rfl (by decide) B Hown.out hbig (by first | rfl | exact hz.symm) rfl Hsrc.out (by unfold maxLen; omega) (by omega) ?_)
    intro vd wd Ho Hg hat
    rw [← hz] at Hg hat
    have hOd := HOb.out.app_f (Own.snoc Ho Hxa.out hSn) Hg hat hfew
    have hPW : PW B E.gd E.gp w (wd.setCell ⟨E.gp, 1, none⟩ vd) := (HAb.out.grown hbig HOb.out.f Hg).set _ _ (.inr (.inl rfl))
    have HOd := Lib.hid hOd
    have HPW := Lib.hid hPW
    obtain ⟨pd, cd, rfl, _⟩ := ownsRow_holds2 Ho
    obtain ⟨aa, kk, hss, _⟩ := HOb.out.st
    have hbp := hss.2.2.keep (agree_grown (A := fun b => some b ≠ E.fv.ownBlock) Hg (fun b hb => hb)) Hg.size (fun e => by have := (HOb.out.f.lt _ e.symm).1; have := HOb.out.p; omega)
    have c1 := hbp.cells 1
    have f1 := hbp.frozen 1
    have zz := hbp.lt
    simp only [List.getElem?_cons_zero, List.getElem?_cons_succ] at c1
    clear hOd hPW Ho Hg hat hss hbp d0 d1 d2 d3
    go_wp2_with fail
    go_ret
    refine ⟨_, _, rfl, by (first | omega | (simp only [ByteArray.size_append, size_lit, List.size_toArray, List.length_cons, List.length_nil]; omega)), ?_, ?_, ?_, ?_, ?_, HOd.out, HPW.out⟩
    · rfl
    · rfl
    · rfl
    · rfl
    · dsimp only; omega
  · go_upto_region 21 with fail

    have hO6 := HO.out.pr hA
    have hPW6 := hA.toPX.pw HO.out.b

    clear d0 d1 d2 d3 d4 d5 d7
    obtain ⟨d0, d1, d2, d3, d4, d5, d7⟩ := hE.cells
    have hSn : (ByteArray.mk #[102] ++ nm).size ≤ 20 := by rw [ByteArray.size_append]; simp only [size_lit, List.size_toArray, List.length_cons, List.length_nil]; omega
    have hcat : (9223372036854775807 < 1 + nm.size) = False := eq_false (by omega)
    obtain ⟨xs, ho, hxa⟩ := hO6.f
    obtain ⟨wb, hwb, HB7, hbb⟩ := fresh_blk w' [Value.string (ByteArray.mk #[102] ++ nm)] 9
    have hsrc : Src Try.prog 1 32 (.slice (some ⟨w'.heap.size, 0, none⟩) 1 1) 1 [Value.string (ByteArray.mk #[102] ++ nm)] wb :=
      Src.ofSlice wb (e' := 9) Try.underlying32 _ 1 1 _ rfl (fun j u hj => by rw [Addr.add_lit, Nat.zero_add]; exact (HB7.cells j).trans hj) (fun u hu => by rw [List.mem_singleton.1 hu]; rfl)
    have hown := ownsRow_below ho hbb
    have hOb := hO6.below hbb
    have hbig := hOb.b
    have HAb := Lib.hid (hPW6.trans ((PX.of_below (E := E) hbb).pw (B := B) hO6.b))
    have HOb := Lib.hid hOb
    have Hsrc := Lib.hid hsrc
    try dsimp only at hown
    have Hown := Lib.hid hown
    have Hxa := Lib.hid hxa
    have hxl := ho.1
    obtain ⟨pz, cz, hz⟩ := (hO6.f.sr (E := E) hO6.d hO6.p).parts
    try dsimp only at hz
    try dsimp only at hxl
    try dsimp only at d1
    try dsimp only at d2
    try dsimp only at d3
    clear hsrc hown HB7 hbb ho hxa hO6 hE hPW6 d4 d5 d7
    go_wp2_with (at_builtin; (try rw [hwb]); refine app_at _ _ 32 32 9 (.string ⟨#[]⟩) 1 16 rfl rfl Try.underlying32 (by kernel_rfl) rfl (by decide) B Hown.out hbig (by first | rfl | exact hz.symm) rfl Hsrc.out (by unfold maxLen; omega) (by omega) ?_)
    intro vd wd Ho Hg hat
    rw [← hz] at Hg hat
    have hOd := HOb.out.app_f (Own.snoc Ho Hxa.out hSn) Hg hat hfew
    have hPW : PW B E.gd E.gp w (wd.setCell ⟨E.gp, 1, none⟩ vd) := (HAb.out.grown hbig HOb.out.f Hg).set _ _ (.inr (.inl rfl))
    have HOd := Lib.hid hOd
    have HPW := Lib.hid hPW
    obtain ⟨pd, cd, rfl, _⟩ := ownsRow_holds2 Ho
    obtain ⟨aa, kk, hss, _⟩ := HOb.out.st
    have hbp := hss.2.2.keep (agree_grown (A := fun b => some b ≠ E.fv.ownBlock) Hg (fun b hb => hb)) Hg.size (fun e => by have := (HOb.out.f.lt _ e.symm).1; have := HOb.out.p; omega)
    have c1 := hbp.cells 1
    have f1 := hbp.frozen 1
    have zz := hbp.lt
    simp only [List.getElem?_cons_zero, List.getElem?_cons_succ] at c1
    clear hOd hPW Ho Hg hat hss hbp d0 d1 d2 d3
    go_wp2_with fail
    go_ret
    refine ⟨_, _, rfl, by (first | omega | (simp only [ByteArray.size_append, size_lit, List.size_toArray, List.length_cons, List.length_nil]; omega)), ?_, ?_, ?_, ?_, ?_, HOd.out, HPW.out⟩
    · rfl
    · rfl
    · rfl
    · rfl
    · dsimp only; omega
  · go_upto_region 24 with (first | (go_at_call 61; refine (mnext_any E _ _ (by first | assumption | exact PE.alloc (by assumption) _) (by omega) (by omega)).mono ?_; rintro e w' ⟨r, rfl, hk0, hk1, hp⟩; have hE := PE.keep (by first | assumption | exact PE.alloc (by assumption) _) hp; have hA := PR.trans (E := E) (a := w) (by first | assumption | exact PR.alloc (by assumption) _) hp; clear hp) | (go_at_call 83; refine (OKS.out.2 E _ _ 2 _ (by omega) (by omega) (PE.alloc (by first | assumption | exact PE.alloc (by assumption) _) _) (SR.new (c := 20) (A := E.A) _ _ _ (n := 2) (by rfl) (PE.apart (by first | assumption | exact PE.alloc (by assumption) _)) (by rfl)) (by omega)).mono ?_; rintro e w' ⟨Si, rfl, hSi, hp⟩; have hE := PE.keep (by first | assumption | exact PE.alloc (by assumption) _) hp; have hA := PR.trans (E := E) (a := w) (PR.alloc (by assumption) _) hp; clear hp))

    have hO6 := HO.out.pr hA
    have hPW6 := hA.toPX.pw HO.out.b

    clear d0 d1 d2 d3 d4 d5 d7
    obtain ⟨d0, d1, d2, d3, d4, d5, d7⟩ := hE.cells
    have hSn : (ByteArray.mk #[102] ++ nm).size ≤ 20 := by rw [ByteArray.size_append]; simp only [size_lit, List.size_toArray, List.length_cons, List.length_nil]; omega
    have hcat : (9223372036854775807 < 1 + nm.size) = False := eq_false (by omega)
    obtain ⟨xs, ho, hxa⟩ := hO6.f
    obtain ⟨wb, hwb, HB7, hbb⟩ := fresh_blk w' [Value.string (ByteArray.mk #[102] ++ nm)] 9
    have hsrc : Src Try.prog 1 32 (.slice (some ⟨w'.heap.size, 0, none⟩) 1 1) 1 [Value.string (ByteArray.mk #[102] ++ nm)] wb :=
      Src.ofSlice wb (e' := 9) Try.underlying32 _ 1 1 _ rfl (fun j u hj => by rw [Addr.add_lit, Nat.zero_add]; exact (HB7.cells j).trans hj) (fun u hu => by rw [List.mem_singleton.1 hu]; rfl)
    have hown := ownsRow_below ho hbb
    have hOb := hO6.below hbb
    have hbig := hOb.b
    have HAb := Lib.hid (hPW6.trans ((PX.of_below (E := E) hbb).pw (B := B) hO6.b))
    have HOb := Lib.hid hOb
    have Hsrc := Lib.hid hsrc
    try dsimp only at hown
    have Hown := Lib.hid hown
    have Hxa := Lib.hid hxa
    have hxl := ho.1
    obtain ⟨pz, cz, hz⟩ := (hO6.f.sr (E := E) hO6.d hO6.p).parts
    try dsimp only at hz
    try dsimp only at hxl
    try dsimp only at d1
    try dsimp only at d2
    try dsimp only at d3
    clear hsrc hown HB7 hbb ho hxa hO6 hE hPW6 d4 d5 d7
    go_wp2_with (at_builtin; (try rw [hwb]); refine app_at _ _ 32 32 9 (.string ⟨#[]⟩) 1 16 rfl rfl Try.underlying32 (by kernel_rfl) rfl (by decide) B Hown.out hbig (by first | rfl | exact hz.symm) rfl Hsrc.out (by unfold maxLen; omega) (by omega) ?_)
    intro vd wd Ho Hg hat
    rw [← hz] at Hg hat
    have hOd := HOb.out.app_f (Own.snoc Ho Hxa.out hSn) Hg hat hfew
    have hPW : PW B E.gd E.gp w (wd.setCell ⟨E.gp, 1, none⟩ vd) := (HAb.out.grown hbig HOb.out.f Hg).set _ _ (.inr (.inl rfl))
    have HOd := Lib.hid hOd
    have HPW := Lib.hid hPW
    obtain ⟨pd, cd, rfl, _⟩ := ownsRow_holds2 Ho
    obtain ⟨aa, kk, hss, _⟩ := HOb.out.st
    have hbp := hss.2.2.keep (agree_grown (A := fun b => some b ≠ E.fv.ownBlock) Hg (fun b hb => hb)) Hg.size (fun e => by have := (HOb.out.f.lt _ e.symm).1; have := HOb.out.p; omega)
    have c1 := hbp.cells 1
    have f1 := hbp.frozen 1
    have zz := hbp.lt
    simp only [List.getElem?_cons_zero, List.getElem?_cons_succ] at c1
    clear hOd hPW Ho Hg hat hss hbp d0 d1 d2 d3
    go_wp2_with fail
    go_ret
    refine ⟨_, _, rfl, by (first | omega | (simp only [ByteArray.size_append, size_lit, List.size_toArray, List.length_cons, List.length_nil]; omega)), ?_, ?_, ?_, ?_, ?_, HOd.out, HPW.out⟩
    · rfl
    · rfl
    · rfl
    · rfl
    · dsimp only; omega
  · go_upto_region 24 with (first | (go_at_call 61; refine (mnext_any E _ _ (by first | assumption | exact PE.alloc (by assumption) _) (by omega) (by omega)).mono ?_; rintro e w' ⟨r, rfl, hk0, hk1, hp⟩; have hE := PE.keep (by first | assumption | exact PE.alloc (by assumption) _) hp; have hA := PR.trans (E := E) (a := w) (by first | assumption | exact PR.alloc (by assumption) _) hp; clear hp) | (go_at_call 83; refine (OKS.out.2 E _ _ 2 _ (by omega) (by omega) (PE.alloc (by first | assumption | exact PE.alloc (by assumption) _) _) (SR.new (c := 20) (A := E.A) _ _ _ (n := 2) (by rfl) (PE.apart (by first | assumption | exact PE.alloc (by assumption) _)) (by rfl)) (by omega)).mono ?_; rintro e w' ⟨Si, rfl, hSi, hp⟩; have hE := PE.keep (by first | assumption | exact PE.alloc (by assumption) _) hp; have hA := PR.trans (E := E) (a := w) (PR.alloc (by assumption) _) hp; clear hp))

    have hO6 := HO.out.pr hA
    have hPW6 := hA.toPX.pw HO.out.b

    clear d0 d1 d2 d3 d4 d5 d7
    obtain ⟨d0, d1, d2, d3, d4, d5, d7⟩ := hE.cells
    have hSn : (ByteArray.mk #[102] ++ nm).size ≤ 20 := by rw [ByteArray.size_append]; simp only [size_lit, List.size_toArray, List.length_cons, List.length_nil]; omega
    have hcat : (9223372036854775807 < 1 + nm.size) = False := eq_false (by omega)
    obtain ⟨xs, ho, hxa⟩ := hO6.f
    obtain ⟨wb, hwb, HB7, hbb⟩ := fresh_blk w' [Value.string (ByteArray.mk #[102] ++ nm)] 9
    have hsrc : Src Try.prog 1 32 (.slice (some ⟨w'.heap.size, 0, none⟩) 1 1) 1 [Value.string (ByteArray.mk #[102] ++ nm)] wb :=
      Src.ofSlice wb (e' := 9) Try.underlying32 _ 1 1 _ rfl (fun j u hj => by rw [Addr.add_lit, Nat.zero_add]; exact (HB7.cells j).trans hj) (fun u hu => by rw [List.mem_singleton.1 hu]; rfl)
    have hown := ownsRow_below ho hbb
    have hOb := hO6.below hbb
    have hbig := hOb.b
    have HAb := Lib.hid (hPW6.trans ((PX.of_below (E := E) hbb).pw (B := B) hO6.b))
    have HOb := Lib.hid hOb
    have Hsrc := Lib.hid hsrc
    try dsimp only at hown
    have Hown := Lib.hid hown
    have Hxa := Lib.hid hxa
    have hxl := ho.1
    obtain ⟨pz, cz, hz⟩ := (hO6.f.sr (E := E) hO6.d hO6.p).parts
    try dsimp only at hz
    try dsimp only at hxl
    try dsimp only at d1
    try dsimp only at d2
    try dsimp only at d3
    clear hsrc hown HB7 hbb ho hxa hO6 hE hPW6 d4 d5 d7
    go_wp2_with (at_builtin; (try rw [hwb]); refine app_at _ _ 32 32 9 (.string ⟨#[]⟩) 1 16 rfl rfl Try.underlying32 (by kernel_rfl) rfl (by decide) B Hown.out hbig (by first | rfl | exact hz.symm) rfl Hsrc.out (by unfold maxLen; omega) (by omega) ?_)
    intro vd wd Ho Hg hat
    rw [← hz] at Hg hat
    have hOd := HOb.out.app_f (Own.snoc Ho Hxa.out hSn) Hg hat hfew
    have hPW : PW B E.gd E.gp w (wd.setCell ⟨E.gp, 1, none⟩ vd) := (HAb.out.grown hbig HOb.out.f Hg).set _ _ (.inr (.inl rfl))
    have HOd := Lib.hid hOd
    have HPW := Lib.hid hPW
    obtain ⟨pd, cd, rfl, _⟩ := ownsRow_holds2 Ho
    obtain ⟨aa, kk, hss, _⟩ := HOb.out.st
    have hbp := hss.2.2.keep (agree_grown (A := fun b => some b ≠ E.fv.ownBlock) Hg (fun b hb => hb)) Hg.size (fun e => by have := (HOb.out.f.lt _ e.symm).1; have := HOb.out.p; omega)
    have c1 := hbp.cells 1
    have f1 := hbp.frozen 1
    have zz := hbp.lt
    simp only [List.getElem?_cons_zero, List.getElem?_cons_succ] at c1
    clear hOd hPW Ho Hg hat hss hbp d0 d1 d2 d3
    go_wp2_with fail
    go_ret
    refine ⟨_, _, rfl, by (first | omega | (simp only [ByteArray.size_append, size_lit, List.size_toArray, List.length_cons, List.length_nil]; omega)), ?_, ?_, ?_, ?_, ?_, HOd.out, HPW.out⟩
    · rfl
    · rfl
    · rfl
    · rfl
    · dsimp only; omega
end Go.Proofs.Ytpjdboebambneaa
