/- Blocks that are made. -/
import Derived.Test.YtpjdboebambneaaMi2
namespace Go.Proofs.Ytpjdboebambneaa
open Go.ChangeShapes Go.WideShapes Go.RowKit

/-- a row of strings of the call's own -/
def InR (_E : Env) (w0 w : World) (v : Value) (q : Nat) : Prop := ∃ xs, w.ownsRow w0.heap.size 9 1 v q xs ∧ xs.all (strB 20) = true
theorem InR.sr {E : Env} {w0 w : World} {v : Value} {q : Nat} (h : InR E w0 w v q) (hlo : E.gd < w0.heap.size ∧ E.gp < w0.heap.size) : SR 20 E.A w v q := by
  obtain ⟨xs, ho, ha⟩ := h
  have hl := ho.1
  obtain ⟨p, cap, hv, hh⟩ := ownsRow_holds2 ho
  exact ⟨p, cap, xs, hv, by omega, hh.mono fun g hg => ⟨by have := hg.2; omega, by have := hg.2; omega⟩, ha⟩
theorem InR.keep {E : Env} {w0 w w' : World} {v : Value} {q : Nat} (h : InR E w0 w v q) (hk : Agree (w0.heap.size ≤ ·) w w') : InR E w0 w' v q := by
  obtain ⟨xs, ho, ha⟩ := h
  exact ⟨xs, ownsRow_keep ho hk (fun g hg => (ho.lt g hg).1), ha⟩
theorem InR.form {E : Env} {w0 w : World} {v : Value} {q : Nat} (h : InR E w0 w v q) : ∃ p cap, v = .slice p q cap := by
  obtain ⟨xs, ho, _⟩ := h
  obtain ⟨p, cap, hv, _⟩ := ownsRow_holds2 ho
  exact ⟨p, cap, hv⟩

/-- the state of a block that is being made: m variables may yet come -/
structure BS (E : Env) (w0 : World) (a0 k0 : Nat) (w : World) (m : Nat) : Prop where
  lo : E.gd < w0.heap.size ∧ E.gp < w0.heap.size
  px : PX E w0 w
  st : ∃ a k, PSt E w a k ∧ a0 ≤ a ∧ k0 ≤ k ∧ k + m + 2 * a0 ≤ k0 + 2 * a
theorem InR.pr {E : Env} {w0 w w' : World} {v : Value} {q : Nat} {a0 k0 m : Nat} (h : InR E w0 w v q) (hB : BS E w0 a0 k0 w m) (hp : PR E w w') : InR E w0 w' v q :=
  h.keep fun g hg hlt => hp.block g (by have := hB.lo.1; omega) (by have := hB.lo.2; omega) hlt
theorem BS.pr {E : Env} {w0 w w' : World} {a0 k0 m : Nat} (h : BS E w0 a0 k0 w m) (hp : PR E w w') : BS E w0 a0 k0 w' m := by
  obtain ⟨a, k, hs, h1, h2, h3⟩ := h.st
  obtain ⟨b, l, hs', g1, g2, g3⟩ := hp.st a k hs
  exact ⟨h.lo, h.px.trans hp.toPX, b, l, hs', by omega, by omega, by omega⟩
theorem BS.pe {E : Env} {w0 w : World} {a0 k0 m : Nat} (h : BS E w0 a0 k0 w m) (hE : PE E w0) (hk : k0 ≤ 2 * a0) : PE E w := by
  obtain ⟨a, k, hs, h1, h2, h3⟩ := h.st
  have hag := h.px.agree
  exact ⟨⟨a, k, hs, by omega⟩, hE.ne, hE.nums.keep hag, hE.fns.keep hag, hE.cons.keep hag, hE.macs.keep hag, hE.few⟩
theorem BS.less {E : Env} {w0 w : World} {a0 k0 m m' : Nat} (h : BS E w0 a0 k0 w m) (hm : m' ≤ m) : BS E w0 a0 k0 w m' := by
  obtain ⟨a, k, hs, h1, h2, h3⟩ := h.st
  exact ⟨h.lo, h.px, a, k, hs, h1, h2, by omega⟩
theorem BS.done {E : Env} {w0 w : World} {a0 k0 m : Nat} (h : BS E w0 a0 k0 w m) (hs0 : PSt E w0 a0 k0) : PR E w0 w := by
  obtain ⟨a, k, hs, h1, h2, h3⟩ := h.st
  exact PR.of_st h.px hs0 hs h1 h2 (by omega)
/-- one variable more -/
theorem BS.var {E : Env} {w0 w : World} {a0 k0 m k a : Nat} (h : BS E w0 a0 k0 w (m + 1)) (hne : E.gd ≠ E.gp) (hs : PSt E w a k) : BS E w0 a0 k0 (w.setCell ⟨E.gp, 6, none⟩ (.int .i64 ((k : Int) + 1))) m := by
  obtain ⟨a', k', hs', h1, h2, h3⟩ := h.st
  obtain ⟨rfl, rfl⟩ := hs.uniq hs'
  have hset := hs.2.2.set 6 (.int .i64 ((k : Int) + 1)) (by simp)
  refine ⟨h.lo, h.px.set _ _ (.inr (.inl rfl)), a, k + 1, ⟨hs.1, hs.2.1.other _ _ (fun e => hne e.symm), ?_⟩, h1, by omega, by omega⟩
  have e : (((k + 1 : Nat)) : Int) = (k : Int) + 1 := by simp
  rw [e]
  exact hset
theorem InR.var {E : Env} {w0 w : World} {v : Value} {q : Nat} {a0 k0 m : Nat} (h : InR E w0 w v q) (hB : BS E w0 a0 k0 w m) (u : Value) : InR E w0 (w.setCell ⟨E.gp, 6, none⟩ u) v q :=
  h.keep fun g hg hlt => Below.heap_setCell _ _ _ _ (by have := hB.lo.2; show g ≠ E.gp; omega)
theorem BS.few {E : Env} {w0 w : World} {a0 k0 m : Nat} (h : BS E w0 a0 k0 w m) (hk : k0 ≤ 2 * a0) (hl : E.ts.length ≤ 400) : ∃ a k, PSt E w a k ∧ k ≤ 800 := by
  obtain ⟨a, k, hs, h1, h2, h3⟩ := h.st
  exact ⟨a, k, hs, by have := hs.1; omega⟩

theorem BS.grown {E : Env} {w0 w w' : World} {a0 k0 m n size : Nat} {e : TypeId} {v : Value} {xs : List Value} (h : BS E w0 a0 k0 w m) (ho : w.ownsRow w0.heap.size e size v n xs) (hg : w.grownBy w' v.ownBlock) : BS E w0 a0 k0 w' m := by
  obtain ⟨a, k, hs, h1, h2, h3⟩ := h.st
  have hne : ∀ g, g < w0.heap.size → some g ≠ v.ownBlock := fun g hg e => by have := (ho.lt _ e.symm).1; omega
  have hk := agree_grown (A := fun b => some b ≠ v.ownBlock) hg (fun b hb => hb)
  exact ⟨h.lo, h.px.grown hg ho (Nat.le_refl _), a, k, ⟨hs.1, hs.2.1.keep hk hg.size (hne _ h.lo.1), hs.2.2.keep hk hg.size (hne _ h.lo.2)⟩, h1, h2, h3⟩
theorem BS.below {E : Env} {w0 w w' : World} {a0 k0 m : Nat} (h : BS E w0 a0 k0 w m) (hb : Below w.heap.size w w') : BS E w0 a0 k0 w' m := h.pr (PR.of_below hb)

set_option maxRecDepth 100000 in
set_option maxHeartbeats 12800000 in
theorem block_ok (d b : Nat) (hIn : OkInt d b) (hb : b ≤ 100000000) (hb2 : 20 ≤ b) (hd0 : d ≤ 8) : OkBlock (d + 1) (3 * b + 150) := by
  intro E x v n w hx1 hx2 hE hV hn
  replace hx2 : x ≤ (d : Int) + 1 := by simpa using hx2
  have HI := Lib.hid hIn
  clear hIn
  obtain ⟨a0, k0, hs0, hk0l⟩ := hE.st
  have hlo : E.gd < w.heap.size ∧ E.gp < w.heap.size := ⟨hE.ltd, hE.ltp⟩
  have H400 : Hid (E.ts.length ≤ 400) := by obtain ⟨_, _, _, _, h, _⟩ := hE.nums; exact h
  have HE := Lib.hid hE
  have Hs0 := Lib.hid hs0
  have Hk0 := Lib.hid hk0l
  obtain ⟨d0, d1, d2, d3, d4, d5, d7⟩ := hE.cells
  obtain ⟨p, cap, vs, rfl, hvn, hvh, hva⟩ := hV
  have Hva := Lib.hid hva
  have hv1 : ∀ u ∈ vs, u.oneCell' = true := by
    intro u hu
    have := List.all_eq_true.1 hva u hu
    cases u <;> first | rfl | cases this
  have hsrc : Src Try.prog 1 32 (.slice p n cap) n vs w := Holds.src (e' := 9) Try.underlying32 hvh (by omega) (by decide) hv1
  have Hsrc := Lib.hid hsrc
  have hn9 : n ≤ 900 := by omega
  clear hvh hva hv1 hsrc hs0 hk0l
  go_enter Try.func83, Try.ntmps83
  go_upto_region 4 with (at_builtin; refine app_src _ _ 32 32 9 (.string ⟨#[]⟩) 1 16 rfl rfl Try.underlying32 (by kernel_rfl) rfl (by decide) w.heap.size (World.ownsRow_nil _ _ _ _) (Nat.le_refl _) rfl rfl Hsrc.out ?c1 ?c2 ?_)
  case c1 => unfold maxLen; omega
  case c2 => omega
  intro v8 w1 Ho Hg
  have hbw1 : Below w.heap.size w w1 := below_own (ext_refl w) (World.ownsRow_nil w w.heap.size 9 1) Hg (Nat.le_refl _)
  have hE1 := hE.below hbw1
  have hs1 := Hs0.out.of_below hbw1
  have hI1 : InR E w w1 v8 n := ⟨vs, Ho, Hva.out⟩
  have Hbw1 := Lib.hid hbw1
  clear Ho Hg Hsrc Hva hbw1 d0 d1 d2 d3 d4 d5 d7 hvn
  obtain ⟨p8, c8, rfl⟩ := hI1.form
  have HI1 := Lib.hid hI1
  clear hI1
  go_wp2_with fail
  refine (mnext_st E 3 w1 a0 k0 hs1 hE.ne hE1.nums (by omega) (by omega)).mono ?_
  rintro e w2 ⟨r, a1, rfl, hr0, hr1, hpx, hs2, ha1, hra⟩
  obtain ⟨m0, rfl⟩ := Int.eq_ofNat_of_zero_le hr0
  have hB2 : BS E w a0 k0 w2 m0 := ⟨hlo, (PX.of_below Hbw1.out).trans hpx, a1, k0, hs2, ha1, Nat.le_refl _, by by_cases h : 0 < m0 <;> omega⟩
  have hI2 : InR E w w2 (.slice p8 n c8) n := HI1.out.keep fun g hg hlt => hpx.block g (by have := hlo.1; omega) (by have := hlo.2; omega) hlt
  have hm2 : m0 ≤ 2 := by omega
  clear hpx hs2 ha1 hra hs1 hE1 hr0 hr1
  go_wp2_with fail
  go_loopw [8, 9, 10] (fun s8 s9 s10 wr => ∃ (m q : Nat) (S : ByteArray), s10 = .int .i64 m ∧ s9 = .string S ∧ Hid (m ≤ 2) ∧ Hid (S.size ≤ 2 + (2 - m) * (b + 70)) ∧ Hid (q + m ≤ n + 2) ∧ Hid (InR E w wr s8 q) ∧ Hid (BS E w a0 k0 wr m)) (fun _ _ s10 _ => (intOf s10).toNat)
  case atStart => exact ⟨m0, n, _, rfl, rfl, hm2, by show _ ≤ _; simp only [size_lit, List.size_toArray, List.length_cons, List.length_nil]; omega, by show _ ≤ _; omega, hI2, hB2⟩
  case round =>
    rename_i v9
    obtain ⟨m, q, S, rfl, rfl, Hm, HS, Hq, HIr, HBr⟩ := hrel
    have hI := HIr.out
    obtain ⟨p9, c9, rfl⟩ := hI.form
    have hV := hI.sr hlo
    have hB := HBr.out
    have hE := hB.pe HE.out Hk0.out
    obtain ⟨d0, d1, d2, d3, d4, d5, d7⟩ := hE.cells
    have hm := Hm.out
    have hS := HS.out
    have hq := Hq.out
    cases m with
    | zero =>
      have hd : decide (((0 : Nat) : Int) > 0) = false := by decide
      have hd2 : decide ((0 : Int) < ((0 : Nat) : Int)) = false := by decide
      go_wp2_with (first | (go_at_call 89; refine (HI.out E _ _ q _ (by omega) (by omega) (by first | assumption | exact PE.alloc (by assumption) _) (by assumption) (by omega)).mono ?_; rintro e w' ⟨Si, rfl, hSi, hp⟩; have hE := PE.keep (by first | assumption | exact PE.alloc (by assumption) _) hp; have hI := InR.pr (by assumption) (by assumption) hp; have hV := hI.sr hlo; have hB := BS.pr (by assumption) hp; obtain ⟨d0, d1, d2, d3, d4, d5, d7⟩ := hE.cells; clear hp))
      go_ret
      exact ⟨_, rfl, by (first | omega | (simp only [ByteArray.size_append, size_lit, List.size_toArray, List.length_cons, List.length_nil]; omega)), hB.done Hs0.out⟩
    | succ m =>
      have hd : decide (((m + 1 : Nat) : Int) > 0) = true := decide_eq_true (by omega)
      have hd2 : decide ((0 : Int) < ((m + 1 : Nat) : Int)) = true := decide_eq_true (by omega)
      obtain ⟨c, hc⟩ : ∃ c, 2 + (2 - (m + 1)) * (b + 70) = c := ⟨_, rfl⟩
      have hc2 : 2 + (2 - m) * (b + 70) = c + (b + 70) := by
        have : m = 0 ∨ m = 1 := by omega
        rcases this with rfl | rfl
        · subst hc; simp; try omega
        · subst hc; simp; try omega
      rw [hc] at hS
      have hcs : c ≤ 2 + 2 * (b + 70) := by
        have : m = 0 ∨ m = 1 := by omega
        rcases this with rfl | rfl
        · subst hc; simp; try omega
        · subst hc; simp; try omega
      clear hc HS
      go_wp2_with fail
      refine (mnext_any E 5 _ hE (by omega) (by omega)).mono ?_
      rintro e w' ⟨r, rfl, hk0, hk1, hp⟩
      have hI2' := InR.pr hI hB hp
      have hB2' := BS.pr hB hp
      clear hI hV hB hE d0 d1 d2 d3 d4 d5 d7 hp
      have hI := hI2'
      have hB := hB2'
      clear hI2' hB2'
      have hE := hB.pe HE.out Hk0.out
      have hV := hI.sr hlo
      obtain ⟨d0, d1, d2, d3, d4, d5, d7⟩ := hE.cells
      obtain ⟨j, rfl⟩ := Int.eq_ofNat_of_zero_le hk0
      have hj5 : j = 0 ∨ j = 1 ∨ j = 2 ∨ j = 3 ∨ j = 4 := by omega
      clear hk0 hk1
      rcases hj5 with rfl | rfl | rfl | rfl | rfl
      · obtain ⟨a4, k4, hs4, hk4⟩ := hB.few Hk0.out H400.out
        have d6 := hs4.2.2.cells 6
        have f6 := hs4.2.2.frozen 6
        have z6 := hs4.2.2.lt
        simp only [List.getElem?_cons_zero, List.getElem?_cons_succ] at d6

        go_upto_region 14 with ((go_at_call 85; refine (mdigits E _ _ (by omega)).mono ?_; rintro e w' ⟨Sd, rfl, hSd, hp⟩; have hE := PE.keep (by first | assumption | exact PE.alloc (by assumption) _) hp; have hI := InR.pr (by assumption) (by assumption) hp; have hV := hI.sr hlo; have hB := BS.pr (by assumption) hp; obtain ⟨d0, d1, d2, d3, d4, d5, d7⟩ := hE.cells; clear hp))
        obtain ⟨a4, k4, hs4, hk4⟩ := hB.few Hk0.out H400.out
        have d6 := hs4.2.2.cells 6
        have f6 := hs4.2.2.frozen 6
        have z6 := hs4.2.2.lt
        simp only [List.getElem?_cons_zero, List.getElem?_cons_succ] at d6
        go_upto_region 15 with fail
        have hB5 := hB.var hE.ne hs4
        have hI5 := hI.var hB (.int .i64 ((k4 : Int) + 1))
        have hE5 := hB5.pe HE.out Hk0.out
        clear hB hI hE hV d0 d1 d2 d3 d4 d5 d6 d7 f6 z6
        generalize w'.setCell ⟨E.gp, 6, none⟩ (.int .i64 ((k4 : Int) + 1)) = w5 at *
        have hB := hB5
        have hI := hI5
        have hE := hE5
        clear hB5 hI5 hE5
        have hV := hI.sr hlo
        obtain ⟨d0, d1, d2, d3, d4, d5, d7⟩ := hE.cells

        go_upto_if 87 with (first | (go_at_call 90; refine (mone_any E _ _ (by first | assumption | exact PE.alloc (by assumption) _) (by omega) (by omega)).mono ?_; rintro e w' ⟨bo, rfl, hp⟩; have hE := PE.keep (by first | assumption | exact PE.alloc (by assumption) _) hp; have hI := InR.pr (by assumption) (by assumption) hp; have hV := hI.sr hlo; have hB := BS.pr (by assumption) hp; obtain ⟨d0, d1, d2, d3, d4, d5, d7⟩ := hE.cells; clear hp))
        all_goals
          go_cut [11] (fun s11 wx => ∃ S11 : ByteArray, s11 = .string S11 ∧ Hid (S11.size ≤ 20) ∧ Hid (InR E w wx (.slice p9 q c9) q) ∧ Hid (BS E w a0 k0 wx m))
          case first =>
            go_wp2_with (first | (go_at_call 61; refine (mnext_any E _ _ (by first | assumption | exact PE.alloc (by assumption) _) (by omega) (by omega)).mono ?_; rintro e w' ⟨r, rfl, hk0, hk1, hp⟩; have hE := PE.keep (by first | assumption | exact PE.alloc (by assumption) _) hp; have hI := InR.pr (by assumption) (by assumption) hp; have hV := hI.sr hlo; have hB := BS.pr (by assumption) hp; obtain ⟨d0, d1, d2, d3, d4, d5, d7⟩ := hE.cells; clear hp; obtain ⟨j, rfl⟩ := Int.eq_ofNat_of_zero_le hk0; (try (have hjn : j < q := (by omega); obtain ⟨g, o, Sx, rfl, _, hg, hc, hSx⟩ := hV.at hjn; clear hjn))))
            all_goals
              go_meet
              refine ⟨_, rfl, ?_, by assumption, by assumption⟩
              show _ ≤ _
              (first | omega | (simp only [ByteArray.size_append, size_lit, List.size_toArray, List.length_cons, List.length_nil]; omega))
          case rest =>
          obtain ⟨S11, rfl, HS11, HI6, HB6⟩ := hcut
          clear hB hI hE hV d0 d1 d2 d3 d4 d5 d7
          have hB := HB6.out
          have hI := HI6.out
          have hE := hB.pe HE.out Hk0.out
          have hV := hI.sr hlo
          obtain ⟨d0, d1, d2, d3, d4, d5, d7⟩ := hE.cells
          have hS11 := HS11.out
          go_upto_region 20 with (first | (go_at_call 89; refine (HI.out E _ _ q _ (by omega) (by omega) (by first | assumption | exact PE.alloc (by assumption) _) (by assumption) (by omega)).mono ?_; rintro e w' ⟨Si, rfl, hSi, hp⟩; have hE := PE.keep (by first | assumption | exact PE.alloc (by assumption) _) hp; have hI := InR.pr (by assumption) (by assumption) hp; have hV := hI.sr hlo; have hB := BS.pr (by assumption) hp; obtain ⟨d0, d1, d2, d3, d4, d5, d7⟩ := hE.cells; clear hp))
          obtain ⟨xs, ho, hxa⟩ := hI
          obtain ⟨wb, hwb, HB7, hbb⟩ := fresh_blk w' [Value.string S11] 9
          have hsrc : Src Try.prog 1 32 (.slice (some ⟨w'.heap.size, 0, none⟩) 1 1) 1 [Value.string S11] wb :=
            Src.ofSlice wb (e' := 9) Try.underlying32 _ 1 1 _ rfl (fun j u hj => by rw [Addr.add_lit, Nat.zero_add]; exact (HB7.cells j).trans hj) (fun u hu => by rw [List.mem_singleton.1 hu]; rfl)
          have hown := ownsRow_below ho hbb
          have hBb := hB.below hbb
          have hbig := hBb.px.size
          have HBb := Lib.hid hBb
          have Hsrc := Lib.hid hsrc
          have Hown := Lib.hid hown
          have Hxa := Lib.hid hxa
          have hxl := ho.1
          clear hsrc hown HB7 hbb ho hxa hB hE hV d0 d1 d2 d3 d4 d5 d7 HB6 HI6
          go_wp2_with (at_builtin; (try rw [hwb]); refine app_at _ _ 32 32 9 (.string ⟨#[]⟩) 1 16 rfl rfl Try.underlying32 (by kernel_rfl) rfl (by decide) w.heap.size Hown.out hbig rfl rfl Hsrc.out (by unfold maxLen; omega) (by omega) ?_)
          intro vd wd Ho Hg hat
          have hB8 := HBb.out.grown Hown.out Hg
          have hI8 : InR E w wd vd (q + 1) := ⟨xs ++ [.string S11], Ho, by rw [List.all_append, Hxa.out]; simp [strB]; omega⟩
          clear Ho Hg hat
          go_wp2_with fail
          go_roundw
          case rel =>
            refine ⟨m, q + 1, _, by simp, rfl, by show _ ≤ _; omega, ?_, by show _ ≤ _; omega, by assumption, by assumption⟩
            show _ ≤ _
            rw [hc2]
            (first | omega | (simp only [ByteArray.size_append, size_lit, List.size_toArray, List.length_cons, List.length_nil]; omega))
          case measure => simp [intOf]
      · obtain ⟨a4, k4, hs4, hk4⟩ := hB.few Hk0.out H400.out
        have d6 := hs4.2.2.cells 6
        have f6 := hs4.2.2.frozen 6
        have z6 := hs4.2.2.lt
        simp only [List.getElem?_cons_zero, List.getElem?_cons_succ] at d6

        go_upto_region 14 with ((go_at_call 85; refine (mdigits E _ _ (by omega)).mono ?_; rintro e w' ⟨Sd, rfl, hSd, hp⟩; have hE := PE.keep (by first | assumption | exact PE.alloc (by assumption) _) hp; have hI := InR.pr (by assumption) (by assumption) hp; have hV := hI.sr hlo; have hB := BS.pr (by assumption) hp; obtain ⟨d0, d1, d2, d3, d4, d5, d7⟩ := hE.cells; clear hp))
        obtain ⟨a4, k4, hs4, hk4⟩ := hB.few Hk0.out H400.out
        have d6 := hs4.2.2.cells 6
        have f6 := hs4.2.2.frozen 6
        have z6 := hs4.2.2.lt
        simp only [List.getElem?_cons_zero, List.getElem?_cons_succ] at d6
        go_upto_region 15 with fail
        have hB5 := hB.var hE.ne hs4
        have hI5 := hI.var hB (.int .i64 ((k4 : Int) + 1))
        have hE5 := hB5.pe HE.out Hk0.out
        clear hB hI hE hV d0 d1 d2 d3 d4 d5 d6 d7 f6 z6
        generalize w'.setCell ⟨E.gp, 6, none⟩ (.int .i64 ((k4 : Int) + 1)) = w5 at *
        have hB := hB5
        have hI := hI5
        have hE := hE5
        clear hB5 hI5 hE5
        have hV := hI.sr hlo
        obtain ⟨d0, d1, d2, d3, d4, d5, d7⟩ := hE.cells

        go_upto_if 87 with (first | (go_at_call 90; refine (mone_any E _ _ (by first | assumption | exact PE.alloc (by assumption) _) (by omega) (by omega)).mono ?_; rintro e w' ⟨bo, rfl, hp⟩; have hE := PE.keep (by first | assumption | exact PE.alloc (by assumption) _) hp; have hI := InR.pr (by assumption) (by assumption) hp; have hV := hI.sr hlo; have hB := BS.pr (by assumption) hp; obtain ⟨d0, d1, d2, d3, d4, d5, d7⟩ := hE.cells; clear hp))
        all_goals
          go_cut [11] (fun s11 wx => ∃ S11 : ByteArray, s11 = .string S11 ∧ Hid (S11.size ≤ 20) ∧ Hid (InR E w wx (.slice p9 q c9) q) ∧ Hid (BS E w a0 k0 wx m))
          case first =>
            go_wp2_with (first | (go_at_call 61; refine (mnext_any E _ _ (by first | assumption | exact PE.alloc (by assumption) _) (by omega) (by omega)).mono ?_; rintro e w' ⟨r, rfl, hk0, hk1, hp⟩; have hE := PE.keep (by first | assumption | exact PE.alloc (by assumption) _) hp; have hI := InR.pr (by assumption) (by assumption) hp; have hV := hI.sr hlo; have hB := BS.pr (by assumption) hp; obtain ⟨d0, d1, d2, d3, d4, d5, d7⟩ := hE.cells; clear hp; obtain ⟨j, rfl⟩ := Int.eq_ofNat_of_zero_le hk0; (try (have hjn : j < q := (by omega); obtain ⟨g, o, Sx, rfl, _, hg, hc, hSx⟩ := hV.at hjn; clear hjn))))
            all_goals
              go_meet
              refine ⟨_, rfl, ?_, by assumption, by assumption⟩
              show _ ≤ _
              (first | omega | (simp only [ByteArray.size_append, size_lit, List.size_toArray, List.length_cons, List.length_nil]; omega))
          case rest =>
          obtain ⟨S11, rfl, HS11, HI6, HB6⟩ := hcut
          clear hB hI hE hV d0 d1 d2 d3 d4 d5 d7
          have hB := HB6.out
          have hI := HI6.out
          have hE := hB.pe HE.out Hk0.out
          have hV := hI.sr hlo
          obtain ⟨d0, d1, d2, d3, d4, d5, d7⟩ := hE.cells
          have hS11 := HS11.out
          go_upto_region 20 with (first | (go_at_call 89; refine (HI.out E _ _ q _ (by omega) (by omega) (by first | assumption | exact PE.alloc (by assumption) _) (by assumption) (by omega)).mono ?_; rintro e w' ⟨Si, rfl, hSi, hp⟩; have hE := PE.keep (by first | assumption | exact PE.alloc (by assumption) _) hp; have hI := InR.pr (by assumption) (by assumption) hp; have hV := hI.sr hlo; have hB := BS.pr (by assumption) hp; obtain ⟨d0, d1, d2, d3, d4, d5, d7⟩ := hE.cells; clear hp))
          obtain ⟨xs, ho, hxa⟩ := hI
          obtain ⟨wb, hwb, HB7, hbb⟩ := fresh_blk w' [Value.string S11] 9
          have hsrc : Src Try.prog 1 32 (.slice (some ⟨w'.heap.size, 0, none⟩) 1 1) 1 [Value.string S11] wb :=
            Src.ofSlice wb (e' := 9) Try.underlying32 _ 1 1 _ rfl (fun j u hj => by rw [Addr.add_lit, Nat.zero_add]; exact (HB7.cells j).trans hj) (fun u hu => by rw [List.mem_singleton.1 hu]; rfl)
          have hown := ownsRow_below ho hbb
          have hBb := hB.below hbb
          have hbig := hBb.px.size
          have HBb := Lib.hid hBb
          have Hsrc := Lib.hid hsrc
          have Hown := Lib.hid hown
          have Hxa := Lib.hid hxa
          have hxl := ho.1
          clear hsrc hown HB7 hbb ho hxa hB hE hV d0 d1 d2 d3 d4 d5 d7 HB6 HI6
          go_wp2_with (at_builtin; (try rw [hwb]); refine app_at _ _ 32 32 9 (.string ⟨#[]⟩) 1 16 rfl rfl Try.underlying32 (by kernel_rfl) rfl (by decide) w.heap.size Hown.out hbig rfl rfl Hsrc.out (by unfold maxLen; omega) (by omega) ?_)
          intro vd wd Ho Hg hat
          have hB8 := HBb.out.grown Hown.out Hg
          have hI8 : InR E w wd vd (q + 1) := ⟨xs ++ [.string S11], Ho, by rw [List.all_append, Hxa.out]; simp [strB]; omega⟩
          clear Ho Hg hat
          go_wp2_with fail
          go_roundw
          case rel =>
            refine ⟨m, q + 1, _, by simp, rfl, by show _ ≤ _; omega, ?_, by show _ ≤ _; omega, by assumption, by assumption⟩
            show _ ≤ _
            rw [hc2]
            (first | omega | (simp only [ByteArray.size_append, size_lit, List.size_toArray, List.length_cons, List.length_nil]; omega))
          case measure => simp [intOf]
      · go_upto_if 127 with fail
        by_cases hqn : n < q
        · have hd3 : decide ((q : Int) > (n : Int)) = true := by simp; omega
          have hd4 : decide ((n : Int) < (q : Int)) = true := by simp; omega
          have hwr : IntKind.i64.wrap (x - 1) = x - 1 := by rw [IntKind.wrap_i64]; omega
          have hwq : IntKind.i64.wrap ((q : Int) - 1) = ((q - 1 : Nat) : Int) := by rw [IntKind.wrap_i64]; omega
          obtain ⟨g, o, Sx, rfl, hgA, hg, hc3, hSx⟩ := hV.at (k := q - 1) (by omega)
          have hg1 := hgA.1
          have hg2 := hgA.2
          have hq1 : q - 1 < q := by omega
          go_upto_region 23 with fail
          have hcat1 : (9223372036854775807 < Sx.size + 3) = False := eq_false (by omega)
          refine Lx.region (pr_steps E) [(0, true), (1, true), (2, true), (3, true), (4, true), (5, true), (6, true), (7, true), (8, true), (9, true), (10, true), (11, true), (12, false), (13, true), (14, true), (15, true)] [(16, false)] (fun wz => (∀ b o, b ≠ E.gd → b ≠ E.gp → b < w'.heap.size → wz.cell? ⟨b, o, none⟩ = w'.cell? ⟨b, o, none⟩) ∧ wz.cell? ⟨E.gp, 0, none⟩ = some (.pointer (some ⟨E.gd, 0, none⟩)) ∧ wz.cell? ⟨E.gp, 1, none⟩ = some E.fv ∧ wz.cell? ⟨E.gp, 2, none⟩ = some E.cv ∧ wz.cell? ⟨E.gp, 3, none⟩ = some E.mv ∧ PR E w' wz) (by kernel_rfl) (by kernel_rfl) (fun _ _ _ _ _ h => h) (fun _ h => PS.of (E := E) (w := w') hE h) (fun _ _ h hb => PS.step (E := E) (w := w') hE h hb) ?_; intro xa hbxa; replace hbxa : PR E w' xa := hbxa; simp only [Lx.pick, List.filterMap_cons, List.filterMap_nil, List.getElem?_cons_succ, List.getElem?_cons_zero, List.map_cons, List.map_nil]; have hSxa : PS E w' xa := PS.of hE hbxa
          repeat (first | (refine Lx.takeY ?_ (by rfl) ?_ (by assumption) ?_; rotate_left; (focus (intro w' hSw; (try dsimp only at hSw); go_simp; (try with_reducible rfl))); simp only [Act.put, List.setIfInBounds_toArray, List.set_cons_zero, List.set_cons_succ]) | (refine Lx.takeN (by rfl) (by assumption) ?_; simp only [Act.put, List.setIfInBounds_toArray, List.set_cons_zero, List.set_cons_succ]))
          refine Lx.go ?_; intro K hK; go_simp; go_at_call 89; refine (HI.out E _ _ q _ (by omega) (by omega) (hE.keep hbxa) (hV.pr hbxa) (by omega)).mono ?_; rintro e w0xb ⟨Si, rfl, hSi, hb0xb⟩; refine hK _ _ hb0xb ?_; clear hK K; intro wxb hbxb; replace hbxb := PR.trans hb0xb hbxb; have hSxb := PS.step hE hSxa hbxb; try simp only [Act.put, List.setIfInBounds_toArray, List.set_cons_zero, List.set_cons_succ]
          have hcat2 : (9223372036854775807 < Sx.size + 3 + Si.size) = False := eq_false (by omega)
          have hcat3 : (9223372036854775807 < Sx.size + 3 + Si.size + 2) = False := eq_false (by omega)
          have hcat4 : (9223372036854775807 < S.size + (Sx.size + 3 + Si.size + 2)) = False := eq_false (by omega)
          repeat (first | (refine Lx.takeY ?_ (by rfl) ?_ (by assumption) ?_; rotate_left; (focus (intro w' hSw; (try dsimp only at hSw); go_simp; (try with_reducible rfl))); simp only [Act.put, List.setIfInBounds_toArray, List.set_cons_zero, List.set_cons_succ]) | (refine Lx.takeN (by rfl) (by assumption) ?_; simp only [Act.put, List.setIfInBounds_toArray, List.set_cons_zero, List.set_cons_succ]))
          have hp := hSxb.2.2.2.2.2
          clear hSxa hSxb hbxa hbxb hb0xb
          refine Lx.tail ?_
          have hE := PE.keep (by first | assumption | exact PE.alloc (by assumption) _) hp; have hI := InR.pr (by assumption) (by assumption) hp; have hV := hI.sr hlo; have hB := BS.pr (by assumption) hp; obtain ⟨d0, d1, d2, d3, d4, d5, d7⟩ := hE.cells; clear hp
          go_wp2_with fail
          go_roundw
          case rel =>
            refine ⟨m, q, _, by simp, rfl, by show _ ≤ _; omega, ?_, by show _ ≤ _; omega, by assumption, BS.less (by assumption) (by omega)⟩
            show _ ≤ _
            rw [hc2]
            (first | omega | (simp only [ByteArray.size_append, size_lit, List.size_toArray, List.length_cons, List.length_nil]; omega))
          case measure => simp [intOf]
        · have hd3 : decide ((q : Int) > (n : Int)) = false := by simp; omega
          have hd4 : decide ((n : Int) < (q : Int)) = false := by simp; omega
          go_wp2_with fail
          go_roundw
          case rel =>
            refine ⟨m, q, _, by simp, rfl, by show _ ≤ _; omega, ?_, by show _ ≤ _; omega, by assumption, BS.less (by assumption) (by omega)⟩
            show _ ≤ _
            rw [hc2]
            (first | omega | (simp only [ByteArray.size_append, size_lit, List.size_toArray, List.length_cons, List.length_nil]; omega))
          case measure => simp [intOf]
      · go_wp2_with (first | (go_at_call 89; refine (HI.out E _ _ q _ (by omega) (by omega) (by first | assumption | exact PE.alloc (by assumption) _) (by assumption) (by omega)).mono ?_; rintro e w' ⟨Si, rfl, hSi, hp⟩; have hE := PE.keep (by first | assumption | exact PE.alloc (by assumption) _) hp; have hI := InR.pr (by assumption) (by assumption) hp; have hV := hI.sr hlo; have hB := BS.pr (by assumption) hp; obtain ⟨d0, d1, d2, d3, d4, d5, d7⟩ := hE.cells; clear hp))

        go_roundw
        case rel =>
          refine ⟨m, q, _, by simp, rfl, by show _ ≤ _; omega, ?_, by show _ ≤ _; omega, by assumption, BS.less (by assumption) (by omega)⟩
          show _ ≤ _
          rw [hc2]
          (first | omega | (simp only [ByteArray.size_append, size_lit, List.size_toArray, List.length_cons, List.length_nil]; omega))
        case measure => simp [intOf]
      · obtain ⟨a4, k4, hs4, hk4⟩ := hB.few Hk0.out H400.out
        have d6 := hs4.2.2.cells 6
        have f6 := hs4.2.2.frozen 6
        have z6 := hs4.2.2.lt
        simp only [List.getElem?_cons_zero, List.getElem?_cons_succ] at d6

        go_upto_region 9 with (first | (go_at_call 85; refine (mdigits E _ _ (by omega)).mono ?_; rintro e w' ⟨Sd, rfl, hSd, hp⟩; have hE := PE.keep (by first | assumption | exact PE.alloc (by assumption) _) hp; have hI := InR.pr (by assumption) (by assumption) hp; have hV := hI.sr hlo; have hB := BS.pr (by assumption) hp; obtain ⟨d0, d1, d2, d3, d4, d5, d7⟩ := hE.cells; clear hp))
        obtain ⟨a4, k4, hs4, hk4⟩ := hB.few Hk0.out H400.out
        have d6 := hs4.2.2.cells 6
        have f6 := hs4.2.2.frozen 6
        have z6 := hs4.2.2.lt
        simp only [List.getElem?_cons_zero, List.getElem?_cons_succ] at d6
        go_upto_region 10 with fail
        have hB5 := hB.var hE.ne hs4
        have hI5 := hI.var hB (.int .i64 ((k4 : Int) + 1))
        have hE5 := hB5.pe HE.out Hk0.out
        clear hB hI hE hV d0 d1 d2 d3 d4 d5 d6 d7 f6 z6
        generalize w'.setCell ⟨E.gp, 6, none⟩ (.int .i64 ((k4 : Int) + 1)) = w5 at *
        have hB := hB5
        have hI := hI5
        have hE := hE5
        clear hB5 hI5 hE5
        have hV := hI.sr hlo
        obtain ⟨d0, d1, d2, d3, d4, d5, d7⟩ := hE.cells

        go_wp2_with (first | (go_at_call 61; refine (mnext_any E _ _ (by first | assumption | exact PE.alloc (by assumption) _) (by omega) (by omega)).mono ?_; rintro e w' ⟨r, rfl, hk0, hk1, hp⟩; have hE := PE.keep (by first | assumption | exact PE.alloc (by assumption) _) hp; have hI := InR.pr (by assumption) (by assumption) hp; have hV := hI.sr hlo; have hB := BS.pr (by assumption) hp; obtain ⟨d0, d1, d2, d3, d4, d5, d7⟩ := hE.cells; clear hp; obtain ⟨j, rfl⟩ := Int.eq_ofNat_of_zero_le hk0; (try (have hjn : j < q := (by omega); obtain ⟨g, o, Sx, rfl, _, hg, hc, hSx⟩ := hV.at hjn; clear hjn))) | (go_at_call 85; refine (mdigits E j _ (by omega)).mono ?_; rintro e w' ⟨Sd, rfl, hSd, hp⟩; have hE := PE.keep (by first | assumption | exact PE.alloc (by assumption) _) hp; have hI := InR.pr (by assumption) (by assumption) hp; have hV := hI.sr hlo; have hB := BS.pr (by assumption) hp; obtain ⟨d0, d1, d2, d3, d4, d5, d7⟩ := hE.cells; clear hp) | (go_at_call 89; refine (HI.out E _ _ q _ (by omega) (by omega) (by first | assumption | exact PE.alloc (by assumption) _) (by assumption) (by omega)).mono ?_; rintro e w' ⟨Si, rfl, hSi, hp⟩; have hE := PE.keep (by first | assumption | exact PE.alloc (by assumption) _) hp; have hI := InR.pr (by assumption) (by assumption) hp; have hV := hI.sr hlo; have hB := BS.pr (by assumption) hp; obtain ⟨d0, d1, d2, d3, d4, d5, d7⟩ := hE.cells; clear hp))

        go_roundw
        case rel =>
          refine ⟨m, q, _, by simp, rfl, by show _ ≤ _; omega, ?_, by show _ ≤ _; omega, by assumption, by assumption⟩
          show _ ≤ _
          rw [hc2]
          (first | omega | (simp only [ByteArray.size_append, size_lit, List.size_toArray, List.length_cons, List.length_nil]; omega))
        case measure => simp [intOf]
end Go.Proofs.Ytpjdboebambneaa
