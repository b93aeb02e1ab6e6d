import Derived.Test.YthpjhmgmjfmgcaaAcg9
import Derived.Test.YthpjhmgmjfmgcaaAcg5
/- Crashes and syncs of disks: common parts. -/
namespace Go.Proofs.Ythpjhmgmjfmgcaa
open Go.ChangeShapes Go.WideShapes Go.RowKit

/-- 'there' of a disk of known length -/
theorem there2_yes (p : Option Addr) (n cap : Nat) (wv : Value) (k : Int) (w : World) (h0 : 0 ≤ k) (h1 : k < n) :
    Calls Try.prog 47 #[.agg #[.slice p n cap, wv], .int .i64 k] w fun e w' => e = .returned (.bool true) ∧ Below w.heap.size w w' := by
  have hd : decide (k < (n : Int)) = true := by simpa using h1
  go_enter Try.func47, Try.ntmps47
  go_wp2_with fail
  go_ret
  exact ⟨rfl, ext_alloc (ext_refl w) _⟩

/-- j writes of a copy have been done, or not -/
structure Cr (lo hi : Nat) (D : Dk.Dsk) (s : Nat → Bool) (h : Int) (gc : Nat) (gs : List Nat) (cs : List Value) (pw : Option Addr) (j : Nat) (w : World) : Prop where
  tab : Tab lo w gc gs (Dk.many s h 0 (D.writes.take j) D.cells)
  top : (∀ g ∈ gs, g < hi) ∧ gc < hi ∧ hi ≤ w.heap.size
  len : cs.length = 2 * D.writes.length
  wr : Holds (fun g => lo ≤ g ∧ g ∉ gs ∧ g ≠ gc) w pw cs
  data : ∀ (i : Nat) (k : Int) (r : Dk.Row), D.writes[i]? = some (k, r) → cs[i * 2]? = some (.int .i64 k) ∧ ∃ u, cs[i * 2 + 1]? = some u ∧ BRow (fun g => lo ≤ g ∧ g ∉ gs ∧ g ≠ gc) w u r

theorem CopyAt.cr {lo : Nat} {w : World} {v : Value} {D : Dk.Dsk} {gc cap : Nat} {gs : List Nat} {p : Option Addr} {n c : Nat} {cs : List Value} (h : CopyAt lo w v D gc cap gs (.slice p n c) cs) (hpos : 0 < D.cells.length) (s : Nat → Bool) (k : Int) : Cr lo w.heap.size D s k gc gs cs p 0 w := by
  obtain ⟨q, c2, hv, hh⟩ := ownsRow_holds2 h.own
  simp only [Value.slice.injEq] at hv
  obtain ⟨rfl, _, _⟩ := hv
  refine ⟨by simpa [Dk.many] using h.tab, ⟨h.tab.lt, ?_, Nat.le_refl _⟩, by rw [h.own.1]; omega, hh.mono fun g hg => ⟨hg.2, h.apart g hg.1⟩, fun i k r hi => ?_⟩
  · obtain ⟨c, hc, _⟩ := h.tab.cell 0 (gs[0]'(by rw [h.tab.len]; exact hpos)) (List.getElem?_eq_getElem _)
    exact World.block_lt_of_cell? w _ hc
  · obtain ⟨e1, u, e2, e3⟩ := h.wr i k r hi
    exact ⟨e1, u, e2, e3.mono fun g hg => ⟨hg.1, hg.2.1, hg.2.2.1⟩⟩

theorem Cr.keep {lo hi : Nat} {D : Dk.Dsk} {s : Nat → Bool} {h : Int} {gc : Nat} {gs : List Nat} {cs : List Value} {pw : Option Addr} {j : Nat} {w w' : World} (c : Cr lo hi D s h gc gs cs pw j w) (hk : Agree (fun g => lo ≤ g ∧ g < w.heap.size) w w') (hs : w.heap.size ≤ w'.heap.size) : Cr lo hi D s h gc gs cs pw j w' := by
  refine ⟨c.tab.keep hk hs ⟨⟨c.tab.low.1, by have := c.top.2.1; have := c.top.2.2; omega⟩, fun g hg => ⟨c.tab.low.2 g hg, c.tab.lt g hg⟩⟩, ⟨c.top.1, c.top.2.1, Nat.le_trans c.top.2.2 hs⟩, c.len, ?_, fun i k r hi => ?_⟩
  · exact (c.wr.lt.keep (hk.mono fun g hg => ⟨hg.1.1, hg.2⟩)).mono fun g hg => hg.1
  · obtain ⟨e1, u, e2, e3⟩ := c.data i k r hi
    exact ⟨e1, u, e2, (e3.lt.keep (hk.mono fun g hg => ⟨hg.1.1, hg.2⟩)).mono fun g hg => hg.1⟩

theorem Cr.call {lo hi : Nat} {D : Dk.Dsk} {s : Nat → Bool} {h : Int} {gc : Nat} {gs : List Nat} {cs : List Value} {pw : Option Addr} {j : Nat} {w w' : World} (c : Cr lo hi D s h gc gs cs pw j w) (hb : Below w.heap.size w w') : Cr lo hi D s h gc gs cs pw j w' :=
  c.keep (agree_below hb) hb.size

theorem Cr.skip {lo hi : Nat} {D : Dk.Dsk} {s : Nat → Bool} {h : Int} {gc : Nat} {gs : List Nat} {cs : List Value} {pw : Option Addr} {j : Nat} {w : World} (c : Cr lo hi D s h gc gs cs pw j w) {x : Int × Dk.Row} (hx : D.writes[j]? = some x) (h1 : (j : Int) ≠ h) (h2 : s j = false) : Cr lo hi D s h gc gs cs pw (j + 1) w := by
  refine ⟨?_, c.top, c.len, c.wr, c.data⟩
  rw [Dk.many_take s h D.writes D.cells j x hx]
  unfold Dk.one
  rw [if_neg h1, if_neg (by simp [h2])]
  exact c.tab

theorem Cr.turn {lo hi : Nat} {D : Dk.Dsk} {s : Nat → Bool} {h : Int} {gc : Nat} {gs : List Nat} {cs : List Value} {pw : Option Addr} {j : Nat} {w w' : World} (c : Cr lo hi D s h gc gs cs pw j w) {kn : Nat} {r r2 : Dk.Row} (hx : D.writes[j]? = some ((kn : Int), r))
    (h1 : Dk.one s h j ((kn : Int), r) (Dk.many s h 0 (D.writes.take j) D.cells) = (Dk.many s h 0 (D.writes.take j) D.cells).set kn r2) {g : Nat} (hg : gs[kn]? = some g) (hk : Agree (· ≠ g) w w') (hs : w'.heap.size = w.heap.size) (hr : rowOf w' g (r2.map byteVal)) (hl : r2.length = 64) :
    Cr lo hi D s h gc gs cs pw (j + 1) w' := by
  have hgm := List.mem_of_getElem? hg
  refine ⟨?_, ⟨c.top.1, c.top.2.1, by rw [hs]; exact c.top.2.2⟩, c.len, c.wr.keep (hk.mono fun b hb e => hb.2.1 (e ▸ hgm)), fun i k r hi => ?_⟩
  · rw [Dk.many_take s h D.writes D.cells j _ hx, h1]
    exact c.tab.turn hg hk hs hr hl
  · obtain ⟨e1, u, e2, e3⟩ := c.data i k r hi
    exact ⟨e1, u, e2, e3.keep (hk.mono fun b hb e => hb.2.1 (e ▸ hgm))⟩

/-- a sector's row, and what the copy of some bytes to it leaves -/
theorem Cr.row {lo hi : Nat} {D : Dk.Dsk} {s : Nat → Bool} {h : Int} {gc : Nat} {gs : List Nat} {cs : List Value} {pw : Option Addr} {j : Nat} {w : World} (c : Cr lo hi D s h gc gs cs pw j w) {kn : Nat} (hkn : kn < D.cells.length) :
    ∃ (g cap : Nat) (r : Dk.Row), gs[kn]? = some g ∧ w.cell? ⟨gc, kn, none⟩ = some (.slice (some ⟨g, 0, none⟩) 64 cap) ∧ (Dk.many s h 0 (D.writes.take j) D.cells).getD kn [] = r ∧ r.length = 64 ∧ rowOf w g (r.map byteVal) ∧ g < w.heap.size ∧ lo ≤ g ∧ g ≠ gc ∧ g < hi ∧ g ∈ gs := by
  have hl : kn < (Dk.many s h 0 (D.writes.take j) D.cells).length := by rw [Dk.many_length]; exact hkn
  have hlg : kn < gs.length := by rw [c.tab.len]; exact hl
  have hg : gs[kn]? = some gs[kn] := List.getElem?_eq_getElem hlg
  obtain ⟨cap, hc, _⟩ := c.tab.cell kn _ hg
  obtain ⟨h1, h2⟩ := c.tab.row kn _ _ hg (List.getElem?_eq_getElem hl)
  have hm := List.getElem_mem hlg
  refine ⟨gs[kn], cap, _, hg, hc, ?_, h1, h2, c.tab.lt _ hm, c.tab.low.2 _ hm, fun e => c.tab.out (e ▸ hm), c.top.1 _ hm, hm⟩
  rw [List.getD_eq_getElem?_getD, List.getElem?_eq_getElem hl]; rfl

/-- 's[:h]' -/
theorem slice_to {P : Program} (w : World) (t e bytes : Nat) (z : Value) (ht : P.underlying t = some (.slice e)) (he : P.elem t = e) (hs : (P.info? e).map (fun i => (i.zero, i.size, i.bytes)) = some (some z, 1, bytes)) (g off n c h : Nat) (hc : h ≤ c) :
    (Instr.sliceAt t (.slice (some ⟨g, off, none⟩) n c) none (some (.int .i64 (h : Int))) none).run P w = .ok (.slice (some ⟨g, off, none⟩) h c) w := by
  have ht2 : P.underlying t = some (.slice (P.elem t)) := by rw [he]; exact ht
  obtain ⟨i, hi, hz, hsize, hby⟩ := info_parts hs
  rw [run_sliceAt_slice w t _ _ _ _ ht2, run_slice_h w t _ n c ht2 .i64 h (by omega) (by omega), he]
  have h2 : (sizeOf e).run P w = .ok 1 w := by simp [sizeOf, typeInfo, hi, hsize]
  rw [h2]
  simp only [Result.andThen, sliced, Int.toNat_natCast]
  have : (if c = 0 then some (⟨g, off, none⟩ : Addr) else (some (⟨g, off, none⟩ : Addr)).map (·.add (0 * 1))) = some ⟨g, off, none⟩ := by
    split
    · rfl
    · simp [Addr.add]
  rw [this]
  rfl

/-- a bit of a number -/
def _root_.Go.Dk.bit (sv : Nat) (i : Nat) : Bool := sv.testBit i

theorem bit_test (sv j : Nat) (h : sv < 18446744073709551616) : (bits .and .u64 ((sv : Int) / 2 ^ j) 1 == 1) = Dk.bit sv j := by
  have hx : sv / 2 ^ j < 2 ^ 64 := Nat.lt_of_le_of_lt (Nat.div_le_self _ _) (by omega)
  have e : (sv : Int) / 2 ^ j = ((sv / 2 ^ j : Nat) : Int) := by rw [Int.natCast_ediv, Int.natCast_pow]; rfl
  have e2 : Dk.bit sv j = decide (sv / 2 ^ j % 2 = 1) := by unfold Dk.bit; rw [Nat.testBit_eq_decide_div_mod_eq]
  rw [e, e2]
  generalize sv / 2 ^ j = x at hx
  show (IntKind.u64.wrap (((BitVec.ofInt 64 ((x : Nat) : Int)) &&& BitVec.ofInt 64 ((1 : Nat) : Int)).toNat : Int) == 1) = _
  rw [BitVec.ofInt_natCast, BitVec.ofInt_natCast, BitVec.toNat_and, BitVec.toNat_ofNat, BitVec.toNat_ofNat, Nat.mod_eq_of_lt hx, show 1 % 2 ^ 64 = 1 by decide, Nat.and_one_is_mod]
  rcases (show x % 2 = 0 ∨ x % 2 = 1 by omega) with h | h <;> rw [h] <;> decide

set_option maxRecDepth 100000 in
set_option maxHeartbeats 1600000 in
theorem crash_any {A : Nat → Prop} (v : Value) (D : Dk.Dsk) (sv : Nat) (half : Int) (w : World) (hv : DiskAt A w v D) (hD : Dk.Good D) (hsv : sv < 18446744073709551616) :
    Calls Try.prog 26 #[v, .int .u64 sv, .int .i64 half] w fun e w' => ∃ v', e = .returned v' ∧ Below w.heap.size w w' ∧ DiskAt (w.heap.size ≤ ·) w' v' (Dk.crash D (Dk.bit sv) half) := by
  have Hsv := Lib.hid hsv
  clear hsv
  have Hv := Lib.hid hv
  have HD := Lib.hid hD
  obtain ⟨_, _, rfl, ⟨p, cap, vs, rfl, hvs⟩, ⟨p2, cap2, cs, rfl, hcs⟩⟩ := hv
  obtain ⟨n, hn⟩ : ∃ n, D.cells.length = n := ⟨_, rfl⟩
  obtain ⟨m, hm⟩ : ∃ m, D.writes.length = m := ⟨_, rfl⟩
  have hm64 : m ≤ 64 := by rw [← hm]; exact hD.room
  have hn1024 : n ≤ 1024 := by rw [← hn]; exact hD.few
  rw [hn, hm] at Hv
  rw [hn, hm]
  have Hn := Lib.hid hn
  have Hm := Lib.hid hm
  clear hvs hcs hD hn hm
  have Hthere : ∀ w2, Below w.heap.size w w2 → DiskAt A w2 (.agg #[.slice p n cap, .slice p2 m cap2]) D := fun w2 hb => Hv.out.keep (agree_below hb)
  have HT := Lib.hid Hthere
  clear Hthere
  go_enter Try.func26, Try.ntmps26
  go_upto_region 1 with fail
  obtain ⟨w1, hw1, B0, hb1⟩ := fresh_blk w [Value.slice p n cap, Value.slice p2 m cap2] 25
  have hz1 : w1.heap.size = w.heap.size + 1 := by rw [← hw1]; simp
  rw [hw1]
  obtain ⟨w2, hw2, B1, hb2⟩ := fresh_blk w1 [Value.slice none 0 0, Value.slice none 0 0] 25
  have hz2 : w2.heap.size = w.heap.size + 2 := by rw [← hw2]; simp [hz1]
  rw [hw2]
  rw [hz1] at B1
  have B0' := B0.call hb2
  have hb12 := ext_trans hb1 hb2
  have c00 := B0'.cells 0
  have c01 := B0'.cells 1
  have z0 := B0'.lt
  simp only [List.getElem?_cons_zero, List.getElem?_cons_succ] at c00 c01
  clear hw1 hw2 hz1 hb1 hb2 B0
  have Hz2 := Lib.hid hz2
  clear hz2
  go_wp2_with fail
  refine (copy_any (A := A) _ D _ (HT.out _ hb12) HD.out).mono ?_
  rintro e w3 ⟨v3, rfl, hb3, gc, capc, gs, wv, cs2, hC⟩
  obtain ⟨pw, capw, hwv, _⟩ := ownsRow_holds2 hC.own
  rw [Hm.out] at hwv
  subst hwv
  have hval := hC.val
  rw [Hn.out] at hval
  subst hval
  have hb13 := ext_trans hb12 hb3
  have B13 := B1.call hb3
  clear c00 c01 B0' B1 z0
  go_upto_region 2 with fail
  obtain ⟨w4, hw4, B8, hb4⟩ := fresh_blk w3 [Value.slice (some ⟨gc, 0, none⟩) n capc, Value.slice pw m capw] 25
  rw [hw4]
  clear hw4
  have HR0 : Hid (Cr w2.heap.size w3.heap.size D (Dk.bit sv) half gc gs cs2 pw 0 w4) := (hC.cr HD.out.some (Dk.bit sv) half).call hb4
  have HB8 := Lib.hid B8
  have HB1 := Lib.hid (B13.call hb4)
  have Hb := Lib.hid (ext_trans hb13 hb4)
  have HF := Lib.hid (And.intro Hz2.out hb3.size)
  have c80 := B8.cells 0
  have c81 := B8.cells 1
  have z8 := B8.lt
  simp only [List.getElem?_cons_zero, List.getElem?_cons_succ] at c80 c81
  clear hC B8 B13 hb3 hb13 hb4 hb12
  go_wp2_with fail
  clear c80 c81 z8
  go_loopw [15] (fun i wr => ∃ (j : Nat), i = .int .i64 j ∧ Hid (j ≤ m) ∧ Hid (Cr w2.heap.size w3.heap.size D (Dk.bit sv) half gc gs cs2 pw j wr) ∧ Hid (Blk wr w3.heap.size [Value.slice (some ⟨gc, 0, none⟩) n capc, Value.slice pw m capw]) ∧ Hid (Blk wr (w.heap.size + 1) [Value.slice none 0 0, Value.slice none 0 0]) ∧ Hid (Below w.heap.size w wr)) (fun i _ => (m - intOf i).toNat)
  case atStart => exact ⟨0, rfl, Nat.zero_le _, HR0, HB8, HB1, Hb⟩
  case round =>
    obtain ⟨j, rfl, hj, hR, hB8, hB1, hbel⟩ := hrel
    clear HR0 HB8 HB1 Hb
    have hjm := hj.out
    by_cases hj2 : j < m
    · have hd : decide ((j : Int) < (m : Int)) = true := by simp; omega
      have hjl : j < D.writes.length := by rw [Hm.out]; exact hj2
      have hj64 : j < 64 := by omega
      obtain ⟨g4, o4, rfl, hA4, hg4, hc4⟩ := hR.out.wr.at (by rw [hR.out.len, Hm.out]; omega)
      obtain ⟨e1, u, e2, q, c, rfl, hq, hqc⟩ := hR.out.data j D.writes[j].1 D.writes[j].2 (List.getElem?_eq_getElem hjl)
      obtain ⟨hk0, hkn, h64⟩ := HD.out.wr _ (List.getElem_mem hjl)
      obtain ⟨key, hkey⟩ : ∃ key, D.writes[j].1 = key := ⟨_, rfl⟩
      obtain ⟨r, hr⟩ : ∃ r, D.writes[j].2 = r := ⟨_, rfl⟩
      have hrj : D.writes[j]? = some (key, r) := by rw [← hkey, ← hr]; exact List.getElem?_eq_getElem hjl
      rw [hkey] at e1 hk0 hkn
      rw [hr] at hq h64 e2 hqc
      obtain ⟨kn, hkn2⟩ := Int.eq_ofNat_of_zero_le hk0
      subst hkn2
      rw [Hn.out] at hkn
      rw [h64] at hqc
      have d0 : wr.cell? ⟨g4, o4 + j * 2, none⟩ = some (.int .i64 kn) := hc4 _ _ e1
      have d1 : wr.cell? ⟨g4, o4 + j * 2 + 1, none⟩ = some (.slice q 64 c) := by rw [← h64]; exact hc4 _ _ e2
      obtain ⟨gq, oq, rfl, hAq, hgq, hcq⟩ := hq.at (by simp [h64])
      have Hq := Lib.hid hq
      have Hrj := Lib.hid hrj
      have H64 := Lib.hid h64
      have c80 := hB8.out.cells 0
      have c81 := hB8.out.cells 1
      have z8 := hB8.out.lt
      simp only [List.getElem?_cons_zero, List.getElem?_cons_succ] at c80 c81
      have hA4' := Lib.hid hA4
      have hAq' := Lib.hid hAq
      clear e1 e2 hq h64 hrj hr hkey hc4 hcq hA4 hAq
      go_upto_region 5 with fail
      obtain ⟨wy, hwy, Bv, hby⟩ := fresh_blk wr [Value.int IntKind.i64 kn, Value.slice (some ⟨gq, oq, none⟩) 64 c] 42
      rw [hwy]
      have v0 := Bv.cells 0
      have v1 := Bv.cells 1
      have hvy := Bv.lt
      have c80y := cell_keep hby c80
      have c81y := cell_keep hby c81
      have z8y : w3.heap.size < wy.heap.size := Nat.lt_of_lt_of_le z8 hby.size
      simp only [List.getElem?_cons_zero, List.getElem?_cons_succ] at v0 v1
      clear hwy d0 d1 c80 c81 z8
      go_wp2_with fail
      refine (there2_yes _ n _ _ (kn : Int) _ (by omega) hkn).mono ?_
      rintro e wz ⟨rfl, hbz⟩
      have v0z := cell_keep hbz v0
      have v1z := cell_keep hbz v1
      have c80z := cell_keep hbz c80y
      have c81z := cell_keep hbz c81y
      have hbyz := ext_trans hby hbz
      have z8z : w3.heap.size < wz.heap.size := Nat.lt_of_lt_of_le z8y hbz.size
      have hvz : wr.heap.size < wz.heap.size := Nat.lt_of_lt_of_le hvy hbz.size
      clear v0 v1 c80y c81y hby hbz z8y hvy Bv
      have hRz := Lib.hid (hR.out.call hbyz)
      obtain ⟨g, capg, old, hgs, hcg, hold', hl0', hrow', hglt, hglo, hgne, hghi, hgm⟩ := hRz.out.row (kn := kn) (by rw [Hn.out]; omega)
      have Hgs := Lib.hid hgs
      have hold := Lib.hid hold'
      have hl0 := Lib.hid hl0'
      have hrow := Lib.hid hrow'
      have hgcl : gc < wz.heap.size := Nat.lt_of_lt_of_le hRz.out.top.2.1 hRz.out.top.2.2
      have hF := HF.out
      clear hgs hold' hl0' hrow' hgm
      by_cases hh : (j : Int) = half
      · subst hh
        go_upto_region 7 with fail
        have hsl := fun w : World => slice_to (P := Try.prog) w 27 5 1 (.int .u8 0) Try.underlying27 rfl (by kernel_rfl) gq oq 64 c 32 (by omega)
        rw [show ((32 : Nat) : Int) = 32 from rfl] at hsl
        refine Lx.region Lx.below_steps [(0, true), (1, true), (2, true), (3, true), (4, true), (5, true), (6, true), (7, true), (8, true), (9, true), (10, true), (11, true), (12, true)] [(13, false)] (fun w' => (∀ b o, b < wz.heap.size → w'.cell? ⟨b, o, none⟩ = wz.cell? ⟨b, o, none⟩) ∧ (∀ b o, b < wz.heap.size → w'.frozen? ⟨b, o, none⟩ = wz.frozen? ⟨b, o, none⟩) ∧ Below wz.heap.size wz w') (by kernel_rfl) (by kernel_rfl) (fun _ _ _ _ _ h => h) (fun _ h => held_below h) (fun _ _ h hb => held_call h hb) ?_; intro xa hbxa; replace hbxa : Below wz.heap.size wz xa := hbxa; simp only [Lx.pick, List.filterMap_cons, List.filterMap_nil, List.getElem?_cons_succ, List.getElem?_cons_zero, List.map_cons, List.map_nil]; have hSxa := held_below hbxa
        repeat (first | (refine Lx.takeY ?_ (by rfl) ?_ (by assumption) ?_; rotate_left; (focus (intro w' hSw; (try dsimp only at hSw); go_simp; (try with_reducible rfl))); simp only [Act.put, List.setIfInBounds_toArray, List.set_cons_zero, List.set_cons_succ]) | (refine Lx.takeN (by rfl) (by assumption) ?_; simp only [Act.put, List.setIfInBounds_toArray, List.set_cons_zero, List.set_cons_succ]))
        have hRx := hRz.out.call hbxa
        obtain ⟨xb, hcp, hrow2, hbg, hzx, hag⟩ := copy_rows (P := Try.prog) (A := fun b => w2.heap.size ≤ b ∧ b ∉ gs ∧ b ≠ gc) 27 27 3 5 Try.underlying27 (by kernel_rfl) (dLen := 64) (dCap := capg) (n := 32) (cap := c) (hrow.out.below hbxa hglt) (by rw [List.length_map]; exact hl0.out.symm) (by have := (Hq.out.keep (agree_below (ext_trans hbyz hbxa))).part 0 32; rw [Nat.add_zero, List.drop_zero, ← List.map_take] at this; exact this) (by simp [H64.out]) (by omega) (bytes_one _)
        have Hrow2 := Lib.hid hrow2
        have Hag := Lib.hid hag
        have Hbg := Lib.hid hbg
        have hb8 := (hB8.out.call (ext_trans hbyz hbxa)).keep hag (by omega) (by omega)
        have hb1 := (hB1.out.call (ext_trans hbyz hbxa)).keep hag (by omega) (by omega)
        have hbel2 : Below w.heap.size w xb := ((hbel.out.trans ((ext_trans hbyz hbxa).mono hbel.out.size)).trans (hbg.mono (by omega)))
        have HX := Lib.hid (And.intro hRx (And.intro hb8 (And.intro hb1 hbel2)))
        clear hrow2 hag hbg hb8 hb1 hbel2 hRx hSxa hbxa v0z v1z c80z c81z
        refine Lx.tail ?_
        go_wp2_with fail
        go_roundw
        case rel =>
          refine ⟨j + 1, by simp, hj2, HX.out.1.turn (r2 := Dk.half r old) Hrj.out ?_ Hgs.out Hag.out hzx ?_ ?_, HX.out.2.1, HX.out.2.2.1, HX.out.2.2.2⟩
          · unfold Dk.one
            rw [if_pos rfl]; show List.set _ (Int.toNat (kn : Int)) (Dk.half r (List.getD _ (Int.toNat (kn : Int)) [])) = _; rw [Int.toNat_natCast, hold.out]
          · have := Hrow2.out
            rw [← List.map_drop, ← List.map_append] at this; exact this
          · exact Dk.half_length H64.out hl0.out
        case measure => simp [intOf]; omega
      · have hhb : ((j : Int) == half) = false := by simpa using hh
        have Hh := Lib.hid hh
        clear hh
        have hbt := bit_test sv j Hsv.out
        by_cases hbit' : Dk.bit sv j = true
        · have hbit := Lib.hid hbit'
          rw [hbit'] at hbt
          clear hbit'
          go_upto_region 9 with fail
          clear hbt
          refine Lx.region Lx.below_steps [(0, true), (1, true), (2, true), (3, true), (4, true), (5, true), (6, true), (7, true)] [(8, false)] (fun w' => (∀ b o, b < wz.heap.size → w'.cell? ⟨b, o, none⟩ = wz.cell? ⟨b, o, none⟩) ∧ (∀ b o, b < wz.heap.size → w'.frozen? ⟨b, o, none⟩ = wz.frozen? ⟨b, o, none⟩) ∧ Below wz.heap.size wz w') (by kernel_rfl) (by kernel_rfl) (fun _ _ _ _ _ h => h) (fun _ h => held_below h) (fun _ _ h hb => held_call h hb) ?_; intro xa hbxa; replace hbxa : Below wz.heap.size wz xa := hbxa; simp only [Lx.pick, List.filterMap_cons, List.filterMap_nil, List.getElem?_cons_succ, List.getElem?_cons_zero, List.map_cons, List.map_nil]; have hSxa := held_below hbxa
          repeat (first | (refine Lx.takeY ?_ (by rfl) ?_ (by assumption) ?_; rotate_left; (focus (intro w' hSw; (try dsimp only at hSw); go_simp; (try with_reducible rfl))); simp only [Act.put, List.setIfInBounds_toArray, List.set_cons_zero, List.set_cons_succ]) | (refine Lx.takeN (by rfl) (by assumption) ?_; simp only [Act.put, List.setIfInBounds_toArray, List.set_cons_zero, List.set_cons_succ]))
          have hRx := hRz.out.call hbxa
          obtain ⟨xb, hcp, hrow2, hbg, hzx, hag⟩ := copy_rows (P := Try.prog) (A := fun b => w2.heap.size ≤ b ∧ b ∉ gs ∧ b ≠ gc) 27 27 3 5 Try.underlying27 (by kernel_rfl) (dLen := 64) (dCap := capg) (n := 64) (cap := c) (hrow.out.below hbxa hglt) (by rw [List.length_map]; exact hl0.out.symm) (Hq.out.keep (agree_below (ext_trans hbyz hbxa))) (by simp [H64.out]) (by omega) (bytes_one _)
          have Hrow2 := Lib.hid hrow2
          have Hag := Lib.hid hag
          have Hbg := Lib.hid hbg
          have hb8 := (hB8.out.call (ext_trans hbyz hbxa)).keep hag (by omega) (by omega)
          have hb1 := (hB1.out.call (ext_trans hbyz hbxa)).keep hag (by omega) (by omega)
          have hbel2 : Below w.heap.size w xb := ((hbel.out.trans ((ext_trans hbyz hbxa).mono hbel.out.size)).trans (hbg.mono (by omega)))
          have HX := Lib.hid (And.intro hRx (And.intro hb8 (And.intro hb1 hbel2)))
          clear hrow2 hag hbg hb8 hb1 hbel2 hRx hSxa hbxa v0z v1z c80z c81z
          refine Lx.tail ?_
          go_wp2_with fail
          go_roundw
          case rel =>
            refine ⟨j + 1, by simp, hj2, HX.out.1.turn (r2 := r) Hrj.out ?_ Hgs.out Hag.out hzx ?_ ?_, HX.out.2.1, HX.out.2.2.1, HX.out.2.2.2⟩
            · unfold Dk.one
              rw [if_neg Hh.out, if_pos hbit.out]; rfl
            · have := Hrow2.out
              rw [List.drop_of_length_le (by rw [List.length_map, hl0.out]; omega), List.append_nil] at this; exact this
            · exact H64.out
          case measure => simp [intOf]; omega
        · have hbit'' : Dk.bit sv j = false := by simpa using hbit'
          have hbit := Lib.hid hbit''
          rw [hbit''] at hbt
          clear hbit' hbit''
          have HX := Lib.hid (And.intro (hRz.out.skip Hrj.out Hh.out hbit.out) (And.intro (hB8.out.call hbyz) (And.intro (hB1.out.call hbyz) (hbel.out.trans (hbyz.mono hbel.out.size)))))
          go_wp2_with fail
          go_roundw
          case rel => exact ⟨j + 1, by simp, hj2, HX.out.1, HX.out.2.1, HX.out.2.2.1, HX.out.2.2.2⟩
          case measure => simp [intOf]; omega
    · have hd : decide ((j : Int) < (m : Int)) = false := by simp; omega
      have hjm2 : j = m := by omega
      subst hjm2
      have hF := HF.out
      have c80 := hB8.out.cells 0
      have c81 := hB8.out.cells 1
      have f81 := hB8.out.frozen 1
      have z8 := hB8.out.lt
      have c10 := hB1.out.cells 0
      have c11 := hB1.out.cells 1
      have f10 := hB1.out.frozen 0
      have f11 := hB1.out.frozen 1
      have z1 := hB1.out.lt
      have hne8 : w3.heap.size ≠ w.heap.size + 1 := by omega
      have hne8' : w.heap.size + 1 ≠ w3.heap.size := by omega
      simp only [List.getElem?_cons_zero, List.getElem?_cons_succ] at c80 c81 c10 c11
      clear hF
      go_wp2_with fail
      refine bodyPost_ret (v := .agg #[.slice (some ⟨gc, 0, none⟩) n capc, .slice none 0 0]) (by simp [results, Try.results26, go_sem, c10, c11, hne8, hne8']) rfl ?_
      have hF := HF.out
      have hk : Agree (fun b => ¬ (b = w3.heap.size ∨ b = w.heap.size + 1)) wr (((wr.setCell ⟨w3.heap.size, 1, none⟩ (.slice none 0 0)).setCell ⟨w.heap.size + 1, 0, none⟩ (.slice (some ⟨gc, 0, none⟩) n capc)).setCell ⟨w.heap.size + 1, 1, none⟩ (.slice none 0 0)) :=
        (((agree_at wr _ _ _).mono fun b hb => fun e => hb (.inl e)).trans (by simp [World.setCell]) ((agree_at _ _ _ _).mono fun b hb => fun e => hb (.inr e))).trans (by simp [World.setCell]) ((agree_at _ _ _ _).mono fun b hb => fun e => hb (.inr e))
      have ht := hR.out.tab
      rw [List.take_of_length_le (by rw [Hm.out]; omega)] at ht
      have ht2 := ht.keep hk (by simp [World.setCell]) ⟨by have := hR.out.top.2.1; have := ht.low.1; omega, fun g hg => by have := hR.out.top.1 g hg; have := ht.low.2 g hg; omega⟩
      refine ⟨_, rfl, ((hbel.out.setCell (by show _ ≤ w3.heap.size; omega) _).setCell (by simp) _).setCell (by simp) _, _, _, rfl, ht2.cells (by rw [Dk.many_length]; exact Hn.out) (fun g hg => by omega), none, 0, [], rfl, .inl rfl, rfl, by simp [Dk.crash], Nat.le_refl _⟩
end Go.Proofs.Ythpjhmgmjfmgcaa
/- Sync of disks: the program's. -/
namespace Go.Proofs.Ythpjhmgmjfmgcaa
open Go.ChangeShapes Go.WideShapes Go.RowKit

set_option maxRecDepth 100000 in
set_option maxHeartbeats 1600000 in
theorem sync_any {A : Nat → Prop} (v : Value) (D : Dk.Dsk) (w : World) (hv : DiskAt A w v D) (hD : Dk.Good D) :
    Calls Try.prog 24 #[v] w fun e w' => ∃ v', e = .returned v' ∧ Below w.heap.size w w' ∧ DiskAt (w.heap.size ≤ ·) w' v' (Dk.sync D) := by
  have Hv := Lib.hid hv
  have HD := Lib.hid hD
  obtain ⟨_, _, rfl, ⟨p, cap, vs, rfl, hvs⟩, ⟨p2, cap2, cs, rfl, hcs⟩⟩ := hv
  obtain ⟨n, hn⟩ : ∃ n, D.cells.length = n := ⟨_, rfl⟩
  obtain ⟨m, hm⟩ : ∃ m, D.writes.length = m := ⟨_, rfl⟩
  have hm64 : m ≤ 64 := by rw [← hm]; exact hD.room
  have hn1024 : n ≤ 1024 := by rw [← hn]; exact hD.few
  rw [hn, hm] at Hv
  rw [hn, hm]
  have Hn := Lib.hid hn
  have Hm := Lib.hid hm
  clear hvs hcs hD hn hm
  have Hthere : ∀ w2, Below w.heap.size w w2 → DiskAt A w2 (.agg #[.slice p n cap, .slice p2 m cap2]) D := fun w2 hb => Hv.out.keep (agree_below hb)
  have HT := Lib.hid Hthere
  clear Hthere
  go_enter Try.func24, Try.ntmps24
  go_upto_region 1 with fail
  obtain ⟨w1, hw1, B0, hb1⟩ := fresh_blk w [Value.slice p n cap, Value.slice p2 m cap2] 25
  have hz1 : w1.heap.size = w.heap.size + 1 := by rw [← hw1]; simp
  rw [hw1]
  obtain ⟨w2, hw2, B1, hb2⟩ := fresh_blk w1 [Value.slice none 0 0, Value.slice none 0 0] 25
  have hz2 : w2.heap.size = w.heap.size + 2 := by rw [← hw2]; simp [hz1]
  rw [hw2]
  rw [hz1] at B1
  have B0' := B0.call hb2
  have hb12 := ext_trans hb1 hb2
  have c00 := B0'.cells 0
  have c01 := B0'.cells 1
  have z0 := B0'.lt
  simp only [List.getElem?_cons_zero, List.getElem?_cons_succ] at c00 c01
  clear hw1 hw2 hz1 hb1 hb2 B0
  have Hz2 := Lib.hid hz2
  clear hz2
  go_wp2_with fail
  refine (copy_any (A := A) _ D _ (HT.out _ hb12) HD.out).mono ?_
  rintro e w3 ⟨v3, rfl, hb3, gc, capc, gs, wv, cs2, hC⟩
  obtain ⟨pw, capw, hwv, _⟩ := ownsRow_holds2 hC.own
  rw [Hm.out] at hwv
  subst hwv
  have hval := hC.val
  rw [Hn.out] at hval
  subst hval
  have hb13 := ext_trans hb12 hb3
  have B13 := B1.call hb3
  clear c00 c01 B0' B1 z0
  go_upto_region 2 with fail
  obtain ⟨w4, hw4, B8, hb4⟩ := fresh_blk w3 [Value.slice (some ⟨gc, 0, none⟩) n capc, Value.slice pw m capw] 25
  rw [hw4]
  clear hw4
  have HR0 : Hid (Cr w2.heap.size w3.heap.size D (fun _ => true) (-1) gc gs cs2 pw 0 w4) := (hC.cr HD.out.some (fun _ => true) (-1)).call hb4
  have HB8 := Lib.hid B8
  have HB1 := Lib.hid (B13.call hb4)
  have Hb := Lib.hid (ext_trans hb13 hb4)
  have HF := Lib.hid (And.intro Hz2.out hb3.size)
  have c80 := B8.cells 0
  have c81 := B8.cells 1
  have z8 := B8.lt
  simp only [List.getElem?_cons_zero, List.getElem?_cons_succ] at c80 c81
  clear hC B8 B13 hb3 hb13 hb4 hb12
  go_wp2_with fail
  clear c80 c81 z8
  go_loopw [11] (fun i wr => ∃ (j : Nat), i = .int .i64 j ∧ Hid (j ≤ m) ∧ Hid (Cr w2.heap.size w3.heap.size D (fun _ => true) (-1) gc gs cs2 pw j wr) ∧ Hid (Blk wr w3.heap.size [Value.slice (some ⟨gc, 0, none⟩) n capc, Value.slice pw m capw]) ∧ Hid (Blk wr (w.heap.size + 1) [Value.slice none 0 0, Value.slice none 0 0]) ∧ Hid (Below w.heap.size w wr)) (fun i _ => (m - intOf i).toNat)
  case atStart => exact ⟨0, rfl, Nat.zero_le _, HR0, HB8, HB1, Hb⟩
  case round =>
    obtain ⟨j, rfl, hj, hR, hB8, hB1, hbel⟩ := hrel
    clear HR0 HB8 HB1 Hb
    have hjm := hj.out
    by_cases hj2 : j < m
    · have hd : decide ((j : Int) < (m : Int)) = true := by simp; omega
      have hjl : j < D.writes.length := by rw [Hm.out]; exact hj2
      have hj64 : j < 64 := by omega
      obtain ⟨g4, o4, rfl, hA4, hg4, hc4⟩ := hR.out.wr.at (by rw [hR.out.len, Hm.out]; omega)
      obtain ⟨e1, u, e2, q, c, rfl, hq, hqc⟩ := hR.out.data j D.writes[j].1 D.writes[j].2 (List.getElem?_eq_getElem hjl)
      obtain ⟨hk0, hkn, h64⟩ := HD.out.wr _ (List.getElem_mem hjl)
      obtain ⟨key, hkey⟩ : ∃ key, D.writes[j].1 = key := ⟨_, rfl⟩
      obtain ⟨r, hr⟩ : ∃ r, D.writes[j].2 = r := ⟨_, rfl⟩
      have hrj : D.writes[j]? = some (key, r) := by rw [← hkey, ← hr]; exact List.getElem?_eq_getElem hjl
      rw [hkey] at e1 hk0 hkn
      rw [hr] at hq h64 e2 hqc
      obtain ⟨kn, hkn2⟩ := Int.eq_ofNat_of_zero_le hk0
      subst hkn2
      rw [Hn.out] at hkn
      rw [h64] at hqc
      have d0 : wr.cell? ⟨g4, o4 + j * 2, none⟩ = some (.int .i64 kn) := hc4 _ _ e1
      have d1 : wr.cell? ⟨g4, o4 + j * 2 + 1, none⟩ = some (.slice q 64 c) := by rw [← h64]; exact hc4 _ _ e2
      obtain ⟨gq, oq, rfl, hAq, hgq, hcq⟩ := hq.at (by simp [h64])
      have Hq := Lib.hid hq
      have Hrj := Lib.hid hrj
      have H64 := Lib.hid h64
      have c80 := hB8.out.cells 0
      have c81 := hB8.out.cells 1
      have z8 := hB8.out.lt
      simp only [List.getElem?_cons_zero, List.getElem?_cons_succ] at c80 c81
      have hA4' := Lib.hid hA4
      have hAq' := Lib.hid hAq
      clear e1 e2 hq h64 hrj hr hkey hc4 hcq hA4 hAq
      go_upto_region 5 with fail
      obtain ⟨wy, hwy, Bv, hby⟩ := fresh_blk wr [Value.int IntKind.i64 kn, Value.slice (some ⟨gq, oq, none⟩) 64 c] 42
      rw [hwy]
      have v0 := Bv.cells 0
      have v1 := Bv.cells 1
      have hvy := Bv.lt
      have c80y := cell_keep hby c80
      have c81y := cell_keep hby c81
      have z8y : w3.heap.size < wy.heap.size := Nat.lt_of_lt_of_le z8 hby.size
      simp only [List.getElem?_cons_zero, List.getElem?_cons_succ] at v0 v1
      clear hwy d0 d1 c80 c81 z8
      go_wp2_with fail
      refine (there2_yes _ n _ _ (kn : Int) _ (by omega) hkn).mono ?_
      rintro e wz ⟨rfl, hbz⟩
      have v0z := cell_keep hbz v0
      have v1z := cell_keep hbz v1
      have c80z := cell_keep hbz c80y
      have c81z := cell_keep hbz c81y
      have hbyz := ext_trans hby hbz
      have z8z : w3.heap.size < wz.heap.size := Nat.lt_of_lt_of_le z8y hbz.size
      have hvz : wr.heap.size < wz.heap.size := Nat.lt_of_lt_of_le hvy hbz.size
      clear v0 v1 c80y c81y hby hbz z8y hvy Bv
      have hRz := Lib.hid (hR.out.call hbyz)
      obtain ⟨g, capg, old, hgs, hcg, hold', hl0', hrow', hglt, hglo, hgne, hghi, hgm⟩ := hRz.out.row (kn := kn) (by rw [Hn.out]; omega)
      have Hgs := Lib.hid hgs
      have hold := Lib.hid hold'
      have hl0 := Lib.hid hl0'
      have hrow := Lib.hid hrow'
      have hgcl : gc < wz.heap.size := Nat.lt_of_lt_of_le hRz.out.top.2.1 hRz.out.top.2.2
      have hF := HF.out
      clear hgs hold' hl0' hrow' hgm
      go_upto_region 6 with fail
      refine Lx.region Lx.below_steps [(0, true), (1, true), (2, true), (3, true), (4, true), (5, true), (6, true), (7, true)] [(8, false)] (fun w' => (∀ b o, b < wz.heap.size → w'.cell? ⟨b, o, none⟩ = wz.cell? ⟨b, o, none⟩) ∧ (∀ b o, b < wz.heap.size → w'.frozen? ⟨b, o, none⟩ = wz.frozen? ⟨b, o, none⟩) ∧ Below wz.heap.size wz w') (by kernel_rfl) (by kernel_rfl) (fun _ _ _ _ _ h => h) (fun _ h => held_below h) (fun _ _ h hb => held_call h hb) ?_; intro xa hbxa; replace hbxa : Below wz.heap.size wz xa := hbxa; simp only [Lx.pick, List.filterMap_cons, List.filterMap_nil, List.getElem?_cons_succ, List.getElem?_cons_zero, List.map_cons, List.map_nil]; have hSxa := held_below hbxa
      repeat (first | (refine Lx.takeY ?_ (by rfl) ?_ (by assumption) ?_; rotate_left; (focus (intro w' hSw; (try dsimp only at hSw); go_simp; (try with_reducible rfl))); simp only [Act.put, List.setIfInBounds_toArray, List.set_cons_zero, List.set_cons_succ]) | (refine Lx.takeN (by rfl) (by assumption) ?_; simp only [Act.put, List.setIfInBounds_toArray, List.set_cons_zero, List.set_cons_succ]))
      have hRx := hRz.out.call hbxa
      obtain ⟨xb, hcp, hrow2, hbg, hzx, hag⟩ := copy_rows (P := Try.prog) (A := fun b => w2.heap.size ≤ b ∧ b ∉ gs ∧ b ≠ gc) 27 27 3 5 Try.underlying27 (by kernel_rfl) (dLen := 64) (dCap := capg) (n := 64) (cap := c) (hrow.out.below hbxa hglt) (by rw [List.length_map]; exact hl0.out.symm) (Hq.out.keep (agree_below (ext_trans hbyz hbxa))) (by simp [H64.out]) (by omega) (bytes_one _)
      have Hrow2 := Lib.hid hrow2
      have Hag := Lib.hid hag
      have Hbg := Lib.hid hbg
      have hb8 := (hB8.out.call (ext_trans hbyz hbxa)).keep hag (by omega) (by omega)
      have hb1 := (hB1.out.call (ext_trans hbyz hbxa)).keep hag (by omega) (by omega)
      have hbel2 : Below w.heap.size w xb := ((hbel.out.trans ((ext_trans hbyz hbxa).mono hbel.out.size)).trans (hbg.mono (by omega)))
      have HX := Lib.hid (And.intro hRx (And.intro hb8 (And.intro hb1 hbel2)))
      clear hrow2 hag hbg hb8 hb1 hbel2 hRx hSxa hbxa v0z v1z c80z c81z
      refine Lx.tail ?_
      go_wp2_with fail
      go_roundw
      case rel =>
        refine ⟨j + 1, by simp, hj2, HX.out.1.turn (r2 := r) Hrj.out ?_ Hgs.out Hag.out hzx ?_ ?_, HX.out.2.1, HX.out.2.2.1, HX.out.2.2.2⟩
        · unfold Dk.one
          rw [if_neg (by omega), if_pos rfl]; rfl
        · have := Hrow2.out
          rw [List.drop_of_length_le (by rw [List.length_map, hl0.out]; omega), List.append_nil] at this; exact this
        · exact H64.out
      case measure => simp [intOf]; omega
    · have hd : decide ((j : Int) < (m : Int)) = false := by simp; omega
      have hjm2 : j = m := by omega
      subst hjm2
      have hF := HF.out
      have c80 := hB8.out.cells 0
      have c81 := hB8.out.cells 1
      have f81 := hB8.out.frozen 1
      have z8 := hB8.out.lt
      have c10 := hB1.out.cells 0
      have c11 := hB1.out.cells 1
      have f10 := hB1.out.frozen 0
      have f11 := hB1.out.frozen 1
      have z1 := hB1.out.lt
      have hne8 : w3.heap.size ≠ w.heap.size + 1 := by omega
      have hne8' : w.heap.size + 1 ≠ w3.heap.size := by omega
      simp only [List.getElem?_cons_zero, List.getElem?_cons_succ] at c80 c81 c10 c11
      clear hF
      go_wp2_with fail
      refine bodyPost_ret (v := .agg #[.slice (some ⟨gc, 0, none⟩) n capc, .slice none 0 0]) (by simp [results, Try.results24, go_sem, c10, c11, hne8, hne8']) rfl ?_
      have hF := HF.out
      have hk : Agree (fun b => ¬ (b = w3.heap.size ∨ b = w.heap.size + 1)) wr (((wr.setCell ⟨w3.heap.size, 1, none⟩ (.slice none 0 0)).setCell ⟨w.heap.size + 1, 0, none⟩ (.slice (some ⟨gc, 0, none⟩) n capc)).setCell ⟨w.heap.size + 1, 1, none⟩ (.slice none 0 0)) :=
        (((agree_at wr _ _ _).mono fun b hb => fun e => hb (.inl e)).trans (by simp [World.setCell]) ((agree_at _ _ _ _).mono fun b hb => fun e => hb (.inr e))).trans (by simp [World.setCell]) ((agree_at _ _ _ _).mono fun b hb => fun e => hb (.inr e))
      have ht := hR.out.tab
      rw [List.take_of_length_le (by rw [Hm.out]; omega)] at ht
      have ht2 := ht.keep hk (by simp [World.setCell]) ⟨by have := hR.out.top.2.1; have := ht.low.1; omega, fun g hg => by have := hR.out.top.1 g hg; have := ht.low.2 g hg; omega⟩
      refine ⟨_, rfl, ((hbel.out.setCell (by show _ ≤ w3.heap.size; omega) _).setCell (by simp) _).setCell (by simp) _, _, _, rfl, ht2.cells (by rw [Dk.many_length]; exact Hn.out) (fun g hg => by omega), none, 0, [], rfl, .inl rfl, rfl, by simp [Dk.sync, Dk.crash], Nat.le_refl _⟩
end Go.Proofs.Ythpjhmgmjfmgcaa
/- Disks whose sectors may be written by the one that has them; a byte that is written. -/
namespace Go.Proofs.Ythpjhmgmjfmgcaa
open Go.ChangeShapes Go.WideShapes Go.RowKit

/-- the rows of some cells are not frozen -/
def Thaw (w : World) (cv : Value) : Prop := ∀ (g o n c : Nat), cv = .slice (some ⟨g, o, none⟩) n c → ∀ i, i < n → ∀ (q oq m cc : Nat), w.cell? ⟨g, o + i, none⟩ = some (.slice (some ⟨q, oq, none⟩) m cc) → ∀ j, j < m → w.frozen? ⟨q, oq + j, none⟩ = false
structure TDisk (A : Nat → Prop) (w : World) (v : Value) (D : Dk.Dsk) : Prop where
  disk : DiskAt A w v D
  thaw : ∀ cv wv, v = .agg #[cv, wv] → Thaw w cv

theorem CellsAt.at {A : Nat → Prop} {w : World} {cv : Value} {rows : List Dk.Row} (h : CellsAt A w cv rows) {g o n c : Nat} (hv : cv = .slice (some ⟨g, o, none⟩) n c) {i : Nat} (hi : i < n) :
    A g ∧ g < w.heap.size ∧ ∃ q cc r, rows[i]? = some r ∧ w.cell? ⟨g, o + i, none⟩ = some (.slice q r.length cc) ∧ Holds A w q (r.map byteVal) := by
  obtain ⟨p, cap, vs, hv2, hh, hl, hr⟩ := h
  rw [hv] at hv2
  simp only [Value.slice.injEq] at hv2
  obtain ⟨rfl, rfl, rfl⟩ := hv2
  obtain ⟨g2, o2, hp, hA, hlt, hc⟩ := hh.at (by omega)
  simp only [Option.some.injEq, Addr.mk.injEq, and_true] at hp
  obtain ⟨rfl, rfl⟩ := hp
  obtain ⟨u, hu, p2, c2, rfl, hb, _⟩ := hr i rows[i] (List.getElem?_eq_getElem hi)
  exact ⟨hA, hlt, p2, c2, rows[i], List.getElem?_eq_getElem hi, hc i _ hu, hb⟩
theorem TDisk.keep {A : Nat → Prop} {w w' : World} {v : Value} {D : Dk.Dsk} (h : TDisk A w v D) (hk : Agree A w w') : TDisk A w' v D := by
  refine ⟨h.disk.keep hk, fun cv wv hv g o n c hcv i hi q oq m cc hcell j hj => ?_⟩
  obtain ⟨cv2, wv2, hv2, hcells, _⟩ := h.disk
  rw [hv] at hv2
  simp only [Value.agg.injEq, Array.mk.injEq, List.cons.injEq, and_true] at hv2
  obtain ⟨rfl, rfl⟩ := hv2
  obtain ⟨hA, hlt, q2, cc2, r, hr, hc, hh⟩ := hcells.at hcv hi
  rw [World.cell?_of_block (w := w) (hk g hA hlt)] at hcell
  have hc2 := hcell
  rw [hc] at hcell
  simp only [Option.some.injEq, Value.slice.injEq] at hcell
  obtain ⟨rfl, rfl, rfl⟩ := hcell
  obtain ⟨g3, o3, hp, hA3, hlt3, _⟩ := hh.at (by rw [List.length_map]; omega)
  simp only [Option.some.injEq, Addr.mk.injEq, and_true] at hp
  obtain ⟨rfl, rfl⟩ := hp
  rw [World.frozen?_of_block (w := w) (hk _ hA3 hlt3)]
  exact h.thaw cv wv hv g o n c hcv i hi _ _ _ _ hc2 j hj
theorem TDisk.mono {A B : Nat → Prop} {w : World} {v : Value} {D : Dk.Dsk} (h : TDisk A w v D) (hk : ∀ g, A g → B g) : TDisk B w v D := ⟨h.disk.mono hk, h.thaw⟩
theorem Tab.thaw {lo : Nat} {w : World} {gc n cap : Nat} {gs : List Nat} {rows : List Dk.Row} (h : Tab lo w gc gs rows) (hn : rows.length = n) : Thaw w (.slice (some ⟨gc, 0, none⟩) n cap) := by
  subst hn
  intro g o n c hv i hi q oq m cc hcell j hj
  simp only [Value.slice.injEq, Option.some.injEq, Addr.mk.injEq, and_true] at hv
  obtain ⟨⟨rfl, rfl⟩, rfl, rfl⟩ := hv
  have hig : i < gs.length := by rw [h.len]; exact hi
  obtain ⟨cap2, hc, _⟩ := h.cell i gs[i] (List.getElem?_eq_getElem hig)
  rw [Nat.zero_add, hc] at hcell
  simp only [Option.some.injEq, Value.slice.injEq, Addr.mk.injEq, and_true] at hcell
  obtain ⟨⟨rfl, rfl⟩, rfl, rfl⟩ := hcell
  obtain ⟨h64, hrow⟩ := h.row i gs[i] rows[i] (List.getElem?_eq_getElem hig) (List.getElem?_eq_getElem hi)
  rw [Nat.zero_add]
  exact hrow.2 j (by rw [List.length_map]; omega)
theorem CopyOf.tdisk {lo : Nat} {w : World} {v : Value} {D : Dk.Dsk} (h : CopyOf lo w v D) : TDisk (lo ≤ ·) w v D := by
  refine ⟨h.disk, fun cv wv hv => ?_⟩
  obtain ⟨gc, cap, gs, wv2, cs, hC⟩ := h
  have hval := hC.val
  rw [hv] at hval
  simp only [Value.agg.injEq, Array.mk.injEq, List.cons.injEq, and_true] at hval
  obtain ⟨rfl, rfl⟩ := hval
  exact hC.tab.thaw rfl

/-- a byte is written -/
theorem Holds.byte {A : Nat → Prop} {w : World} {p : Option Addr} {bs : List UInt8} (h : Holds A w p (bs.map byteVal)) (q j : Nat) (b : UInt8) : ∃ bs' : List UInt8, bs'.length = bs.length ∧ Holds A (w.setCell ⟨q, j, none⟩ (byteVal b)) p (bs'.map byteVal) := by
  rcases h with h | ⟨g, off, hp, hA, hc⟩
  · exact ⟨bs, rfl, .inl h⟩
  · by_cases hq : g = q ∧ off ≤ j
    · obtain ⟨rfl, hle⟩ := hq
      refine ⟨bs.set (j - off) b, List.length_set, .inr ⟨g, off, hp, hA, fun i c hi => ?_⟩⟩
      rw [List.map_set] at hi
      by_cases hij : off + i = j
      · have hi' : i = j - off := by omega
        subst hi'
        have hlt := (List.getElem?_eq_some_iff.1 hi).1
        rw [List.length_set] at hlt
        rw [List.getElem?_set_self hlt] at hi
        injection hi with hi
        subst hi
        rw [hij]
        refine World.cell?_setCell_same w _ _ (u := (bs.map byteVal)[j - off]) ?_
        have := hc (j - off) _ (List.getElem?_eq_getElem hlt)
        rwa [show off + (j - off) = j by omega] at this
      · rw [List.getElem?_set_ne (by omega)] at hi
        rw [World.cell?_setCell_other (h := fun e => hij (by injection e with e1 e2; omega))]
        exact hc i c hi
    · refine ⟨bs, rfl, .inr ⟨g, off, hp, hA, fun i c hi => ?_⟩⟩
      rw [World.cell?_setCell_other (h := fun e => hq (by injection e with e1 e2; exact ⟨e1.symm, by omega⟩))]
      exact hc i c hi
theorem BRow.byte {A : Nat → Prop} {w : World} {v : Value} {bs : List UInt8} (h : BRow A w v bs) (q j : Nat) (b : UInt8) : ∃ bs' : List UInt8, bs'.length = bs.length ∧ BRow A (w.setCell ⟨q, j, none⟩ (byteVal b)) v bs' := by
  obtain ⟨p, cap, rfl, hh, hc⟩ := h
  obtain ⟨bs', hl, hh'⟩ := hh.byte q j b
  exact ⟨bs', hl, p, cap, by rw [hl], hh', by rw [hl]; exact hc⟩
/-- cells that hold no bytes stay -/
theorem Holds.stay {A : Nat → Prop} {w : World} {p : Option Addr} {cs : List Value} (h : Holds A w p cs) (q j : Nat) (b b0 : UInt8) (hq : w.cell? ⟨q, j, none⟩ = some (byteVal b0)) (hn : ∀ c ∈ cs, ∀ x, c ≠ byteVal x) : Holds A (w.setCell ⟨q, j, none⟩ (byteVal b)) p cs := by
  rcases h with h | ⟨g, off, hp, hA, hc⟩
  · exact .inl h
  · refine .inr ⟨g, off, hp, hA, fun i c hi => ?_⟩
    rw [World.cell?_setCell_other (h := fun e => ?_)]
    · exact hc i c hi
    · have := hc i c hi
      rw [← e, hq] at this
      injection this with this
      exact hn c (List.mem_of_getElem? hi) b0 this.symm
theorem DiskAt.byte {A : Nat → Prop} {w : World} {v : Value} {D : Dk.Dsk} (h : DiskAt A w v D) (hG : Dk.Good D) (q j : Nat) (b b0 : UInt8) (hq : w.cell? ⟨q, j, none⟩ = some (byteVal b0)) :
    ∃ E : Dk.Dsk, Dk.Good E ∧ E.cells.length = D.cells.length ∧ E.writes.length = D.writes.length ∧ DiskAt A (w.setCell ⟨q, j, none⟩ (byteVal b)) v E := by
  obtain ⟨cv, wv, rfl, ⟨p, cap, vs, rfl, hh, hl, hr⟩, ⟨p2, cap2, cs, rfl, hh2, hl2, hr2, hc2⟩⟩ := h
  have hrow : ∀ i : Fin D.cells.length, ∃ r' : Dk.Row, r'.length = D.cells[i].length ∧ ∃ u : Value, vs[i.1]? = some u ∧ BRow A (w.setCell ⟨q, j, none⟩ (byteVal b)) u r' := by
    intro i
    obtain ⟨u, hu, hb⟩ := hr i.1 D.cells[i] (List.getElem?_eq_getElem i.2)
    obtain ⟨r', h1, h2⟩ := hb.byte q j b
    exact ⟨r', h1, u, hu, h2⟩
  obtain ⟨F, hF⟩ := Classical.axiomOfChoice hrow
  have hwr : ∀ i : Fin D.writes.length, ∃ r' : Dk.Row, r'.length = D.writes[i].2.length ∧ cs[i.1 * 2]? = some (.int .i64 D.writes[i].1) ∧ ∃ u : Value, cs[i.1 * 2 + 1]? = some u ∧ BRow A (w.setCell ⟨q, j, none⟩ (byteVal b)) u r' := by
    intro i
    obtain ⟨h0, u, hu, hb⟩ := hr2 i.1 D.writes[i].1 D.writes[i].2 (List.getElem?_eq_getElem i.2)
    obtain ⟨r', h1, h2⟩ := hb.byte q j b
    exact ⟨r', h1, h0, u, hu, h2⟩
  obtain ⟨G, hGw⟩ := Classical.axiomOfChoice hwr
  refine ⟨⟨List.ofFn F, List.ofFn fun i => (D.writes[i].1, G i)⟩, ⟨?_, ?_, ?_, ?_, ?_⟩, by simp, by simp, _, _, rfl, ⟨p, cap, vs, by simp, hh.stay q j b b0 hq ?_, by simpa using hl, ?_⟩, ⟨p2, cap2, cs, by simp, hh2.stay q j b b0 hq ?_, by simpa using hl2, ?_, by simpa using hc2⟩⟩
  · simpa using hG.some
  · simpa using hG.few
  · intro r hr'
    obtain ⟨i, rfl⟩ := (List.mem_ofFn ..).1 hr'
    rw [(hF i).1]
    exact hG.row _ (List.getElem_mem _)
  · intro x hx
    obtain ⟨i, rfl⟩ := (List.mem_ofFn ..).1 hx
    have := hG.wr D.writes[i] (List.getElem_mem _)
    refine ⟨this.1, by simpa using this.2.1, ?_⟩
    show (G i).length = 64
    rw [(hGw i).1]
    exact this.2.2
  · simpa using hG.room
  · intro c hc x e
    obtain ⟨i, hi, rfl⟩ := List.mem_iff_getElem.1 hc
    obtain ⟨u, hu, p3, c3, rfl, _⟩ := hr i _ (List.getElem?_eq_getElem (by omega))
    rw [List.getElem?_eq_getElem hi] at hu
    injection hu with hu
    rw [hu] at e
    cases e
  · intro i r hi
    obtain ⟨hlt, he⟩ := List.getElem?_eq_some_iff.1 hi
    rw [List.length_ofFn] at hlt
    obtain ⟨h1, u, hu, hb⟩ := hF ⟨i, hlt⟩
    rw [List.getElem_ofFn] at he
    rw [← he]
    exact ⟨u, hu, hb⟩
  · intro c hc x e
    obtain ⟨i, hi, rfl⟩ := List.mem_iff_getElem.1 hc
    have hlt : i / 2 < D.writes.length := by omega
    obtain ⟨h0, u, hu, p3, c3, rfl, _⟩ := hr2 (i / 2) D.writes[i / 2].1 D.writes[i / 2].2 (List.getElem?_eq_getElem hlt)
    rcases Nat.mod_two_eq_zero_or_one i with hm | hm
    · rw [show i / 2 * 2 = i by omega, List.getElem?_eq_getElem hi] at h0
      injection h0 with h0
      rw [h0] at e
      injection e with e1 e2
      cases e1
    · rw [show i / 2 * 2 + 1 = i by omega, List.getElem?_eq_getElem hi] at hu
      injection hu with hu
      rw [hu] at e
      cases e
  · intro i k r hi
    obtain ⟨hlt, he⟩ := List.getElem?_eq_some_iff.1 hi
    rw [List.length_ofFn] at hlt
    obtain ⟨h1, h0, u, hu, hb⟩ := hGw ⟨i, hlt⟩
    rw [List.getElem_ofFn] at he
    injection he with he1 he2
    rw [← he1, ← he2]
    exact ⟨h0, u, hu, hb⟩
end Go.Proofs.Ythpjhmgmjfmgcaa
