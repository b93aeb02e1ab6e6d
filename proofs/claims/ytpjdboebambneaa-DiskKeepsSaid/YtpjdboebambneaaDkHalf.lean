/- DiskHalf: the write that is cut has its first half done alone. -/
import Derived.Test.YtpjdboebambneaaDkA
import Derived.Test.YtpjdboebambneaaDkQ
import Derived.Test.YtpjdboebambneaaRow
namespace Go.Proofs.Ytpjdboebambneaa
open Go.ChangeShapes Go.WideShapes Go.RowKit

/-- 's[l:]' -/
theorem slice_from {P : Program} (w : World) (t e size bytes : Nat) (z : Value) (ht : P.underlying t = some (.slice e)) (he : P.elem t = e) (hs : (P.info? e).map (fun i => (i.zero, i.size, i.bytes)) = some (some z, size, bytes)) (hsz : 0 < size) (g off n c l : Nat) (hl : l ≤ n) (hc : n ≤ c) :
    ∃ p, (Instr.sliceAt t (.slice (some ⟨g, off, none⟩) n c) (some (.int .i64 (l : Int))) none none).run P w = .ok (.slice (some p) (n - l) (c - l)) w ∧ (l < n → p = ⟨g, off + l * size, none⟩) := by
  have ht2 : P.underlying t = some (.slice (P.elem t)) := by rw [he]; exact ht
  obtain ⟨i, hi, hz, hsize, hby⟩ := info_parts hs
  rw [run_sliceAt_slice w t _ _ _ _ ht2, run_slice_l w t _ n c ht2 .i64 l (by omega) (by omega), he]
  have h2 : (sizeOf e).run P w = .ok size w := by simp [sizeOf, typeInfo, hi, hsize]
  rw [h2]
  simp only [Result.andThen, sliced, Int.toNat_natCast]
  by_cases hcl : c = l
  · refine ⟨⟨g, off, none⟩, by rw [if_pos hcl], fun h => by omega⟩
  · refine ⟨(⟨g, off, none⟩ : Addr).add (l * size), by rw [if_neg hcl]; rfl, fun _ => ?_⟩
    unfold Addr.add
    split
    · rename_i h0; simp [h0]
    · rfl

theorem slice_from2 {P : Program} (w : World) (t e size bytes : Nat) (z : Value) (ht : P.underlying t = some (.slice e)) (he : P.elem t = e) (hs : (P.info? e).map (fun i => (i.zero, i.size, i.bytes)) = some (some z, size, bytes)) (hsz : 0 < size) (g off n c l : Nat) (hl : l < n) (hc : n ≤ c) :
    (Instr.sliceAt t (.slice (some ⟨g, off, none⟩) n c) (some (.int .i64 (l : Int))) none none).run P w = .ok (.slice (some ⟨g, off + l * size, none⟩) (n - l) (c - l)) w := by
  obtain ⟨p, h1, h2⟩ := slice_from (P := P) w t e size bytes z ht he hs hsz g off n c l (by omega) hc
  rw [h1, h2 hl]
/-- 's[:h]' of elements of any size -/
theorem slice_to2 {P : Program} (w : World) (t e size bytes : Nat) (z : Value) (ht : P.underlying t = some (.slice e)) (he : P.elem t = e) (hs : (P.info? e).map (fun i => (i.zero, i.size, i.bytes)) = some (some z, size, bytes)) (g off n c h : Nat) (hc : h ≤ c) :
    (Instr.sliceAt t (.slice (some ⟨g, off, none⟩) n c) none (some (.int .i64 (h : Int))) none).run P w = .ok (.slice (some ⟨g, off, none⟩) h c) w := by
  have ht2 : P.underlying t = some (.slice (P.elem t)) := by rw [he]; exact ht
  obtain ⟨i, hi, hz, hsize, hby⟩ := info_parts hs
  rw [run_sliceAt_slice w t _ _ _ _ ht2, run_slice_h w t _ n c ht2 .i64 h (by omega) (by omega), he]
  have h2 : (sizeOf e).run P w = .ok size w := by simp [sizeOf, typeInfo, hi, hsize]
  rw [h2]
  simp only [Result.andThen, sliced, Int.toNat_natCast]
  have : (if c = 0 then some (⟨g, off, none⟩ : Addr) else (some (⟨g, off, none⟩ : Addr)).map (·.add (0 * size))) = some ⟨g, off, none⟩ := by
    split
    · rfl
    · simp [Addr.add]
  rw [this]
  rfl

/-- a disk lies apart from a new variable -/
theorem DiskAt.apart {A : Nat → Prop} {w : World} {v : Value} {D : Dk.Dsk} {g : Nat} (h : DiskAt A w v D) (hG : Dk.Good D) (hb : Blk w g [.slice none 0 0, .slice none 0 0]) : DiskAt (fun b => A b ∧ b ≠ g) w v D := by
  obtain ⟨cv, wv', hv, ⟨p, c, vs, e1, e2, e3, e4⟩, ⟨p2, c2, cs2, f1, f2, f3, f4, f5⟩⟩ := h
  have hrow : ∀ {u : Value} {r : Dk.Row}, r.length = 64 → BRow A w u r → u ∉ [Value.slice none 0 0, Value.slice none 0 0] ∧ BRow (fun b => A b ∧ b ≠ g) w u r := fun {u r} hl hr => by
    obtain ⟨q, qc, rfl, hq, hqc⟩ := hr
    refine ⟨by rw [hl]; simp, q, qc, rfl, hq.apart hb fun x hx => ?_, hqc⟩
    obtain ⟨b, _, rfl⟩ := List.mem_map.1 hx
    simp [byteVal]
  refine ⟨cv, wv', hv, ⟨p, c, vs, e1, e2.apart hb fun x hx => ?_, e3, fun i r hi => ?_⟩, ⟨p2, c2, cs2, f1, f2.apart hb fun x hx => ?_, f3, fun i k r hi => ?_, f5⟩⟩
  · obtain ⟨i, hi, rfl⟩ := List.mem_iff_getElem.1 hx
    obtain ⟨u, hu, hbr⟩ := e4 i D.cells[i] (List.getElem?_eq_getElem (by omega))
    rw [List.getElem?_eq_getElem hi] at hu
    injection hu with hu
    rw [hu]
    exact (hrow (hG.row _ (List.getElem_mem (by omega))) hbr).1
  · obtain ⟨u, hu, hbr⟩ := e4 i r hi
    exact ⟨u, hu, (hrow (hG.row _ (List.mem_of_getElem? hi)) hbr).2⟩
  · obtain ⟨i, hi, rfl⟩ := List.mem_iff_getElem.1 hx
    have hlt : i / 2 < D.writes.length := by omega
    obtain ⟨h1, u2, hu2, hbr⟩ := f4 (i / 2) D.writes[i / 2].1 D.writes[i / 2].2 (List.getElem?_eq_getElem hlt)
    rcases Nat.mod_two_eq_zero_or_one i with hm | hm
    · rw [show i / 2 * 2 = i by omega, List.getElem?_eq_getElem hi] at h1
      injection h1 with h1
      rw [h1]; simp
    · rw [show i / 2 * 2 + 1 = i by omega, List.getElem?_eq_getElem hi] at hu2
      injection hu2 with hu2
      rw [hu2]
      exact (hrow (hG.wr _ (List.getElem_mem hlt)).2.2 hbr).1
  · obtain ⟨h1, u, hu, hbr⟩ := f4 i k r hi
    exact ⟨h1, u, hu, (hrow (hG.wr _ (List.mem_of_getElem? hi)).2.2 hbr).2⟩

theorem DiskAt.wr {A : Nat → Prop} {w : World} {cv : Value} {p : Option Addr} {m c : Nat} {D : Dk.Dsk} (h : DiskAt A w (.agg #[cv, .slice p m c]) D) : WritesAt A w (.slice p m c) D.writes ∧ CellsAt A w cv D.cells := by
  obtain ⟨cv2, wv2, hv, hc, hw⟩ := h
  simp only [Value.agg.injEq, Array.mk.injEq, List.cons.injEq, and_true] at hv
  obtain ⟨rfl, rfl⟩ := hv
  exact ⟨hw, hc⟩
theorem WritesAt.open {A : Nat → Prop} {w : World} {p : Option Addr} {m c : Nat} {ws : List (Int × Dk.Row)} (h : WritesAt A w (.slice p m c) ws) : m ≤ c ∧ ∃ cs : List Value, Holds A w p cs ∧ cs.length = 2 * ws.length ∧ (∀ (i : Nat) (k : Int) (r : Dk.Row), ws[i]? = some (k, r) → cs[i * 2]? = some (.int .i64 k) ∧ ∃ u : Value, cs[i * 2 + 1]? = some u ∧ BRow A w u r) := by
  obtain ⟨q, cap, cs, hv, hh, hl, hr, hc⟩ := h
  simp only [Value.slice.injEq] at hv
  obtain ⟨rfl, rfl, rfl⟩ := hv
  exact ⟨hc, cs, hh, hl, hr⟩

theorem WritesAt.take {A : Nat → Prop} {w : World} {p : Option Addr} {m cap : Nat} {ws : List (Int × Dk.Row)} (h : WritesAt A w (.slice p m cap) ws) (hm : m = ws.length) (n : Nat) (hn : n ≤ m) : WritesAt A w (.slice p n cap) (ws.take n) := by
  obtain ⟨q, c, cs, hv, hh, hl, hr, hc⟩ := h
  simp only [Value.slice.injEq] at hv
  obtain ⟨rfl, hml, rfl⟩ := hv
  refine ⟨p, cap, cs.take (2 * n), by rw [List.length_take]; congr 1; omega, ?_, by rw [List.length_take, List.length_take]; omega, fun i k r hi => ?_, by rw [List.length_take]; omega⟩
  · rcases hh with rfl | ⟨g, off, hp, hA, hcc⟩
    · exact .inl (by simp)
    · refine .inr ⟨g, off, hp, hA, fun j c hj => hcc j c ?_⟩
      rw [List.getElem?_take] at hj
      split at hj
      · exact hj
      · cases hj
  · rw [List.getElem?_take] at hi
    split at hi
    · rename_i hin
      obtain ⟨h1, u, hu, hb⟩ := hr i k r hi
      rw [List.getElem?_take, List.getElem?_take, if_pos (by omega), if_pos (by omega)]
      exact ⟨h1, u, hu, hb⟩
    · cases hi

theorem readR_in {D : Dk.Dsk} {k : Nat} (h : k < D.cells.length) : Dk.readR D (k : Int) = (Dk.read D k, 0) := by
  unfold Dk.readR
  rw [if_pos ⟨by omega, by omega⟩, Int.toNat_natCast]

set_option maxRecDepth 100000 in
/-- the two halves of a row, as strings -/
theorem half_strings {A : Nat → Prop} {w : World} {g off c : Nat} {R S1 S2 : Dk.Row} (h : Holds A w (some ⟨g, off, none⟩) (R.map byteVal)) (hl : R.length = 64) (h1 : R.take 32 = S1) (h2 : R.drop 32 = S2) (hc : 64 ≤ c) :
    (∀ w' : World, (Instr.sliceAt 28 (.slice (some ⟨g, off, none⟩) 64 c) none (some (.int .i64 32)) none).run Try.prog w' = .ok (.slice (some ⟨g, off, none⟩) 32 c) w') ∧
    (∀ w' : World, (Instr.sliceAt 28 (.slice (some ⟨g, off, none⟩) 64 c) (some (.int .i64 32)) none none).run Try.prog w' = .ok (.slice (some ⟨g, off + 32, none⟩) 32 (c - 32)) w') ∧
    (∀ w', Below w.heap.size w w' → (convert 28 9 (.slice (some ⟨g, off, none⟩) 32 c)).run Try.prog w' = .ok (.string ⟨S1.toArray⟩) w') ∧
    (∀ w', Below w.heap.size w w' → (convert 28 9 (.slice (some ⟨g, off + 32, none⟩) 32 (c - 32))).run Try.prog w' = .ok (.string ⟨S2.toArray⟩) w') := by
  refine ⟨fun w' => ?_, fun w' => ?_, ?_, ?_⟩
  · have e := slice_to2 (P := Try.prog) w' 28 5 1 1 (.int .u8 0) Try.underlying28 rfl (by kernel_rfl) g off 64 c 32 (by omega)
    rw [show ((32 : Nat) : Int) = 32 from rfl] at e
    exact e
  · have e := slice_from2 (P := Try.prog) w' 28 5 1 1 (.int .u8 0) Try.underlying28 rfl (by kernel_rfl) (by decide) g off 64 c 32 (by omega) hc
    rw [show ((32 : Nat) : Int) = 32 from rfl, show off + 32 * 1 = off + 32 by omega, show (64 : Nat) - 32 = 32 from rfl] at e
    exact e
  · have hp := h.part 0 32
    rw [Nat.add_zero, List.drop_zero, ← List.map_take, h1] at hp
    exact conv_bytes_held Try.underlying28 Try.underlying5 Try.underlying9 hp (by rw [← h1, List.length_take]; omega)
  · have hp := h.part 32 32
    rw [← List.map_drop, ← List.map_take, h2, List.take_of_length_le (by rw [← h2, List.length_drop]; omega)] at hp
    exact conv_bytes_held Try.underlying28 Try.underlying5 Try.underlying9 hp (by rw [← h2, List.length_drop]; omega)

set_option maxRecDepth 100000 in
set_option maxHeartbeats 3200000 in
theorem dhalf_any (p : Option Addr) (cap : Nat) (ts : List Int) (sv : Nat) (half : Int) (w : World) (ht : Holds (· < w.heap.size) w p (ts.map (.int .i64))) (hwf : ∀ n ∈ ts, (Lit.int .i64 n).wf = true) (hsv : sv < 18446744073709551616) (hh : (Lit.int .i64 half).wf = true) :
    Calls Try.prog 7 #[.slice p ts.length cap, .int .u64 sv, .int .i64 half] w fun e w' => e = .returned (.bool true) ∧ Below w.heap.size w w' := by
  have Hsv := Lib.hid hsv
  have Hh := Lib.hid hh
  have Ht := Lib.hid ht
  have Hwf := Lib.hid hwf
  clear hsv hh ht hwf
  obtain ⟨l, hl⟩ : ∃ l, ts.length = l := ⟨_, rfl⟩
  rw [hl]
  have Hl := Lib.hid hl
  clear hl
  by_cases h400 : l ≤ 400
  · have hd : decide (l ≤ 400) = true := by simpa using h400
    go_enter Try.func7, Try.ntmps7
    go_wp2_with fail
    refine (light_any _ l _ ⟨_, _, rfl⟩).mono ?_
    rintro e w' ⟨rfl, rfl⟩
    rw [hd]
    go_wp2_with fail
    refine (roll_any _ ts _ ⟨p, cap, by rw [Hl.out]⟩).mono ?_
    rintro e w1 ⟨gd, rfl, hb1, hgd, hdice⟩
    have hI : IntsAt (· ≠ gd) w1 (.slice p l cap) ts := ⟨p, cap, by rw [Hl.out], (Ht.out.keep (agree_below hb1)).mono fun b hb => by omega, by rw [Hl.out]; exact h400, Hwf.out⟩
    go_wp2_with fail
    refine (some_any gd _ ts _ hdice hI).mono ?_
    rintro e w2 ⟨v2, D, rfl, hDR, hG, hm7, hn5, hD⟩
    obtain ⟨p3, c3, p4, c4, rfl⟩ := hD.parts
    have hb2 : Below w.heap.size w w2 := hb1.trans (hDR.below hdice.lt hgd)
    obtain ⟨n, hn⟩ : ∃ n, D.cells.length = n := ⟨_, rfl⟩
    obtain ⟨m, hm⟩ : ∃ m, D.writes.length = m := ⟨_, rfl⟩
    rw [hm] at hm7
    rw [hn] at hn5
    rw [hn, hm] at hD ⊢
    have Hn := Lib.hid hn
    have Hm := Lib.hid hm
    have HG := Lib.hid hG
    clear hn hm hDR hI hdice hgd hb1 hG
    go_upto_region 5 with fail
    obtain ⟨w3, hw3, B3, hb3⟩ := fresh_blk w2 [Value.slice p3 n c3, Value.slice p4 m c4] 46
    rw [hw3]
    have HV := Lib.hid (DV.new hD B3 hb3)
    have Hb := Lib.hid (hb2.trans (hb3.mono hb2.size))
    obtain ⟨g8, hg8⟩ : ∃ g, g = w2.heap.size := ⟨_, rfl⟩
    have hg8w : w.heap.size ≤ g8 := by rw [hg8]; exact hb2.size
    rw [← hg8] at HV B3
    rw [← hg8]
    have c80 := B3.cells 0
    have c81 := B3.cells 1
    have z8 := B3.lt
    simp only [List.getElem?_cons_zero, List.getElem?_cons_succ] at c80 c81
    clear hw3 B3 hb3 hb2 hD hg8
    by_cases hm0 : m = 0
    · subst hm0
      go_wp2_with fail
      refine (awake_any _).mono ?_
      rintro e w9 ⟨rfl, hb9⟩
      have Hb9 := Lib.hid (Hb.out.trans (hb9.mono Hb.out.size))
      clear hb9 c80 c81 z8
      go_wp2_with fail
      go_ret
      exact ⟨rfl, Hb9.out⟩
    · have hm0b : ((m : Int) == 0) = false := by simpa using hm0
      have hm1 : 1 ≤ (m : Int) := by omega
      have hmod0 := Int.emod_nonneg half (show (m : Int) ≠ 0 by omega)
      have hmod1 := Int.emod_lt_of_pos half (show (0 : Int) < m by omega)
      obtain ⟨h, hh⟩ : ∃ h : Nat, half % (m : Int) = (h : Int) := Int.eq_ofNat_of_zero_le hmod0
      rw [hh] at hmod1
      have hhm : h < m := by omega
      obtain ⟨hWr, hCe⟩ := HV.out.disk.wr
      obtain ⟨hmc, cs, hcs, hcl, hcr⟩ := hWr.open
      obtain ⟨g4, o4, rfl, hg48, hg4, hc4⟩ := hcs.at (by rw [hcl, Hm.out]; omega)
      have hhl : h < D.writes.length := by rw [Hm.out]; exact hhm
      obtain ⟨e1, u, e2, q, c, rfl, hq, hqc⟩ := hcr h D.writes[h].1 D.writes[h].2 (List.getElem?_eq_getElem hhl)
      obtain ⟨hk0, hkn, h64⟩ := HG.out.wr _ (List.getElem_mem hhl)
      obtain ⟨key, hkey⟩ : ∃ key, D.writes[h].1 = key := ⟨_, rfl⟩
      obtain ⟨r, hr⟩ : ∃ r, D.writes[h].2 = r := ⟨_, rfl⟩
      have hrh : D.writes[h]? = some (key, r) := by rw [← hkey, ← hr]; exact List.getElem?_eq_getElem hhl
      rw [hkey] at e1 hk0 hkn
      rw [hr] at hq h64 e2 hqc
      obtain ⟨kn, hkn2⟩ := Int.eq_ofNat_of_zero_le hk0
      subst hkn2
      rw [Hn.out] at hkn
      rw [h64] at hqc e2
      have d0 : w3.cell? ⟨g4, o4 + h * 2, none⟩ = some (.int .i64 kn) := hc4 _ _ e1
      have d1 : w3.cell? ⟨g4, o4 + h * 2 + 1, none⟩ = some (.slice q 64 c) := hc4 _ _ e2
      obtain ⟨gq, oq, rfl, hgq8, hgq, hcq⟩ := hq.at (by simp [h64])
      have Hq := Lib.hid hq
      have Hrh := Lib.hid hrh
      have H64 := Lib.hid h64
      have Hcs := Lib.hid (And.intro hcs (And.intro hcl hcr))
      have Hmod := Lib.hid hh
      clear hq hrh h64 hcs hcl hcr hc4 hcq hWr hCe e1 e2 hr hkey hh hmod0 hmod1
      have hm7' : h < 7 := by omega
      go_wp2_with fail
      refine (mod_any _ _ _ Hh.out hm1 (by omega)).mono ?_
      rintro e w' ⟨rfl, rfl⟩
      rw [Hmod.out]
      go_upto_region 10 with fail
      obtain ⟨w4, hw4, B10, hb4⟩ := fresh_blk w3 [Value.int IntKind.i64 kn, Value.slice (some ⟨gq, oq, none⟩) 64 c] 49
      rw [hw4]
      have HV4 := Lib.hid (HV.out.call hb4)
      have HB10 := Lib.hid B10
      have Hb4 := Lib.hid (Hb.out.trans (hb4.mono Hb.out.size))
      obtain ⟨g10, hg10⟩ : ∃ g, g = w3.heap.size := ⟨_, rfl⟩
      have hg10w : w.heap.size ≤ g10 := by rw [hg10]; exact Hb.out.size
      have hg810 : g8 < g10 := by rw [hg10]; exact z8
      have hg410 : g4 < g10 := by rw [hg10]; exact hg4
      have hgq10 : gq < g10 := by rw [hg10]; exact hgq
      have Hcs4 : Hid (Holds (fun b => b ≠ g8 ∧ b < g10) w4 (some ⟨g4, o4, none⟩) cs ∧ cs.length = 2 * D.writes.length ∧ ∀ (i : Nat) (k : Int) (r : Dk.Row), D.writes[i]? = some (k, r) → cs[i * 2]? = some (.int .i64 k) ∧ ∃ u : Value, cs[i * 2 + 1]? = some u ∧ BRow (fun b => b ≠ g8 ∧ b < g10) w4 u r) := by
        rw [hg10]
        exact ⟨Hcs.out.1.lt.keep (agree_below hb4), Hcs.out.2.1, fun i k r hi => by
          obtain ⟨a1, u, a2, a3⟩ := Hcs.out.2.2 i k r hi
          exact ⟨a1, u, a2, a3.lt.keep (agree_below hb4)⟩⟩
      have Hq4 : Hid (Holds (fun b => b ≠ g8 ∧ b < g10) w4 (some ⟨gq, oq, none⟩) (r.map byteVal)) := by rw [hg10]; exact Hq.out.lt.keep (agree_below hb4)
      rw [← hg10] at HB10
      rw [← hg10]
      have a80 := HV4.out.blk.cells 0
      have a81 := HV4.out.blk.cells 1
      have z84 := HV4.out.blk.lt
      simp only [List.getElem?_cons_zero, List.getElem?_cons_succ] at a80 a81
      obtain ⟨pp, hsl, hpp⟩ := slice_from (P := Try.prog) w4 44 49 2 32 (.agg #[.int .i64 0, .slice none 0 0]) Try.underlying44 rfl (by kernel_rfl) (by decide) g4 o4 m c4 (h + 1) (by omega) hmc
      obtain ⟨mm, hmm⟩ : ∃ mm, m - (h + 1) = mm := ⟨_, rfl⟩
      obtain ⟨c5, hc5⟩ : ∃ c5, c4 - (h + 1) = c5 := ⟨_, rfl⟩
      rw [hmm, hc5, show ((h + 1 : Nat) : Int) = (h : Int) + 1 by omega] at hsl
      have hmm7 : mm ≤ 7 := by omega
      have Hmm := Lib.hid hmm
      have Hpp := Lib.hid hpp
      clear hw4 B10 hb4 HV Hb Hcs Hq c80 c81 z8 hg4 hgq hg10 hmm hc5 hpp d0 d1
      go_wp2_with fail
      clear a80 a81 z84 hsl
      go_loopw [11, 49] (fun b i wr => ∃ j : Nat, i = .int .i64 j ∧ b = .bool (Dk.late (Dk.bit sv) kn (h + 1) D.writes j) ∧ Hid (j ≤ mm) ∧ Hid (Blk wr g8 [Value.slice p3 n c3, Value.slice (some ⟨g4, o4, none⟩) m c4]) ∧ Hid (Blk wr g10 [Value.int IntKind.i64 kn, Value.slice (some ⟨gq, oq, none⟩) 64 c]) ∧ Hid (Below w4.heap.size w4 wr)) (fun _ i _ => (mm - intOf i).toNat)
      case atStart => exact ⟨0, rfl, rfl, Nat.zero_le _, HV4.out.blk, HB10, ext_refl _⟩
      case round =>
        obtain ⟨j, rfl, rfl, hj, hB8, hB10, hbel⟩ := hrel
        have hjm := hj.out
        have a80 := hB8.out.cells 0
        have a81 := hB8.out.cells 1
        have z84 := hB8.out.lt
        have a10 := hB10.out.cells 0
        have a11 := hB10.out.cells 1
        have z10 := hB10.out.lt
        simp only [List.getElem?_cons_zero, List.getElem?_cons_succ] at a80 a81 a10 a11
        by_cases hj2 : j < mm
        · have hd : decide ((j : Int) < (mm : Int)) = true := by simp; omega
          have hjh : h + 1 + j < D.writes.length := by rw [Hm.out]; have := Hmm.out; omega
          obtain ⟨e1, u, e2, q2, c2, rfl, hq2, _⟩ := Hcs4.out.2.2 (h + 1 + j) D.writes[h + 1 + j].1 D.writes[h + 1 + j].2 (List.getElem?_eq_getElem hjh)
          obtain ⟨key, hkey⟩ : ∃ key, D.writes[h + 1 + j].1 = key := ⟨_, rfl⟩
          obtain ⟨r2, hr2⟩ : ∃ r, D.writes[h + 1 + j].2 = r := ⟨_, rfl⟩
          have hlate := Dk.late_succ (Dk.bit sv) (kn : Int) (h + 1) D.writes j
          rw [List.getD_eq_getElem?_getD, List.getElem?_eq_getElem hjh, Option.getD_some, hkey] at hlate
          rw [hkey] at e1
          rw [hr2] at e2
          have hpp2 : pp = ⟨g4, o4 + (h + 1) * 2, none⟩ := Hpp.out (by have := Hmm.out; omega)
          subst hpp2
          obtain ⟨g4', o4', hga, hA4, hg4, hc4⟩ := Hcs4.out.1.at (by rw [Hcs4.out.2.1]; omega)
          simp only [Option.some.injEq, Addr.mk.injEq, and_true] at hga
          obtain ⟨rfl, rfl⟩ := hga
          have d0 : wr.cell? ⟨g4, o4 + (h + 1) * 2 + j * 2, none⟩ = some (.int .i64 key) := by rw [hbel.out.cell (p := ⟨g4, o4 + (h + 1) * 2 + j * 2, none⟩) hg4, show o4 + (h + 1) * 2 + j * 2 = o4 + (h + 1 + j) * 2 by omega]; exact hc4 _ _ e1
          have d1 : wr.cell? ⟨g4, o4 + (h + 1) * 2 + j * 2 + 1, none⟩ = some (.slice q2 r2.length c2) := by rw [hbel.out.cell (p := ⟨g4, o4 + (h + 1) * 2 + j * 2 + 1, none⟩) hg4, show o4 + (h + 1) * 2 + j * 2 + 1 = o4 + ((h + 1 + j) * 2 + 1) by omega]; exact hc4 _ _ e2
          have Hlate := Lib.hid hlate
          clear e1 e2 hc4 hq2 hlate hkey hr2
          obtain ⟨bb, hbb⟩ : ∃ bb, Dk.late (Dk.bit sv) kn (h + 1) D.writes j = bb := ⟨_, rfl⟩
          rw [hbb]
          have Hbb := Lib.hid hbb
          clear hbb
          go_upto_region 13 with fail
          obtain ⟨wy, hwy, Bv, hby⟩ := fresh_blk wr [Value.int IntKind.i64 key, Value.slice q2 r2.length c2] 49
          rw [hwy]
          have v0 := Bv.cells 0
          have hvy := Bv.lt
          simp only [List.getElem?_cons_zero] at v0
          have a10y := cell_keep hby a10
          have z10y : g10 < wy.heap.size := Nat.lt_of_lt_of_le z10 hby.size
          have HX := Lib.hid (And.intro (hB8.out.call hby) (And.intro (hB10.out.call hby) (ext_trans hbel.out hby)))
          have hbt := bit_test sv (h + 1 + j) Hsv.out
          clear hwy Bv d0 d1 a80 a81 z84 a10 a11 z10 hby
          cases bb with
          | true =>
            clear hbt
            go_wp2_with fail
            go_roundw
            case rel => exact ⟨j + 1, by simp, by rw [Hlate.out, Hbb.out]; rfl, hj2, HX.out.1, HX.out.2.1, HX.out.2.2⟩
            case measure => simp [intOf]; omega
          | false =>
            by_cases hkk : key = (kn : Int)
            · have hkb : (key == (kn : Int)) = true := by simpa using hkk
              have hkd : decide (key = (kn : Int)) = true := by simpa using hkk
              rw [hkd] at Hlate
              clear hkk hkd
              obtain ⟨bt, hbt2⟩ : ∃ bt, Dk.bit sv (h + 1 + j) = bt := ⟨_, rfl⟩
              rw [hbt2] at hbt Hlate
              clear hbt2
              cases bt
              all_goals
                go_wp2_with fail
                go_roundw
                case rel => exact ⟨j + 1, by simp, by rw [Hlate.out, Hbb.out]; rfl, hj2, HX.out.1, HX.out.2.1, HX.out.2.2⟩
                case measure => simp [intOf]; omega
            · have hkb : (key == (kn : Int)) = false := by simpa using hkk
              have hkd : decide (key = (kn : Int)) = false := by simpa using hkk
              rw [hkd] at Hlate
              clear hkk hkd hbt
              go_wp2_with fail
              go_roundw
              case rel => exact ⟨j + 1, by simp, by rw [Hlate.out, Hbb.out]; rfl, hj2, HX.out.1, HX.out.2.1, HX.out.2.2⟩
              case measure => simp [intOf]; omega
        · have hd : decide ((j : Int) < (mm : Int)) = false := by simp; omega
          have hjm2 : j = mm := by omega
          subst hjm2
          obtain ⟨bb, hbb⟩ : ∃ bb, Dk.late (Dk.bit sv) kn (h + 1) D.writes j = bb := ⟨_, rfl⟩
          rw [hbb]
          have Hbb := Lib.hid hbb
          clear hbb
          have HV5 : Hid (DV wr g8 (Value.slice p3 n c3) (Value.slice (some ⟨g4, o4, none⟩) m c4) D) := HV4.out.call hbel.out
          go_wp2_with fail
          refine (crash_any _ D sv (h : Int) _ HV5.out.disk HG.out Hsv.out).mono ?_
          rintro e w5 ⟨v5, rfl, hb5, hD5⟩
          obtain ⟨p5, c6, p6, c7, rfl⟩ := hD5.parts
          have hG5 := Dk.crash_good HG.out (Dk.bit sv) (h : Int)
          obtain ⟨D5, hD5e⟩ : ∃ D5, Dk.crash D (Dk.bit sv) (h : Int) = D5 := ⟨_, rfl⟩
          have hlen5 : D5.cells.length = n := by rw [← hD5e]; simp [Dk.crash, Dk.many_length, Hn.out]
          rw [hD5e] at hD5 hG5 ⊢
          have HG5 := Lib.hid hG5
          have HD5e := Lib.hid hD5e
          have Hlen5 := Lib.hid hlen5
          clear hG5 hD5e hlen5 a80 a81 z84 a10 a11 z10
          go_upto_region 16 with fail
          obtain ⟨w6, hw6, B14, hb6⟩ := fresh_blk w5 [Value.slice p5 D5.cells.length c6, Value.slice p6 D5.writes.length c7] 46
          rw [hw6]
          have HV14 := Lib.hid (DV.new hD5 B14 hb6)
          have hb56 := ext_trans hb5 hb6
          have b10 := (hB10.out.call hb56).cells 0
          have b11 := (hB10.out.call hb56).cells 1
          have y10 := (hB10.out.call hb56).lt
          have b14 := B14.cells 0
          have b15 := B14.cells 1
          have y14 := B14.lt
          simp only [List.getElem?_cons_zero, List.getElem?_cons_succ] at b10 b11 b14 b15
          clear hw6 B14 hD5 hb6 hb5
          have Hb56 := Lib.hid hb56
          clear hb56
          go_wp2_with fail
          have hkn5 : kn < D5.cells.length := by rw [Hlen5.out]; omega
          refine (read_any _ D5 (kn : Int) _ HV14.out.disk HG5.out).mono ?_
          rw [readR_in hkn5]
          rintro e w7 ⟨v7, rfl, hb7, hrow7⟩
          have hl7 := Dk.read_length HG5.out hkn5
          obtain ⟨R7, hR7⟩ : ∃ R7, Dk.read D5 kn = R7 := ⟨_, rfl⟩
          rw [hR7] at hrow7 hl7
          obtain ⟨q7, c8, rfl, hq7, hqc7⟩ := hrow7
          rw [hl7] at hqc7 ⊢
          obtain ⟨gb, ob, rfl, _, hgb, _⟩ := hq7.at (by simp [hl7])
          have HR7 := Lib.hid hR7
          have Hl7 := Lib.hid hl7
          have Hq7 := Lib.hid (hq7.mono (B := fun _ => True) fun _ _ => trivial)
          have HV7 : Hid (DV w7 g8 (Value.slice p3 n c3) (Value.slice (some ⟨g4, o4, none⟩) m c4) D) := (HV5.out.call Hb56.out).call hb7
          have HB7 : Hid (Blk w7 g10 [Value.int IntKind.i64 kn, Value.slice (some ⟨gq, oq, none⟩) 64 c]) := (hB10.out.call Hb56.out).call hb7
          have Hb7 : Hid (Below w4.heap.size w4 w7) := ext_trans (ext_trans hbel.out Hb56.out) hb7
          unfold newRes
          clear hR7 hl7 hq7 b10 b11 y10 b14 b15 y14 hb7 hbel hB8 hB10 HV5 Hb56 HV14 hkn5
          go_upto_region 19 with fail
          have b80 := HV7.out.blk.cells 0
          have b81 := HV7.out.blk.cells 1
          have y8 := HV7.out.blk.lt
          simp only [List.getElem?_cons_zero, List.getElem?_cons_succ] at b80 b81
          have hsl2 := fun w : World => slice_to2 (P := Try.prog) w 44 49 2 32 (.agg #[.int .i64 0, .slice none 0 0]) Try.underlying44 rfl (by kernel_rfl) g4 o4 m c4 h (by omega)
          refine Lx.region1 Lx.below_steps [(0, true), (1, true), (2, true), (3, true), (4, true), (5, true), (6, true), (7, true), (8, false)] [] [(10, false)] 9 _ (fun w' => (∀ b o, b < w7.heap.size → w'.cell? ⟨b, o, none⟩ = w7.cell? ⟨b, o, none⟩) ∧ (∀ b o, b < w7.heap.size → w'.frozen? ⟨b, o, none⟩ = w7.frozen? ⟨b, o, none⟩) ∧ Below w7.heap.size w7 w') (NewBlk w7.heap.size 46 [Value.slice none 0 0, Value.slice none 0 0]) (by kernel_rfl) (by kernel_rfl) rfl (fun _ _ _ _ _ h => h) (fun _ _ _ _ _ h => h) (fun _ h => held_below h) (fun _ _ h hb => held_call h hb) (fun _ _ _ h hb => h.call hb) (fun a w1 h => new_alloc (z := (Value.agg #[.slice none 0 0, .slice none 0 0])) (by rfl) (by kernel_rfl) h.2.2) ?_; intro wa hbwa; replace hbwa : Below w7.heap.size w7 wa := hbwa; simp only [Lx.pick, List.filterMap_cons, List.filterMap_nil, List.getElem?_cons_succ, List.getElem?_cons_zero, List.map_cons, List.map_nil, List.cons_append, List.nil_append]; have hSwa := held_below hbwa
          repeat (first | (refine Lx.takeY ?_ (by rfl) ?_ (by assumption) ?_; rotate_left; (focus (intro w' hSw; (try dsimp only at hSw); go_simp; (try with_reducible rfl))); simp only [Act.put, List.setIfInBounds_toArray, List.set_cons_zero, List.set_cons_succ]) | (refine Lx.takeN (by rfl) (by assumption) ?_; simp only [Act.put, List.setIfInBounds_toArray, List.set_cons_zero, List.set_cons_succ]))
          have hdk : DiskAt (· ≠ g8) wa (.agg #[Value.slice p3 n c3, Value.slice (some ⟨g4, o4, none⟩) h c4]) ⟨D.cells, D.writes.take h⟩ := by
            obtain ⟨x1, x2⟩ := (HV7.out.call hbwa).disk.wr
            exact ⟨_, _, rfl, x2, x1.take Hm.out.symm h (by omega)⟩
          have Hdk := Lib.hid hdk
          clear hdk
          refine Lx.go ?_; intro K hK; go_simp; go_at_call 29; refine (crash_any _ ⟨D.cells, D.writes.take h⟩ sv (-1) _ Hdk.out (HG.out.part h) Hsv.out).mono ?_; rintro e w0b ⟨v8, rfl, hb0b, hD8⟩; refine hK _ _ hb0b ?_; clear hK K; intro wb hbb; replace hbb : Below w0b.heap.size w0b wb := hbb; have hSb := held_call (held_call hSwa hb0b) hbb; try simp only [Act.put, List.setIfInBounds_toArray, List.set_cons_zero, List.set_cons_succ]
          have hG8 := Dk.crash_good (HG.out.part h) (Dk.bit sv) (-1)
          obtain ⟨D8, hD8e⟩ : ∃ D8, Dk.crash ⟨D.cells, D.writes.take h⟩ (Dk.bit sv) (-1) = D8 := ⟨_, rfl⟩
          have hlen8 : D8.cells.length = n := by rw [← hD8e]; simp [Dk.crash, Dk.many_length, Hn.out]
          rw [hD8e] at hD8 hG8
          obtain ⟨p8, c9, p9, c10, rfl⟩ := hD8.parts
          refine Lx.tail ?_
          intro vv hv
          obtain ⟨g17, rfl, hg17, B17, _⟩ := hv
          simp only [Act.put, List.setIfInBounds_toArray, List.set_cons_zero, List.set_cons_succ]
          have hD8b := (hD8.keep (agree_below hbb)).apart hG8 B17
          have hbw : Below w7.heap.size w7 wb := hSb.2.2
          have B10b := HB7.out.call hbw
          have k10 := B10b.cells 0
          have k11 := B10b.cells 1
          have l10 := B10b.lt
          have e0 := B17.cells 0
          have e1 := B17.cells 1
          have f0 := B17.frozen 0
          have f1 := B17.frozen 1
          have l17 := B17.lt
          simp only [List.getElem?_cons_zero, List.getElem?_cons_succ] at k10 k11 e0 e1
          have hne : g17 ≠ g10 := by have := HB7.out.lt; omega
          have hne' : g10 ≠ g17 := Ne.symm hne
          have hV17 : DV ((wb.setCell ⟨g17, 0, none⟩ (Value.slice p8 D8.cells.length c9)).setCell ⟨g17, 1, none⟩ (Value.slice p9 D8.writes.length c10)) g17 (Value.slice p8 D8.cells.length c9) (Value.slice p9 D8.writes.length c10) D8 := by
            refine ⟨by simpa using (B17.set 0 (Value.slice p8 D8.cells.length c9) (by simp)).set 1 (Value.slice p9 D8.writes.length c10) (by simp), ?_⟩
            have hk : Agree (fun b => b ≠ g17) wb ((wb.setCell ⟨g17, 0, none⟩ (Value.slice p8 D8.cells.length c9)).setCell ⟨g17, 1, none⟩ (Value.slice p9 D8.writes.length c10)) := (agree_at wb g17 0 _).trans (by simp [World.setCell]) (agree_at _ g17 1 _)
            exact (hD8b.keep (hk.mono fun b hb => hb.2)).mono fun b hb => hb.2
          have hk7 : Agree (fun b => b < w7.heap.size) w7 ((wb.setCell ⟨g17, 0, none⟩ (Value.slice p8 D8.cells.length c9)).setCell ⟨g17, 1, none⟩ (Value.slice p9 D8.writes.length c10)) :=
            ((agree_below hbw).trans hbw.size ((agree_at wb g17 0 _).mono fun b hb => by omega)).trans (by have := hbw.size; simpa [World.setCell] using this) ((agree_at _ g17 1 _).mono fun b hb => by omega)
          have hs7 : w7.heap.size ≤ ((wb.setCell ⟨g17, 0, none⟩ (Value.slice p8 D8.cells.length c9)).setCell ⟨g17, 1, none⟩ (Value.slice p9 D8.writes.length c10)).heap.size := by have := hbw.size; simpa [World.setCell] using this
          have hbel : Below w7.heap.size w7 ((wb.setCell ⟨g17, 0, none⟩ (Value.slice p8 D8.cells.length c9)).setCell ⟨g17, 1, none⟩ (Value.slice p9 D8.writes.length c10)) := (hbw.setCell hg17 _).setCell hg17 _
          have HV17 := Lib.hid hV17
          have Hbel := Lib.hid hbel
          have HG8 := Lib.hid hG8
          have HD8e := Lib.hid hD8e
          have Hlen8 := Lib.hid hlen8
          clear hV17 hbel hG8 hD8e hlen8 hk7 hs7 hD8 hD8b hbw B10b hSwa hSb hbwa hb0b hbb b80 b81 y8 hsl2 Hdk HV7 k10 k11 l10 hne hne'
          go_upto_region 20 with fail
          clear e0 e1 f0 f1 l17
          generalize (wb.setCell ⟨g17, 0, none⟩ (Value.slice p8 D8.cells.length c9)).setCell ⟨g17, 1, none⟩ (Value.slice p9 D8.writes.length c10) = wd at *
          have B10d := HB7.out.call Hbel.out
          have k10 := B10d.cells 0
          have k11 := B10d.cells 1
          have l10 := B10d.lt
          have e0 := HV17.out.blk.cells 0
          have e1 := HV17.out.blk.cells 1
          have l17 := HV17.out.blk.lt
          simp only [List.getElem?_cons_zero, List.getElem?_cons_succ] at k10 k11 e0 e1
          have HB10d := Lib.hid B10d
          clear B10d
          go_wp2_with fail
          have hkn8 : kn < D8.cells.length := by rw [Hlen8.out]; omega
          refine (read_any _ D8 (kn : Int) _ HV17.out.disk HG8.out).mono ?_
          rw [readR_in hkn8]
          rintro e w9 ⟨v9, rfl, hb9, hrow9⟩
          have hl9 := Dk.read_length HG8.out hkn8
          obtain ⟨R9, hR9⟩ : ∃ R9, Dk.read D8 kn = R9 := ⟨_, rfl⟩
          rw [hR9] at hrow9 hl9
          obtain ⟨q9, c11, rfl, hq9, hqc9⟩ := hrow9
          rw [hl9] at hqc9 ⊢
          obtain ⟨go, oo, rfl, _, hgo, _⟩ := hq9.at (by simp [hl9])
          unfold newRes
          have hb79 := ext_trans Hbel.out hb9
          have hq7 := Hq7.out.keep (agree_below hb79)
          have hqr := Hq4.out.keep (agree_below (ext_trans Hb7.out hb79))
          have m10 := (HB10d.out.call hb9).cells 0
          have m11 := (HB10d.out.call hb9).cells 1
          have n10 := (HB10d.out.call hb9).lt
          simp only [List.getElem?_cons_zero, List.getElem?_cons_succ] at m10 m11
          have Hfin := Lib.hid (show Below w.heap.size w w9 from Hb4.out.trans ((ext_trans Hb7.out hb79).mono Hb4.out.size))
          have Hq9 := Lib.hid (hq9.mono (B := fun _ => True) fun _ _ => trivial)
          have Hq7' := Lib.hid hq7
          have Hqr := Lib.hid hqr
          have HR9 := Lib.hid hR9
          have Hl9 := Lib.hid hl9
          clear e0 e1 l17 k10 k11 l10 hb9 hb79 hq7 hqr hq9 hR9 hl9 hkn8
          go_upto_region 23 with fail
          cases bb with
          | true =>
            refine Lx.region Lx.below_steps [(0, true), (1, true), (2, true), (3, true), (4, true), (5, true), (6, true), (7, true), (8, true), (9, true), (10, true), (11, true), (12, true), (13, true), (14, true), (15, true), (16, true), (17, true), (18, true), (19, true), (20, true), (21, false), (22, true)] [(23, false)] (fun w' => (∀ b o, b < w9.heap.size → w'.cell? ⟨b, o, none⟩ = w9.cell? ⟨b, o, none⟩) ∧ (∀ b o, b < w9.heap.size → w'.frozen? ⟨b, o, none⟩ = w9.frozen? ⟨b, o, none⟩) ∧ Below w9.heap.size w9 w') (by kernel_rfl) (by kernel_rfl) (fun _ _ _ _ _ h => h) (fun _ h => held_below h) (fun _ _ h hb => held_call h hb) ?_; intro xa hbxa; replace hbxa : Below w9.heap.size w9 xa := hbxa; simp only [Lx.pick, List.filterMap_cons, List.filterMap_nil, List.getElem?_cons_succ, List.getElem?_cons_zero, List.map_cons, List.map_nil]; have hSxa := held_below hbxa
            repeat (first | (refine Lx.takeY ?_ (by rfl) ?_ (by assumption) ?_; rotate_left; (focus (intro w' hSw; (try dsimp only at hSw); go_simp; (try with_reducible rfl))); simp only [Act.put, List.setIfInBounds_toArray, List.set_cons_zero, List.set_cons_succ]) | (refine Lx.takeN (by rfl) (by assumption) ?_; simp only [Act.put, List.setIfInBounds_toArray, List.set_cons_zero, List.set_cons_succ]))
            refine Lx.go ?_; intro K hK; go_simp; go_at_call 26; refine (awake_any _).mono ?_; rintro e w0xb ⟨rfl, hb0xb⟩; refine hK _ _ hb0xb ?_; clear hK K; intro wxb hbxb; replace hbxb : Below w0xb.heap.size w0xb wxb := hbxb; have hSxb := held_call (held_call hSxa hb0xb) hbxb; try simp only [Act.put, List.setIfInBounds_toArray, List.set_cons_zero, List.set_cons_succ]
            repeat (first | (refine Lx.takeY ?_ (by rfl) ?_ (by assumption) ?_; rotate_left; (focus (intro w' hSw; (try dsimp only at hSw); go_simp; (try with_reducible rfl))); simp only [Act.put, List.setIfInBounds_toArray, List.set_cons_zero, List.set_cons_succ]) | (refine Lx.takeN (by rfl) (by assumption) ?_; simp only [Act.put, List.setIfInBounds_toArray, List.set_cons_zero, List.set_cons_succ]))
            have Hend := Lib.hid (show Below w.heap.size w wxb from Hfin.out.trans (hSxb.2.2.mono Hfin.out.size))
            clear m10 m11 n10 hSxa hSxb hbxa hb0xb hbxb
            refine Lx.tail ?_
            go_wp2_with fail
            go_ret
            exact ⟨rfl, Hend.out⟩
          | false =>
            have hlaw := Dk.half_law HG.out (Dk.bit sv) h kn r Hrh.out (fun i r' hi hr' => by
              have hil := (List.getElem?_eq_some_iff.1 hr').1
              rw [Hm.out] at hil
              have := Dk.late_no Hbb.out (j := i - (h + 1)) (r := r') (by have := Hmm.out; omega) (by rw [show h + 1 + (i - (h + 1)) = i by omega]; exact hr')
              rwa [show h + 1 + (i - (h + 1)) = i by omega] at this)
            rw [HD5e.out, HD8e.out, HR7.out, HR9.out] at hlaw
            obtain ⟨hp1, hp2⟩ := Dk.half_parts (r := R9) H64.out
            rw [← hlaw] at hp1 hp2
            obtain ⟨S1, hS1⟩ : ∃ S, R7.take 32 = S := ⟨_, rfl⟩
            obtain ⟨S2, hS2⟩ : ∃ S, R7.drop 32 = S := ⟨_, rfl⟩
            rw [hS1] at hp1
            rw [hS2] at hp2
            obtain ⟨s1, s2, s3, s4⟩ := half_strings Hq7'.out Hl7.out hS1 hS2 hqc7
            obtain ⟨u1, _, u3, _⟩ := half_strings Hqr.out H64.out hp1.symm rfl hqc
            obtain ⟨_, x2, _, x4⟩ := half_strings Hq9.out Hl9.out rfl hp2.symm hqc9
            clear hlaw hp1 hp2 hS1 hS2
            refine Lx.region Lx.below_steps [(0, true), (1, true), (2, true), (3, true), (4, true), (5, true), (6, true), (7, true), (8, true), (9, true), (10, true), (11, true), (12, true), (13, true), (14, true), (15, true), (16, true), (17, true), (18, true), (19, true), (20, true), (21, false), (22, true)] [(23, false)] (fun w' => (∀ b o, b < w9.heap.size → w'.cell? ⟨b, o, none⟩ = w9.cell? ⟨b, o, none⟩) ∧ (∀ b o, b < w9.heap.size → w'.frozen? ⟨b, o, none⟩ = w9.frozen? ⟨b, o, none⟩) ∧ Below w9.heap.size w9 w') (by kernel_rfl) (by kernel_rfl) (fun _ _ _ _ _ h => h) (fun _ h => held_below h) (fun _ _ h hb => held_call h hb) ?_; intro xa hbxa; replace hbxa : Below w9.heap.size w9 xa := hbxa; simp only [Lx.pick, List.filterMap_cons, List.filterMap_nil, List.getElem?_cons_succ, List.getElem?_cons_zero, List.map_cons, List.map_nil]; have hSxa := held_below hbxa
            repeat (first | (refine Lx.takeY ?_ (by rfl) ?_ (by assumption) ?_; rotate_left; (focus (intro w' hSw; (try dsimp only at hSw); go_simp; (try with_reducible rfl))); simp only [Act.put, List.setIfInBounds_toArray, List.set_cons_zero, List.set_cons_succ]) | (refine Lx.takeN (by rfl) (by assumption) ?_; simp only [Act.put, List.setIfInBounds_toArray, List.set_cons_zero, List.set_cons_succ]))
            refine Lx.go ?_; intro K hK; go_simp; go_at_call 26; refine (awake_any _).mono ?_; rintro e w0xb ⟨rfl, hb0xb⟩; refine hK _ _ hb0xb ?_; clear hK K; intro wxb hbxb; replace hbxb : Below w0xb.heap.size w0xb wxb := hbxb; have hSxb := held_call (held_call hSxa hb0xb) hbxb; try simp only [Act.put, List.setIfInBounds_toArray, List.set_cons_zero, List.set_cons_succ]
            repeat (first | (refine Lx.takeY ?_ (by rfl) ?_ (by assumption) ?_; rotate_left; (focus (intro w' hSw; (try dsimp only at hSw); go_simp; (try with_reducible rfl))); simp only [Act.put, List.setIfInBounds_toArray, List.set_cons_zero, List.set_cons_succ]) | (refine Lx.takeN (by rfl) (by assumption) ?_; simp only [Act.put, List.setIfInBounds_toArray, List.set_cons_zero, List.set_cons_succ]))
            have Hend := Lib.hid (show Below w.heap.size w wxb from Hfin.out.trans (hSxb.2.2.mono Hfin.out.size))
            clear m10 m11 n10 hSxa hSxb hbxa hb0xb hbxb s1 s2 s3 s4 u1 u3 x2 x4
            refine Lx.tail ?_
            go_wp2_with fail
            go_ret
            exact ⟨rfl, Hend.out⟩
  · have hd : decide (l ≤ 400) = false := by simpa using h400
    go_enter Try.func7, Try.ntmps7
    go_wp2_with fail
    refine (light_any _ l _ ⟨_, _, rfl⟩).mono ?_
    rintro e w' ⟨rfl, rfl⟩
    rw [hd]
    go_wp2_with fail
    refine (awake_any _).mono ?_
    rintro e w9 ⟨rfl, hb9⟩
    have Hb9 := Lib.hid hb9
    clear hb9
    go_wp2_with fail
    go_ret
    exact ⟨rfl, Hb9.out⟩

theorem u64_nat {n : Int} (h : (Lit.int .u64 n).wf = true) : ∃ m : Nat, n = (m : Int) ∧ m < 18446744073709551616 := by
  simp [Lit.wf, IntKind.min, IntKind.max, IntKind.bits, IntKind.signed] at h
  exact ⟨n.toNat, by omega, by omega⟩

theorem dhalf_law (a : Option Addr) (len cap : Nat) (zs : List Int) (sv half : Int) (w : World) (h0 : IsRow .i64 w a len cap zs) (h1 : (Lit.int .u64 sv).wf = true) (h2 : (Lit.int .i64 half).wf = true) :
    Calls Try.prog 7 #[.slice a len cap, .int .u64 sv, .int .i64 half] w fun e w' => e = .returned (.bool true) ∧ Below w.heap.size w w' := by
  obtain ⟨m, rfl, hm⟩ := u64_nat h1
  have hl := h0.size
  subst hl
  exact dhalf_any a cap zs m half w h0.holds h0.wf hm h2
end Go.Proofs.Ytpjdboebambneaa
