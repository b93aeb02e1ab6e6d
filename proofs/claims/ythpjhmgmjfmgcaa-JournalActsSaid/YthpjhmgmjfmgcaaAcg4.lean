import Derived.Test.YthpjhmgmjfmgcaaAcg3
import Derived.Test.YthpjhmgmjfmgcaaAcg0
import Derived.Test.YthpjhmgmjfmgcaaAcg1
/- How a disk lies in memory, and the small functions of disks. -/
namespace Go.Proofs.Ythpjhmgmjfmgcaa
open Go.ChangeShapes Go.WideShapes Go.RowKit

def CellsAt (A : Nat → Prop) (w : World) (v : Value) (rows : List Dk.Row) : Prop :=
  ∃ p cap vs, v = .slice p rows.length cap ∧ Holds A w p vs ∧ vs.length = rows.length ∧ ∀ (i : Nat) (r : Dk.Row), rows[i]? = some r → ∃ u : Value, (vs : List Value)[i]? = some u ∧ BRow A w u r
def WritesAt (A : Nat → Prop) (w : World) (v : Value) (ws : List (Int × Dk.Row)) : Prop :=
  ∃ p cap cs, v = .slice p ws.length cap ∧ Holds A w p cs ∧ cs.length = 2 * ws.length ∧ (∀ (i : Nat) (k : Int) (r : Dk.Row), ws[i]? = some (k, r) → (cs : List Value)[i * 2]? = some (.int .i64 k) ∧ ∃ u : Value, cs[i * 2 + 1]? = some u ∧ BRow A w u r) ∧ ws.length ≤ cap
def DiskAt (A : Nat → Prop) (w : World) (v : Value) (D : Dk.Dsk) : Prop := ∃ cv wv, v = .agg #[cv, wv] ∧ CellsAt A w cv D.cells ∧ WritesAt A w wv D.writes

theorem CellsAt.keep {A : Nat → Prop} {w w' : World} {v : Value} {x} (h : CellsAt A w v x) (hk : Agree A w w') : CellsAt A w' v x := by
  obtain ⟨p, cap, vs, hv, hh, hl, hr⟩ := h
  exact ⟨p, cap, vs, hv, hh.keep hk, hl, fun i r hi => by obtain ⟨u, hu, hb⟩ := hr i r hi; exact ⟨u, hu, hb.keep hk⟩⟩
theorem WritesAt.keep {A : Nat → Prop} {w w' : World} {v : Value} {x} (h : WritesAt A w v x) (hk : Agree A w w') : WritesAt A w' v x := by
  obtain ⟨p, cap, vs, hv, hh, hl, hr, hc⟩ := h
  exact ⟨p, cap, vs, hv, hh.keep hk, hl, fun i k r hi => by obtain ⟨h1, u, hu, hb⟩ := hr i k r hi; exact ⟨h1, u, hu, hb.keep hk⟩, hc⟩
theorem DiskAt.keep {A : Nat → Prop} {w w' : World} {v : Value} {D : Dk.Dsk} (h : DiskAt A w v D) (hk : Agree A w w') : DiskAt A w' v D := by
  obtain ⟨cv, wv, hv, hc, hw⟩ := h
  exact ⟨cv, wv, hv, hc.keep hk, hw.keep hk⟩
theorem CellsAt.mono {A B : Nat → Prop} {w : World} {v : Value} {x} (h : CellsAt A w v x) (hk : ∀ g, A g → B g) : CellsAt B w v x := by
  obtain ⟨p, cap, vs, hv, hh, hl, hr⟩ := h
  exact ⟨p, cap, vs, hv, hh.mono hk, hl, fun i r hi => by obtain ⟨u, hu, hb⟩ := hr i r hi; exact ⟨u, hu, hb.mono hk⟩⟩
theorem WritesAt.mono {A B : Nat → Prop} {w : World} {v : Value} {x} (h : WritesAt A w v x) (hk : ∀ g, A g → B g) : WritesAt B w v x := by
  obtain ⟨p, cap, vs, hv, hh, hl, hr, hc⟩ := h
  exact ⟨p, cap, vs, hv, hh.mono hk, hl, fun i k r hi => by obtain ⟨h1, u, hu, hb⟩ := hr i k r hi; exact ⟨h1, u, hu, hb.mono hk⟩, hc⟩
theorem DiskAt.mono {A B : Nat → Prop} {w : World} {v : Value} {D : Dk.Dsk} (h : DiskAt A w v D) (hk : ∀ g, A g → B g) : DiskAt B w v D := by
  obtain ⟨cv, wv, hv, hc, hw⟩ := h
  exact ⟨cv, wv, hv, hc.mono hk, hw.mono hk⟩

theorem Holds.none_nil {A : Nat → Prop} {w : World} {cs : List Value} (h : Holds A w none cs) : cs = [] := by
  rcases h with h | ⟨g, off, hp, _⟩
  · exact h
  · cases hp

set_option maxRecDepth 100000 in
set_option maxHeartbeats 400000 in
theorem clone_any {A : Nat → Prop} (v : Value) (bs : List UInt8) (w : World) (hv : BRow0 A w v bs) (hl : bs.length ≤ 1000) :
    Calls Try.prog 48 #[v] w fun e w' => ∃ v', e = .returned v' ∧ Below w.heap.size w w' ∧ (0 < bs.length → ∃ g cap, v' = .slice (some ⟨g, 0, none⟩) bs.length cap ∧ w.heap.size ≤ g ∧ g < w'.heap.size ∧ rowOf w' g (bs.map byteVal) ∧ bs.length ≤ cap) := by
  obtain ⟨p, cap, rfl, hh⟩ := hv
  cases p with
  | none =>
    have hb : bs = [] := by simpa using hh.none_nil
    subst hb
    have hq := eq_nil (P := Try.prog) w 27 5 none 0 cap Try.underlying27
    go_enter Try.func48, Try.ntmps48
    go_wp2_with fail
    go_ret
    exact ⟨_, rfl, ext_refl w, by simp⟩
  | some a =>
    have Hl := Lib.hid hl
    have Hh := Lib.hid hh
    clear hl hh
    have hq := eq_nil (P := Try.prog) w 27 5 (some a) bs.length cap Try.underlying27
    go_enter Try.func48, Try.ntmps48
    go_wp2_with (at_builtin; refine app_src _ _ 27 27 5 (.int .u8 0) 1 1 rfl rfl Try.underlying27 (by kernel_rfl) rfl (by decide) w.heap.size (n := 0) (xs := []) (ownsRow_lit w _ 1) (by simp) rfl rfl (Holds.src Try.underlying27 ((Hh.out).keep (agree_below (ext_alloc (ext_refl w) _))) (by simp) (by decide) (bytes_one bs)) ?c1 ?c2 ?_)
    case c1 => have := Hl.out; unfold maxLen; omega
    case c2 => have := Hl.out; omega
    intro v' w' Ho Hg
    go_wp2_with fail
    go_ret
    refine ⟨_, rfl, ?_, fun hpos => ?_⟩
    · exact below_own (ext_alloc (ext_refl w) _) (ownsRow_lit w _ 1) Hg (by simp)
    · obtain ⟨g, c, hv, h1, h2, h3, caph3⟩ := ownsRow_row Ho (by simpa using hpos)
      exact ⟨g, c, by simpa using hv, h1, h2, by simpa using h3, by simpa using caph3⟩

set_option maxRecDepth 100000 in
set_option maxHeartbeats 400000 in
theorem sector_any (n : Int) (w : World) (h0 : 0 ≤ n) (h1 : n < 256) :
    Calls Try.prog 17 #[.int .i64 n] w fun e w' => ∃ v', e = .returned v' ∧ Below w.heap.size w w' ∧ BRow (w.heap.size ≤ ·) w' v' (List.replicate 64 (UInt8.ofNat n.toNat)) := by
  obtain ⟨w1, hm, Hrow, hb1, hz1⟩ := make_new (P := Try.prog) 27 5 (.int .u8 0) 1 Try.underlying27 (by kernel_rfl) rfl 64 (by omega) (by omega) w
  rw [show ((64 : Nat) : Int) = 64 from rfl] at hm
  have hw8 : IntKind.u8.wrap n = n := by simp [IntKind.wrap, IntKind.bits, IntKind.signed]; omega
  go_enter Try.func17, Try.ntmps17
  go_wp2_with fail
  clear hm
  have hlt : w.heap.size < w1.heap.size := by omega
  clear hz1
  go_loopw [4, 8] (fun _ i wr => ∃ j : Nat, j ≤ 64 ∧ i = .int .i64 j ∧ Hid (rowOf wr w.heap.size (List.replicate j (.int .u8 n) ++ List.replicate (64 - j) (.int .u8 0))) ∧ Below w.heap.size w wr) (fun _ i _ => (64 - intOf i).toNat)
  case atStart => exact ⟨0, by omega, rfl, Hrow, hb1⟩
  case round =>
    obtain ⟨j, hj, rfl, hrow, hbel⟩ := hrel
    by_cases hj2 : j < 64
    · have hd : decide ((j : Int) < 64) = true := by simp; omega
      have hcell : wr.cell? ⟨w.heap.size, j, none⟩ = some (.int .u8 0) := hrow.out.cell (rep_at j 64 _ _ hj2)
      have hfz : wr.frozen? ⟨w.heap.size, j, none⟩ = false := hrow.out.2 j (by simp; omega)
      go_wp2_with fail
      go_roundw
      case rel =>
        refine ⟨j + 1, by omega, by simp, ?_, hbel.setCell (Nat.le_refl _) _⟩
        have h2 := hrow.out.set j (.int .u8 n) (by simp; omega)
        rw [rep_set j 64 _ _ hj2] at h2
        exact h2
      case measure => simp [intOf]; omega
    · have hd : decide ((j : Int) < 64) = false := by simp; omega
      have : j = 64 := by omega
      subst this
      go_wp2_with fail
      go_ret
      have h : rowOf wr w.heap.size ((List.replicate 64 (UInt8.ofNat n.toNat)).map byteVal) := by
        have := hrow.out
        simpa [byteVal, Int.toNat_of_nonneg h0, Int.emod_eq_of_lt h0 h1] using this
      exact ⟨_, rfl, hbel, brow_row h (Nat.le_refl _) (by simp) (by omega)⟩

/-- 'there' -/
theorem there_any {A : Nat → Prop} (v : Value) (D : Dk.Dsk) (k : Int) (w : World) (hv : DiskAt A w v D) :
    Calls Try.prog 47 #[v, .int .i64 k] w fun e w' => e = .returned (.bool (decide (0 ≤ k) && decide (k < D.cells.length))) ∧ Below w.heap.size w w' := by
  obtain ⟨_, wv, rfl, ⟨p, cap, vs, rfl, _⟩, _⟩ := hv
  by_cases h0 : 0 ≤ k
  · go_enter Try.func47, Try.ntmps47
    go_wp2_with fail
    go_ret
    exact ⟨by simp [h0], ext_alloc (ext_refl w) _⟩
  · go_enter Try.func47, Try.ntmps47
    go_wp2_with fail
    go_ret
    exact ⟨by have h1 : decide (0 ≤ k) = false := by simp; omega
              rw [h1]; rfl, ext_alloc (ext_refl w) _⟩

set_option maxRecDepth 100000 in
set_option maxHeartbeats 400000 in
theorem clonec_any {A : Nat → Prop} (p : Option Addr) (n cap : Nat) (vs : List Value) (w : World) (hh : Holds A w p vs) (hn : vs.length = n) (hl : n ≤ 2000) (h1 : ∀ u ∈ vs, u.oneCell' = true) :
    Calls Try.prog 62 #[.slice p n cap] w fun e w' => ∃ p' cap', e = .returned (.slice p' n cap') ∧ Below w.heap.size w w' ∧ w'.ownsRow w.heap.size 27 1 (.slice p' n cap') n vs ∧ (0 < n → ∃ g, p' = some ⟨g, 0, none⟩ ∧ w.heap.size ≤ g ∧ g < w'.heap.size ∧ rowOf w' g vs) := by
  cases p with
  | none =>
    have hb : vs = [] := by simpa using hh.none_nil
    subst hb
    simp at hn
    subst hn
    have hq := eq_nil (P := Try.prog) w 22 27 none 0 cap Try.underlying22
    go_enter Try.func62, Try.ntmps62
    go_wp2_with fail
    go_ret
    exact ⟨_, _, rfl, ext_refl w, World.ownsRow_nil _ _ _ _, by simp⟩
  | some a =>
    have Hl := Lib.hid hl
    have Hh := Lib.hid hh
    have Hn := Lib.hid hn
    have H1 := Lib.hid h1
    clear hl hh hn h1
    have hq := eq_nil (P := Try.prog) w 22 27 (some a) n cap Try.underlying22
    go_enter Try.func62, Try.ntmps62
    go_wp2_with (at_builtin; refine app_src _ _ 22 22 27 (.slice none 0 0) 1 24 rfl rfl Try.underlying22 (by kernel_rfl) rfl (by decide) w.heap.size (n := 0) (xs := []) (ownsRow_lit w _ 1) (by simp) rfl rfl (Holds.src Try.underlying22 ((Hh.out).keep (agree_below (ext_alloc (ext_refl w) _))) (by simpa using Hn.out) (by decide) H1.out) ?c1 ?c2 ?_)
    case c1 => have := Hl.out; unfold maxLen; omega
    case c2 => have := Hl.out; omega
    intro v' w' Ho Hg
    go_wp2_with fail
    go_ret
    have hb := below_own (ext_alloc (ext_refl w) _) (ownsRow_lit w _ 1) Hg (by simp)
    have hlen : vs.length = n := Hn.out
    obtain ⟨p', cap', hv, _⟩ := ownsRow_holds (A := fun _ => True) Ho (fun _ _ => trivial)
    subst hv
    refine ⟨p', cap', rfl, hb, by simpa using Ho, fun hpos => ?_⟩
    obtain ⟨g, c, hv, h1, h2, h3, caph3⟩ := ownsRow_row Ho (by omega)
    simp at hv
    exact ⟨g, hv.1, h1, h2, by simpa using h3⟩

set_option maxRecDepth 100000 in
set_option maxHeartbeats 400000 in
theorem clonew_any {A : Nat → Prop} (p : Option Addr) (n cap : Nat) (vs : List Value) (w : World) (hh : Holds A w p vs) (hn : vs.length = 2 * n) (hl : n ≤ 2000) (h1 : ∀ u ∈ vs, u.oneCell' = true) :
    Calls Try.prog 63 #[.slice p n cap] w fun e w' => ∃ p' cap', e = .returned (.slice p' n cap') ∧ Below w.heap.size w w' ∧ w'.ownsRow w.heap.size 42 2 (.slice p' n cap') n vs ∧ (0 < n → ∃ g, p' = some ⟨g, 0, none⟩ ∧ w.heap.size ≤ g ∧ g < w'.heap.size ∧ rowOf w' g vs) := by
  cases p with
  | none =>
    have hb : vs = [] := by simpa using hh.none_nil
    subst hb
    have h0 : n = 0 := by simp at hn; omega
    subst h0
    have hq := eq_nil (P := Try.prog) w 23 42 none 0 cap Try.underlying23
    go_enter Try.func63, Try.ntmps63
    go_wp2_with fail
    go_ret
    exact ⟨_, _, rfl, ext_refl w, World.ownsRow_nil _ _ _ _, by simp⟩
  | some a =>
    have Hl := Lib.hid hl
    have Hh := Lib.hid hh
    have Hn := Lib.hid hn
    have H1 := Lib.hid h1
    clear hl hh hn h1
    have hq := eq_nil (P := Try.prog) w 23 42 (some a) n cap Try.underlying23
    go_enter Try.func63, Try.ntmps63
    go_wp2_with (at_builtin; refine app_src _ _ 23 23 42 (.agg #[.int .i64 0, .slice none 0 0]) 2 32 rfl rfl Try.underlying23 (by kernel_rfl) rfl (by decide) w.heap.size (n := 0) (xs := []) (ownsRow_lit w _ 2) (by simp) rfl rfl (Holds.src Try.underlying23 ((Hh.out).keep (agree_below (ext_alloc (ext_refl w) _))) (by have := Hn.out; omega) (by decide) H1.out) ?c1 ?c2 ?_)
    case c1 => have := Hl.out; unfold maxLen; omega
    case c2 => have := Hl.out; omega
    intro v' w' Ho Hg
    go_wp2_with fail
    go_ret
    have hb := below_own (ext_alloc (ext_refl w) _) (ownsRow_lit w _ 2) Hg (by simp)
    have hlen : vs.length = 2 * n := Hn.out
    obtain ⟨p', cap', hv, _⟩ := ownsRow_holds (A := fun _ => True) Ho (fun _ _ => trivial)
    subst hv
    refine ⟨p', cap', rfl, hb, by simpa using Ho, fun hpos => ?_⟩
    obtain ⟨g, c, hv, h1, h2, h3, caph3⟩ := ownsRow_row Ho (by omega)
    simp at hv
    exact ⟨g, hv.1, h1, h2, by simpa using h3⟩

/-- the rows of a disk of the call's own: each in a block of its own -/
structure Tab (lo : Nat) (w : World) (gc : Nat) (gs : List Nat) (rows : List Dk.Row) : Prop where
  len : gs.length = rows.length
  nodup : gs.Nodup
  out : gc ∉ gs
  low : lo ≤ gc ∧ ∀ g ∈ gs, lo ≤ g
  lt : ∀ g ∈ gs, g < w.heap.size
  cell : ∀ i g, gs[i]? = some g → ∃ cap, w.cell? ⟨gc, i, none⟩ = some (.slice (some ⟨g, 0, none⟩) 64 cap) ∧ 64 ≤ cap
  row : ∀ (i g : Nat) (r : Dk.Row), gs[i]? = some g → rows[i]? = some r → r.length = 64 ∧ rowOf w g (r.map byteVal)

theorem Tab.nil {lo : Nat} {w : World} {gc : Nat} (h : lo ≤ gc) : Tab lo w gc [] [] :=
  ⟨rfl, List.nodup_nil, by simp, ⟨h, by simp⟩, by simp, by simp, by simp⟩

theorem Tab.keep {A : Nat → Prop} {lo : Nat} {w w' : World} {gc : Nat} {gs : List Nat} {rows : List Dk.Row} (h : Tab lo w gc gs rows) (hk : Agree A w w') (hs : w.heap.size ≤ w'.heap.size) (hA : A gc ∧ ∀ g ∈ gs, A g) : Tab lo w' gc gs rows := by
  refine ⟨h.len, h.nodup, h.out, h.low, fun g hg => Nat.lt_of_lt_of_le (h.lt g hg) hs, fun i g hi => ?_, fun i g r hi hr => ?_⟩
  · obtain ⟨cap, hc, h64⟩ := h.cell i g hi
    exact ⟨cap, by rw [World.cell?_of_block (w := w) (hk gc hA.1 (World.block_lt_of_cell? w _ hc))]; exact hc, h64⟩
  · have hm := List.mem_of_getElem? hi
    exact ⟨(h.row i g r hi hr).1, (h.row i g r hi hr).2.keep hk (hA.2 g hm) (h.lt g hm)⟩

theorem nodup_inj {l : List Nat} (h : l.Nodup) {i j : Nat} {hi : i < l.length} {hj : j < l.length} (he : l[i] = l[j]) : i = j := by
  rcases Nat.lt_trichotomy i j with h1 | h1 | h1
  · exact absurd he (List.pairwise_iff_getElem.1 h i j hi hj h1)
  · exact h1
  · exact absurd he.symm (List.pairwise_iff_getElem.1 h j i hj hi h1)

/-- one row more -/
theorem Tab.snoc {lo : Nat} {w : World} {gc : Nat} {gs : List Nat} {rows : List Dk.Row} (h : Tab lo w gc gs rows) {g cap : Nat} {r : Dk.Row} (hg : g ∉ gs) (hgc : g ≠ gc) (hlo : lo ≤ g) (hlt : g < w.heap.size) (hr : rowOf w g (r.map byteVal)) (hl : r.length = 64) (h64 : 64 ≤ cap)
    {v : Value} (hthere : w.cell? ⟨gc, gs.length, none⟩ = some v) : Tab lo (w.setCell ⟨gc, gs.length, none⟩ (.slice (some ⟨g, 0, none⟩) 64 cap)) gc (gs ++ [g]) (rows ++ [r]) := by
  have hk : Agree (· ≠ gc) w (w.setCell ⟨gc, gs.length, none⟩ (.slice (some ⟨g, 0, none⟩) 64 cap)) := fun k hk _ => Below.heap_setCell _ _ _ _ hk
  refine ⟨by simp [h.len], ?_, ?_, ⟨h.low.1, ?_⟩, ?_, fun i k hi => ?_, fun i k s hi hs => ?_⟩
  · rw [List.nodup_append]
    exact ⟨h.nodup, by simp, fun a ha b hb => by simp at hb; subst hb; exact fun e => hg (e ▸ ha)⟩
  · simp only [List.mem_append, List.mem_singleton, not_or]; exact ⟨h.out, Ne.symm hgc⟩
  · intro k hk; rcases List.mem_append.1 hk with h1 | h1
    · exact h.low.2 k h1
    · simp at h1; subst h1; exact hlo
  · intro k hk
    show k < (w.setCell _ _).heap.size
    have : (w.setCell ⟨gc, gs.length, none⟩ (.slice (some ⟨g, 0, none⟩) 64 cap)).heap.size = w.heap.size := by simp [World.setCell]
    rw [this]
    rcases List.mem_append.1 hk with h1 | h1
    · exact h.lt k h1
    · simp at h1; subst h1; exact hlt
  · by_cases hlt2 : i < gs.length
    · rw [List.getElem?_append_left hlt2] at hi
      obtain ⟨c, hc, hc64⟩ := h.cell i k hi
      refine ⟨c, ?_, hc64⟩
      rw [World.cell?_setCell_other (h := fun e => by injection e; omega)]
      exact hc
    · have hlt3 := (List.getElem?_eq_some_iff.1 hi).1
      simp at hlt3
      have hi2 : i = gs.length := by omega
      subst hi2
      rw [List.getElem?_append_right (Nat.le_refl _)] at hi
      simp at hi
      subst hi
      exact ⟨cap, World.cell?_setCell_same w _ _ hthere, h64⟩
  · by_cases hlt2 : i < gs.length
    · rw [List.getElem?_append_left hlt2] at hi
      rw [List.getElem?_append_left (by rw [← h.len]; exact hlt2)] at hs
      have hm := List.mem_of_getElem? hi
      exact ⟨(h.row i k s hi hs).1, (h.row i k s hi hs).2.keep hk (fun e => h.out (e ▸ hm)) (h.lt k hm)⟩
    · have hlt3 := (List.getElem?_eq_some_iff.1 hi).1
      simp at hlt3
      have hi2 : i = gs.length := by omega
      subst hi2
      rw [List.getElem?_append_right (Nat.le_refl _)] at hi
      rw [List.getElem?_append_right (by rw [h.len]; exact Nat.le_refl _)] at hs
      simp [h.len] at hi hs
      subst hi hs
      exact ⟨hl, hr.keep hk hgc hlt⟩

/-- one row is another now -/
theorem Tab.turn {lo : Nat} {w w' : World} {gc : Nat} {gs : List Nat} {rows : List Dk.Row} (h : Tab lo w gc gs rows) {k g : Nat} {r : Dk.Row} (hg : gs[k]? = some g) (hk : Agree (· ≠ g) w w') (hs : w'.heap.size = w.heap.size) (hr : rowOf w' g (r.map byteVal)) (hl : r.length = 64) :
    Tab lo w' gc gs (rows.set k r) := by
  have hgm := List.mem_of_getElem? hg
  refine ⟨by simp [h.len], h.nodup, h.out, h.low, fun g hg => by rw [hs]; exact h.lt g hg, fun i k2 hi => ?_, fun i k2 s hi hs2 => ?_⟩
  · obtain ⟨c, hc, hc64⟩ := h.cell i k2 hi
    exact ⟨c, by rw [World.cell?_of_block (w := w) (hk gc (fun e => h.out (e ▸ hgm)) (World.block_lt_of_cell? w _ hc))]; exact hc, hc64⟩
  · have hm := List.mem_of_getElem? hi
    by_cases hik : k = i
    · subst hik
      rw [hg] at hi
      injection hi with hi
      subst hi
      have hlt := (List.getElem?_eq_some_iff.1 hg).1
      rw [List.getElem?_set_self (by rw [← h.len]; exact hlt)] at hs2
      injection hs2 with hs2
      subst hs2
      exact ⟨hl, hr⟩
    · rw [List.getElem?_set_ne hik] at hs2
      have hne : k2 ≠ g := by
        intro e
        subst e
        obtain ⟨h1, e1⟩ := List.getElem?_eq_some_iff.1 hi
        obtain ⟨h2, e2⟩ := List.getElem?_eq_some_iff.1 hg
        exact hik (nodup_inj h.nodup (e2.trans e1.symm))
      exact ⟨(h.row i k2 s hi hs2).1, (h.row i k2 s hi hs2).2.keep hk hne (h.lt k2 hm)⟩

theorem Tab.cells {lo : Nat} {w : World} {gc n cap : Nat} {gs : List Nat} {rows : List Dk.Row} (h : Tab lo w gc gs rows) (hn : rows.length = n) {A : Nat → Prop} (hA : ∀ g, lo ≤ g → A g) : CellsAt A w (.slice (some ⟨gc, 0, none⟩) n cap) rows := by
  subst hn
  refine ⟨_, _, (List.range rows.length).map (fun i => (w.cell? ⟨gc, i, none⟩).getD undef), rfl, .inr ⟨gc, 0, rfl, hA gc h.low.1, fun j c hj => ?_⟩, by simp, fun i r hi => ?_⟩
  · have hlt := (List.getElem?_eq_some_iff.1 hj).1
    simp at hlt
    rw [List.getElem?_map, List.getElem?_range hlt] at hj
    simp only [Option.map_some] at hj
    injection hj with hj
    have hlt2 : j < gs.length := by rw [h.len]; exact hlt
    obtain ⟨c, hc, _⟩ := h.cell j _ (List.getElem?_eq_getElem hlt2)
    rw [Nat.zero_add, ← hj, hc]
    rfl
  · have hlt := (List.getElem?_eq_some_iff.1 hi).1
    have hlt2 : i < gs.length := by rw [h.len]; exact hlt
    have hg : gs[i]? = some gs[i] := List.getElem?_eq_getElem hlt2
    obtain ⟨c, hc, hc64⟩ := h.cell i _ hg
    obtain ⟨hl, hr⟩ := h.row i _ r hg hi
    refine ⟨.slice (some ⟨gs[i], 0, none⟩) 64 c, ?_, brow_row hr (hA _ (h.low.2 _ (List.getElem_mem hlt2))) hl hc64⟩
    rw [List.getElem?_map, List.getElem?_range hlt]
    simp [hc]

end Go.Proofs.Ythpjhmgmjfmgcaa
