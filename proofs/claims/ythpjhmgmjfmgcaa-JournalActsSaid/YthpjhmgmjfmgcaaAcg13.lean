import Derived.Test.YthpjhmgmjfmgcaaAcg3
import Derived.Test.YthpjhmgmjfmgcaaAcg1
import Derived.Test.YthpjhmgmjfmgcaaAcg12
/- Dice: numbers that are given out one after the other. -/
namespace Go.Proofs.Ythpjhmgmjfmgcaa
open Go.ChangeShapes Go.WideShapes Go.RowKit

/-- a slice of ints -/
def IntsAt (A : Nat → Prop) (w : World) (tv : Value) (ts : List Int) : Prop := ∃ p cap, tv = .slice p ts.length cap ∧ Holds A w p (ts.map (.int .i64)) ∧ ts.length ≤ 400 ∧ ∀ n ∈ ts, (Lit.int .i64 n).wf = true
theorem IntsAt.keep {A : Nat → Prop} {w w' : World} {tv : Value} {ts : List Int} (h : IntsAt A w tv ts) (hk : Agree A w w') : IntsAt A w' tv ts := by
  obtain ⟨p, cap, hv, hh, r⟩ := h; exact ⟨p, cap, hv, hh.keep hk, r⟩
theorem IntsAt.mono {A B : Nat → Prop} {w : World} {tv : Value} {ts : List Int} (h : IntsAt A w tv ts) (hk : ∀ g, A g → B g) : IntsAt B w tv ts := by
  obtain ⟨p, cap, hv, hh, r⟩ := h; exact ⟨p, cap, hv, hh.mono hk, r⟩

/-- dice in block gd -/
def DiceAt (gd : Nat) (tv : Value) (ts : List Int) (w : World) : Prop := ∃ a : Nat, a ≤ ts.length ∧ Blk w gd [tv, .int .i64 a]
theorem DiceAt.lt {gd : Nat} {tv : Value} {ts : List Int} {w : World} (h : DiceAt gd tv ts w) : gd < w.heap.size := by obtain ⟨a, _, hb⟩ := h; exact hb.lt

/-- only the dice have changed, and are dice yet; memory may have been made -/
structure DR (gd : Nat) (tv : Value) (ts : List Int) (w w' : World) : Prop where
  os : w'.os = w.os
  tape : w'.tape = w.tape
  output : w'.output = w.output
  size : w.heap.size ≤ w'.heap.size
  block : ∀ k, k ≠ gd → k < w.heap.size → w'.heap[k]? = w.heap[k]?
  dice : DiceAt gd tv ts w → DiceAt gd tv ts w'

theorem DR.refl {gd : Nat} {tv : Value} {ts : List Int} (w : World) : DR gd tv ts w w := ⟨rfl, rfl, rfl, Nat.le_refl _, fun _ _ _ => rfl, id⟩
theorem DR.trans {gd : Nat} {tv : Value} {ts : List Int} {a b c : World} (h : DR gd tv ts a b) (k : DR gd tv ts b c) : DR gd tv ts a c :=
  ⟨k.os.trans h.os, k.tape.trans h.tape, k.output.trans h.output, Nat.le_trans h.size k.size, fun g hg hlt => (k.block g hg (Nat.lt_of_lt_of_le hlt h.size)).trans (h.block g hg hlt), fun hd => k.dice (h.dice hd)⟩
theorem DR.agree {gd : Nat} {tv : Value} {ts : List Int} {w w' : World} (h : DR gd tv ts w w') : Agree (· ≠ gd) w w' := fun g hg hlt => h.block g hg hlt
theorem DR.of_below {gd : Nat} {tv : Value} {ts : List Int} {w w' : World} (h : Below w.heap.size w w') : DR gd tv ts w w' :=
  ⟨h.os, h.tape, h.output, h.size, fun g _ hlt => h.block g hlt, fun ⟨a, ha, hb⟩ => ⟨a, ha, hb.call h⟩⟩
theorem DR.below {gd : Nat} {tv : Value} {ts : List Int} {w w' : World} (h : DR gd tv ts w w') (hg : gd < w.heap.size) {B : Nat} (hB : B ≤ gd) : Below B w w' :=
  ⟨h.os, h.tape, h.output, h.size, fun k hk => h.block k (by omega) (by omega)⟩
theorem dr_steps (gd : Nat) (tv : Value) (ts : List Int) : Lx.Steps (DR gd tv ts) :=
  ⟨fun w => DR.refl w, fun h k => h.trans k, fun w => DR.of_below (Below.refl _ w).drew⟩
theorem DR.set {gd : Nat} {tv : Value} {ts : List Int} {w : World} (p : Addr) (v : Value) (hp : p.block ≠ gd) {w0 : World} (h : DR gd tv ts w0 w) (hnew : w0.heap.size ≤ p.block) : DR gd tv ts w0 (w.setCell p v) := by
  refine ⟨h.os, h.tape, h.output, by simpa [World.setCell] using h.size, fun k hk hlt => ?_, fun hd => ?_⟩
  · rw [Below.heap_setCell _ _ _ _ (by omega)]; exact h.block k hk hlt
  · obtain ⟨a, ha, hb⟩ := h.dice hd
    exact ⟨a, ha, hb.other p v hp⟩

theorem DR.next {gd : Nat} {tv : Value} {ts : List Int} {w : World} {a : Nat} (h : Blk w gd [tv, .int .i64 a]) (ha : a + 1 ≤ ts.length) : DR gd tv ts w (w.setCell ⟨gd, 1, none⟩ (.int .i64 ((a : Int) + 1))) := by
  refine ⟨rfl, rfl, rfl, by simp [World.setCell], fun k hk hlt => Below.heap_setCell _ _ _ _ hk, fun _ => ⟨a + 1, ha, ?_⟩⟩
  have := h.set 1 (.int .i64 ((a : Int) + 1)) (by simp)
  simpa using this

theorem DR.of_any {gd : Nat} {tv : Value} {ts : List Int} {a b c : World} (h : DR gd tv ts a b) (k : DR gd tv ts b c) : DR gd tv ts a c := h.trans k

/-- what a region with dice keeps -/
def DS (gd : Nat) (tv : Value) (ts : List Int) (w w' : World) : Prop :=
  (∀ b o, b ≠ gd → b < w.heap.size → w'.cell? ⟨b, o, none⟩ = w.cell? ⟨b, o, none⟩) ∧ (∀ b o, b ≠ gd → b < w.heap.size → w'.frozen? ⟨b, o, none⟩ = w.frozen? ⟨b, o, none⟩) ∧ DR gd tv ts w w'
theorem DS.of {gd : Nat} {tv : Value} {ts : List Int} {w w' : World} (h : DR gd tv ts w w') : DS gd tv ts w w' :=
  ⟨fun b o hb hlt => World.cell?_of_block (w := w) (h.block b hb hlt), fun b o hb hlt => World.frozen?_of_block (w := w) (h.block b hb hlt), h⟩
theorem DS.step {gd : Nat} {tv : Value} {ts : List Int} {w w1 w2 : World} (h : DS gd tv ts w w1) (k : DR gd tv ts w1 w2) : DS gd tv ts w w2 := DS.of (h.2.2.trans k)

theorem mod_below (n m : Int) (w : World) (hn : (Lit.int .i64 n).wf = true) (h0 : 1 ≤ m) (h1 : m ≤ 4611686018427387903) :
    Calls Try.prog 12 #[.int .i64 n, .int .i64 m] w fun e w' => e = .returned (.int .i64 (n % m)) ∧ Below w.heap.size w w' :=
  (mod_any n m w hn h0 h1).mono fun e w' ⟨he, hw⟩ => ⟨he, by rw [← hw]; exact Below.refl _ _⟩

set_option maxRecDepth 100000 in
set_option maxHeartbeats 800000 in
theorem next_any (gd : Nat) (tv : Value) (ts : List Int) (n : Int) (w : World) (hd : DiceAt gd tv ts w) (ht : IntsAt (· ≠ gd) w tv ts) (h1 : 1 ≤ n) (h2 : n ≤ 4611686018427387903) :
    Calls Try.prog 46 #[.pointer (some ⟨gd, 0, none⟩), .int .i64 n] w fun e w' => ∃ k : Int, e = .returned (.int .i64 k) ∧ 0 ≤ k ∧ k < n ∧ DR gd tv ts w w' := by
  obtain ⟨a, ha, hb⟩ := hd
  obtain ⟨p, cap, rfl, hh, hl, hwf⟩ := ht
  obtain ⟨l, hl2⟩ : ∃ l, ts.length = l := ⟨_, rfl⟩
  rw [hl2] at ha hl hb
  rw [hl2]
  have Hl := Lib.hid hl2
  have Hh := Lib.hid hh
  have Hwf := Lib.hid hwf
  have HB := Lib.hid hb
  have H2 := Lib.hid h2
  have H1 := Lib.hid h1
  clear hl2 hh hwf h2
  have c0 := hb.cells 0
  have c1 := hb.cells 1
  have f1 := hb.frozen 1
  have z := hb.lt
  simp only [List.getElem?_cons_zero, List.getElem?_cons_succ] at c0 c1
  clear hb
  by_cases hal : a < l
  · have hd : decide (l ≤ a) = false := by simp; omega
    have ha400 : a < 400 := by omega
    have hat : a < ts.length := by rw [Hl.out]; exact hal
    obtain ⟨g, off, rfl, hA, hg, hc⟩ := Hh.out.at (by rw [List.length_map, Hl.out]; omega)
    have hca : w.cell? ⟨g, off + a, none⟩ = some (.int .i64 ts[a]) := hc a _ (by rw [List.getElem?_map, List.getElem?_eq_getElem hat]; rfl)
    have hw := Hwf.out _ (List.getElem_mem hat)
    obtain ⟨x, hx⟩ : ∃ x, ts[a] = x := ⟨_, rfl⟩
    rw [hx] at hca hw
    clear hx hc h1
    have Hw := Lib.hid hw
    clear hw
    go_enter Try.func46, Try.ntmps46
    go_upto_region 1 with fail
    refine Lx.region Lx.below_steps [(0, true), (1, true), (2, true), (3, true), (4, true), (5, true), (6, true), (7, true), (8, true)] [(9, false)] (fun w' => (∀ b o, b < w.heap.size → w'.cell? ⟨b, o, none⟩ = w.cell? ⟨b, o, none⟩) ∧ (∀ b o, b < w.heap.size → w'.frozen? ⟨b, o, none⟩ = w.frozen? ⟨b, o, none⟩) ∧ Below w.heap.size w w') (by kernel_rfl) (by kernel_rfl) (fun _ _ _ _ _ h => h) (fun _ h => held_below h) (fun _ _ h hb => held_call h hb) ?_; intro xa hbxa; replace hbxa : Below w.heap.size w xa := hbxa; simp only [Lx.pick, List.filterMap_cons, List.filterMap_nil, List.getElem?_cons_succ, List.getElem?_cons_zero, List.map_cons, List.map_nil]; have hSxa := held_below hbxa
    repeat (first | (refine Lx.takeY ?_ (by rfl) ?_ (by assumption) ?_; rotate_left; (focus (intro w' hSw; (try dsimp only at hSw); go_simp; (try with_reducible rfl))); simp only [Act.put, List.setIfInBounds_toArray, List.set_cons_zero, List.set_cons_succ]) | (refine Lx.takeN (by rfl) (by assumption) ?_; simp only [Act.put, List.setIfInBounds_toArray, List.set_cons_zero, List.set_cons_succ]))
    refine Lx.tail ?_
    have c0a := cell_keep hbxa c0
    have c1a := cell_keep hbxa c1
    have f1a : xa.frozen? ⟨gd, 1, none⟩ = false := by rw [hbxa.frozen (p := ⟨gd, 1, none⟩) z]; exact f1
    have za : gd < xa.heap.size := Nat.lt_of_lt_of_le z hbxa.size
    have hcaa := cell_keep hbxa hca
    have HBa := Lib.hid (HB.out.call hbxa)
    have Hca := Lib.hid hcaa
    have Hba := Lib.hid hbxa
    clear c0 c1 f1 hca hSxa hbxa
    go_upto_region 4 with fail
    clear c0a c1a f1a za hcaa
    have hst := DR.next (ts := ts) HBa.out (by rw [Hl.out]; exact hal)
    have hbs := HBa.out.set 1 (.int .i64 ((a : Int) + 1)) (by simp)
    have hcs := HBa.out.lt
    have hca2 : (xa.setCell ⟨gd, 1, none⟩ (.int .i64 ((a : Int) + 1))).cell? ⟨g, off + a, none⟩ = some (.int .i64 x) := by
      rw [World.cell?_setCell_other (h := fun e => by injection e with e1; exact hA e1.symm)]; exact Hca.out
    simp only [List.set_cons_zero, List.set_cons_succ] at hbs
    have hsz : (xa.setCell ⟨gd, 1, none⟩ (.int .i64 ((a : Int) + 1))).heap.size = xa.heap.size := by simp [World.setCell]
    generalize xa.setCell ⟨gd, 1, none⟩ (.int .i64 ((a : Int) + 1)) = wb at *
    have c0 := hbs.cells 0
    have c1 := hbs.cells 1
    have zb := hbs.lt
    have zg : g < wb.heap.size := by rw [hsz]; exact Nat.lt_of_lt_of_le hg Hba.out.size
    have Hst := Lib.hid hst
    simp only [List.getElem?_cons_zero, List.getElem?_cons_succ] at c0 c1
    have hwr : IntKind.i64.wrap (a : Int) = (a : Int) := by rw [IntKind.wrap_i64]; omega
    have hwr0 : (0 : Int) ≤ (a : Int) := by omega
    clear hst hbs hcs hsz
    refine Lx.region Lx.below_steps [(0, true), (1, true), (2, true), (3, true), (4, true), (5, true), (6, true), (7, true), (8, true), (9, true), (10, true), (11, true), (12, false)] [(13, false)] (fun w' => (∀ b o, b < wb.heap.size → w'.cell? ⟨b, o, none⟩ = wb.cell? ⟨b, o, none⟩) ∧ (∀ b o, b < wb.heap.size → w'.frozen? ⟨b, o, none⟩ = wb.frozen? ⟨b, o, none⟩) ∧ Below wb.heap.size wb w') (by kernel_rfl) (by kernel_rfl) (fun _ _ _ _ _ h => h) (fun _ h => held_below h) (fun _ _ h hb => held_call h hb) ?_; intro xb hbxb; replace hbxb : Below wb.heap.size wb xb := hbxb; simp only [Lx.pick, List.filterMap_cons, List.filterMap_nil, List.getElem?_cons_succ, List.getElem?_cons_zero, List.map_cons, List.map_nil]; have hSxb := held_below hbxb
    repeat (first | (refine Lx.takeY ?_ (by rfl) ?_ (by assumption) ?_; rotate_left; (focus (intro w' hSw; (try dsimp only at hSw); go_simp; (try with_reducible rfl))); simp only [Act.put, List.setIfInBounds_toArray, List.set_cons_zero, List.set_cons_succ]) | (refine Lx.takeN (by rfl) (by assumption) ?_; simp only [Act.put, List.setIfInBounds_toArray, List.set_cons_zero, List.set_cons_succ]))
    clear hwr hwr0
    refine Lx.go ?_; intro K hK; go_simp; go_at_call 12; refine (mod_below x n _ Hw.out H1.out H2.out).mono ?_; rintro e w0xc ⟨rfl, hb0xc⟩; refine hK _ _ hb0xc ?_; clear hK K; intro wxc hbxc; replace hbxc : Below w0xc.heap.size w0xc wxc := hbxc; have hSxc := held_call (held_call hSxb hb0xc) hbxc; try simp only [Act.put, List.setIfInBounds_toArray, List.set_cons_zero, List.set_cons_succ]
    have hall := ext_trans hbxb (ext_trans hb0xc hbxc)
    have HD := Lib.hid (((DR.of_below Hba.out).trans Hst.out).trans (DR.of_below hall))
    clear hall hSxb hSxc hb0xc hbxc hbxb c0 c1 zb zg hca2
    refine Lx.tail ?_
    go_wp2_with fail
    go_ret
    have hn := H1.out
    exact ⟨_, rfl, Int.emod_nonneg _ (by omega), Int.emod_lt_of_pos _ (by omega), HD.out⟩
  · have hd : decide (l ≤ a) = true := by simp; omega
    go_enter Try.func46, Try.ntmps46
    go_upto_region 1 with fail
    refine Lx.region Lx.below_steps [(0, true), (1, true), (2, true), (3, true), (4, true), (5, true), (6, true), (7, true), (8, true)] [(9, false)] (fun w' => (∀ b o, b < w.heap.size → w'.cell? ⟨b, o, none⟩ = w.cell? ⟨b, o, none⟩) ∧ (∀ b o, b < w.heap.size → w'.frozen? ⟨b, o, none⟩ = w.frozen? ⟨b, o, none⟩) ∧ Below w.heap.size w w') (by kernel_rfl) (by kernel_rfl) (fun _ _ _ _ _ h => h) (fun _ h => held_below h) (fun _ _ h hb => held_call h hb) ?_; intro xa hbxa; replace hbxa : Below w.heap.size w xa := hbxa; simp only [Lx.pick, List.filterMap_cons, List.filterMap_nil, List.getElem?_cons_succ, List.getElem?_cons_zero, List.map_cons, List.map_nil]; have hSxa := held_below hbxa
    repeat (first | (refine Lx.takeY ?_ (by rfl) ?_ (by assumption) ?_; rotate_left; (focus (intro w' hSw; (try dsimp only at hSw); go_simp; (try with_reducible rfl))); simp only [Act.put, List.setIfInBounds_toArray, List.set_cons_zero, List.set_cons_succ]) | (refine Lx.takeN (by rfl) (by assumption) ?_; simp only [Act.put, List.setIfInBounds_toArray, List.set_cons_zero, List.set_cons_succ]))
    have HD := Lib.hid (DR.of_below (gd := gd) (tv := .slice p l cap) (ts := ts) hbxa)
    clear hSxa hbxa c0 c1 f1
    refine Lx.tail ?_
    go_wp2_with fail
    go_ret
    have hn := H1.out
    exact ⟨_, rfl, Int.le_refl _, by omega, HD.out⟩

theorem roll_any (tv : Value) (ts : List Int) (w : World) (ht : ∃ p cap, tv = .slice p ts.length cap) :
    Calls Try.prog 10 #[tv] w fun e w' => ∃ gd, e = .returned (.pointer (some ⟨gd, 0, none⟩)) ∧ Below w.heap.size w w' ∧ w.heap.size ≤ gd ∧ DiceAt gd tv ts w' := by
  obtain ⟨p, cap, rfl⟩ := ht
  go_enter Try.func10, Try.ntmps10
  go_wp2_with fail
  go_ret
  exact ⟨_, rfl, ext_alloc (ext_refl w) _, Nat.le_refl _, 0, Nat.zero_le _, Blk.new w [_, _] _⟩

theorem light_any (tv : Value) (n : Nat) (w : World) (ht : ∃ p cap, tv = .slice p n cap) :
    Calls Try.prog 8 #[tv] w fun e w' => e = .returned (.bool (decide (n ≤ 400))) ∧ w = w' := by
  obtain ⟨p, cap, rfl⟩ := ht
  go_enter Try.func8, Try.ntmps8
  go_wp2_with fail
  go_ret
  exact ⟨ret_bool (by rw [Bool.eq_iff_iff]; simp; omega), rfl⟩
end Go.Proofs.Ythpjhmgmjfmgcaa
/- The made disks: 'some'. -/
namespace Go.Proofs.Ythpjhmgmjfmgcaa
open Go.ChangeShapes Go.WideShapes Go.RowKit

theorem putR_good {D : Dk.Dsk} (h : Dk.Good D) (k : Int) {bs : Dk.Row} (hr : D.writes.length < 64) : Dk.Good (Dk.putR D k bs).1 ∧ (Dk.putR D k bs).1.writes.length ≤ D.writes.length + 1 ∧ (Dk.putR D k bs).1.cells.length = D.cells.length := by
  unfold Dk.putR
  split
  · exact ⟨h, Nat.le_succ _, rfl⟩
  · rename_i hk
    simp only [Decidable.not_not] at hk
    split
    · exact ⟨h, Nat.le_succ _, rfl⟩
    · rename_i hl
      split
      · exact ⟨h, Nat.le_succ _, rfl⟩
      · exact ⟨Dk.put_good h hk.1 hk.2 (by simpa using hl) hr, by simp [Dk.put], rfl⟩

theorem sync_good {D : Dk.Dsk} (h : Dk.Good D) : Dk.Good (Dk.sync D) ∧ (Dk.sync D).writes = [] ∧ (Dk.sync D).cells.length = D.cells.length :=
  ⟨Dk.crash_good h _ _, rfl, by simp [Dk.sync, Dk.crash, Dk.many_length]⟩

theorem DiskAt.parts {A : Nat → Prop} {w : World} {v : Value} {D : Dk.Dsk} (h : DiskAt A w v D) : ∃ p c p2 c2, v = .agg #[.slice p D.cells.length c, .slice p2 D.writes.length c2] := by
  obtain ⟨_, _, rfl, ⟨p, c, vs, rfl, _⟩, ⟨p2, c2, cs, rfl, _⟩⟩ := h
  exact ⟨p, c, p2, c2, rfl⟩
theorem DiskAt.lt {A : Nat → Prop} {w : World} {v : Value} {D : Dk.Dsk} (h : DiskAt A w v D) : DiskAt (fun g => A g ∧ g < w.heap.size) w v D := by
  obtain ⟨cv, wv', hv, ⟨p, c, vs, e1, e2, e3, e4⟩, ⟨p2, c2, cs2, f1, f2, f3, f4, f5⟩⟩ := h
  refine ⟨cv, wv', hv, ⟨p, c, vs, e1, e2.lt, e3, fun i r hi => ?_⟩, ⟨p2, c2, cs2, f1, f2.lt, f3, fun i k r hi => ?_, f5⟩⟩
  · obtain ⟨u, hu, hbr⟩ := e4 i r hi; exact ⟨u, hu, hbr.lt⟩
  · obtain ⟨h1, u, hu, hbr⟩ := f4 i k r hi; exact ⟨h1, u, hu, hbr.lt⟩

/-- a variable of a disk, and its disk elsewhere -/
structure DVar (gd lo : Nat) (w : World) (g : Nat) (cv wv : Value) (D : Dk.Dsk) : Prop where
  blk : Blk w g [cv, wv]
  disk : DiskAt (fun b => lo ≤ b ∧ b ≠ g ∧ b ≠ gd) w (.agg #[cv, wv]) D
  good : Dk.Good D
theorem DVar.dr {gd lo : Nat} {w w' : World} {g : Nat} {cv wv : Value} {D : Dk.Dsk} {tv : Value} {ts : List Int} (h : DVar gd lo w g cv wv D) (k : DR gd tv ts w w') (hg : g ≠ gd) : DVar gd lo w' g cv wv D :=
  ⟨h.blk.keep k.agree k.size hg, h.disk.keep (k.agree.mono fun b hb => hb.2.2), h.good⟩
/-- a new disk is stored in the variable -/
theorem DVar.put {gd lo lo2 : Nat} {w : World} {g : Nat} {cv wv cv2 wv2 : Value} {D2 : Dk.Dsk} (h : Blk w g [cv, wv]) (hn : DiskAt (lo2 ≤ ·) w (.agg #[cv2, wv2]) D2) (hl : lo ≤ lo2) (hg : g < lo2) (hgd : gd < lo2) (h2 : Dk.Good D2) :
    DVar gd lo ((w.setCell ⟨g, 0, none⟩ cv2).setCell ⟨g, 1, none⟩ wv2) g cv2 wv2 D2 := by
  refine ⟨?_, ?_, h2⟩
  · have := (h.set 0 cv2 (by simp)).set 1 wv2 (by simp)
    simpa using this
  · have hk : Agree (fun b => lo2 ≤ b) w ((w.setCell ⟨g, 0, none⟩ cv2).setCell ⟨g, 1, none⟩ wv2) := ((agree_at w g 0 cv2).mono fun b hb => by omega).trans (by simp [World.setCell]) ((agree_at _ g 1 wv2).mono fun b hb => by omega)
    exact (hn.keep hk).mono fun b hb => by omega

set_option maxRecDepth 100000 in
set_option maxHeartbeats 1600000 in
theorem some_any (gd : Nat) (tv : Value) (ts : List Int) (w : World) (hd : DiceAt gd tv ts w) (ht : IntsAt (· ≠ gd) w tv ts) :
    Calls Try.prog 11 #[.pointer (some ⟨gd, 0, none⟩)] w fun e w' => ∃ v' D, e = .returned v' ∧ DR gd tv ts w w' ∧ Dk.Good D ∧ D.writes.length ≤ 7 ∧ D.cells.length ≤ 5 ∧ DiskAt (w.heap.size ≤ ·) w' v' D := by
  have Ht := Lib.hid (fun w2 (h : DR gd tv ts w w2) => ht.keep h.agree)
  have Hd := Lib.hid hd
  have hgd := hd.lt
  clear ht hd
  go_enter Try.func11, Try.ntmps11
  go_upto_region 1 with fail
  obtain ⟨w1, hw1, B0, hb1⟩ := fresh_blk w [Value.slice none 0 0, Value.slice none 0 0] 25
  have hz1 : w1.heap.size = w.heap.size + 1 := by rw [← hw1]; simp
  rw [hw1]
  have D1 : DR gd tv ts w w1 := DR.of_below hb1
  clear hw1 hb1
  have HD1 := Lib.hid D1
  clear D1
  have HB0 := Lib.hid B0
  clear B0
  go_wp2_with fail
  refine (next_any gd tv ts 5 _ (HD1.out.dice Hd.out) (Ht.out _ HD1.out) (by decide) (by decide)).mono ?_
  rintro e w2 ⟨k, rfl, hk0, hk5, D2⟩
  obtain ⟨kn, rfl⟩ := Int.eq_ofNat_of_zero_le hk0
  have HD2 := Lib.hid (HD1.out.trans D2)
  have HB02 := Lib.hid (HB0.out.keep D2.agree D2.size (by omega))
  have hs2 := D2.size
  clear D2
  go_wp2_with fail
  rw [show (1 + (kn : Int)) = ((kn + 1 : Nat) : Int) by omega]
  refine (rnew_any (kn + 1) _ (by omega) (by omega)).mono ?_
  rintro e w3 ⟨v3, rfl, hb3, hD3⟩
  obtain ⟨p3, c3, p4, c4, rfl⟩ := hD3.parts
  have HD3 := Lib.hid (HD2.out.trans (DR.of_below hb3))
  have HB03 := Lib.hid (HB02.out.call hb3)
  have hs3 := hb3.size
  unfold newRes
  go_upto_region 2 with fail
  obtain ⟨w4, hw4, B3, hb4⟩ := fresh_blk w3 [Value.slice p3 (Dk.new (kn + 1)).cells.length c3, Value.slice p4 (Dk.new (kn + 1)).writes.length c4] 25
  rw [hw4]
  have hg0 := Dk.new_good (n := kn + 1) (by omega) (by omega)
  have hlen0 : (Dk.new (kn + 1)).cells.length ≤ 5 := by simp [Dk.new]; omega
  have hwr0 : (Dk.new (kn + 1)).writes.length = 0 := rfl
  have hV : DVar gd w2.heap.size w4 w3.heap.size (Value.slice p3 (Dk.new (kn + 1)).cells.length c3) (Value.slice p4 (Dk.new (kn + 1)).writes.length c4) (Dk.new (kn + 1)) :=
    ⟨B3, (hD3.lt.keep (agree_below hb4)).mono fun b hb => by omega, hg0⟩
  generalize Dk.new (kn + 1) = D0 at *
  have HV := Lib.hid hV
  have HD4 := Lib.hid (HD3.out.trans (DR.of_below hb4))
  have HB04 := Lib.hid (HB03.out.call hb4)
  have hs4 := hb4.size
  have hl4 := B3.lt
  clear hw4 hV B3 hD3 hb3 hb4 HD2 HD3 HB02 HB03 HB0 HD1 hg0
  obtain ⟨lo, hlo⟩ : ∃ lo, lo = w2.heap.size := ⟨_, rfl⟩
  obtain ⟨g3, hg3⟩ : ∃ g3, g3 = w3.heap.size := ⟨_, rfl⟩
  rw [← hlo, ← hg3] at HV
  rw [← hg3]
  have hlo2 : w.heap.size < lo := by omega
  have hlo3 : lo ≤ g3 := by omega
  have hg34 : g3 < w4.heap.size := by omega
  clear hlo hg3 hs2 hs3 hs4 hl4 hz1
  go_wp2_with fail
  refine (next_any gd tv ts 8 _ (HD4.out.dice Hd.out) (Ht.out _ HD4.out) (by decide) (by decide)).mono ?_
  rintro e w5 ⟨k5, rfl, hk50, hk58, D5⟩
  have HV5 := Lib.hid (HV.out.dr D5 (by omega))
  have HB05 := Lib.hid (HB04.out.keep D5.agree D5.size (by omega))
  have HD5 := Lib.hid (HD4.out.trans D5)
  have hg35 : g3 < w5.heap.size := Nat.lt_of_lt_of_le hg34 D5.size
  clear D5 HV HB04 HD4 hg34
  go_wp2_with fail
  go_loopw [5] (fun i wr => ∃ (k : Int) (cv wv : Value) (D : Dk.Dsk), i = .int .i64 k ∧ 0 ≤ k ∧ k < 8 ∧ Hid ((D.writes.length : Int) + k ≤ 7 ∧ D.cells.length ≤ 5) ∧ Hid (DVar gd lo wr g3 cv wv D) ∧ Hid (Blk wr w.heap.size [Value.slice none 0 0, Value.slice none 0 0]) ∧ Hid (DR gd tv ts w wr)) (fun i _ => (intOf i).toNat)
  case atStart => exact ⟨k5, _, _, D0, rfl, hk50, hk58, ⟨by omega, hlen0⟩, HV5, HB05, HD5⟩
  case round =>
    obtain ⟨k, cv, wv, D, rfl, hk0', hk8', hcnt, hV, hB, hDR⟩ := hrel
    clear HV5 HB05 HD5 hwr0 hlen0 hk50 hk58 hg35
    obtain ⟨p, c, p2, c2, hv⟩ := hV.out.disk.parts
    simp only [Value.agg.injEq, Array.mk.injEq, List.cons.injEq, and_true] at hv
    obtain ⟨rfl, rfl⟩ := hv
    obtain ⟨n, hn⟩ : ∃ n, D.cells.length = n := ⟨_, rfl⟩
    obtain ⟨m, hm⟩ : ∃ m, D.writes.length = m := ⟨_, rfl⟩
    rw [hn, hm] at hV
    have hn1 : 1 ≤ n := by rw [← hn]; exact hV.out.good.some
    have hn5 : n ≤ 5 := by rw [← hn]; exact hcnt.out.2
    have c30 := hV.out.blk.cells 0
    have c31 := hV.out.blk.cells 1
    have z3 := hV.out.blk.lt
    have z0 := hB.out.lt
    have hgd2 : gd ≠ g3 := by omega
    have hgd3 : g3 ≠ gd := by omega
    simp only [List.getElem?_cons_zero, List.getElem?_cons_succ] at c30 c31
    have Hn := Lib.hid hn
    have Hm := Lib.hid hm
    clear hn hm
    by_cases hk : 0 < k
    · have hd : decide (k > 0) = true := by simpa using hk
      go_upto_region 5 with fail
      refine Lx.region (dr_steps gd tv ts) [(0, true), (1, true), (2, true), (3, true), (4, true), (6, true), (5, false), (7, false), (8, true), (9, false), (10, false), (11, true)] [(12, true), (13, true), (14, false)] (fun w' => (∀ b o, b ≠ gd → b < wr.heap.size → w'.cell? ⟨b, o, none⟩ = wr.cell? ⟨b, o, none⟩) ∧ (∀ b o, b ≠ gd → b < wr.heap.size → w'.frozen? ⟨b, o, none⟩ = wr.frozen? ⟨b, o, none⟩) ∧ DR gd tv ts wr w') (by kernel_rfl) (by kernel_rfl) (fun _ _ _ _ _ h => h) (fun _ h => DS.of h) (fun _ _ h hb => DS.step h hb) ?_; intro xa hbxa; replace hbxa : DR gd tv ts wr xa := hbxa; simp only [Lx.pick, List.filterMap_cons, List.filterMap_nil, List.getElem?_cons_succ, List.getElem?_cons_zero, List.map_cons, List.map_nil]; have hSxa : DS gd tv ts wr xa := DS.of hbxa
      repeat (first | (refine Lx.takeY ?_ (by rfl) ?_ (by assumption) ?_; rotate_left; (focus (intro w' hSw; (try dsimp only at hSw); go_simp; (try with_reducible rfl))); simp only [Act.put, List.setIfInBounds_toArray, List.set_cons_zero, List.set_cons_succ]) | (refine Lx.takeN (by rfl) (by assumption) ?_; simp only [Act.put, List.setIfInBounds_toArray, List.set_cons_zero, List.set_cons_succ]))
      have hDa := hDR.out.trans hbxa
      refine Lx.go ?_; intro K hK; go_simp; go_at_call 46; refine (next_any gd tv ts n _ (hDa.dice Hd.out) (Ht.out _ hDa) (by omega) (by omega)).mono ?_; rintro e w0xb ⟨k2, rfl, hk20, hk2n, hb0xb⟩; refine hK _ _ (by first | exact hb0xb | exact DR.of_below hb0xb) ?_; clear hK K; intro wxb hbxb; have hcxb := hbxb; replace hbxb := DR.of_any (by first | exact hb0xb | exact DR.of_below hb0xb) hbxb; have hSxb := DS.step hSxa hbxb; try simp only [Act.put, List.setIfInBounds_toArray, List.set_cons_zero, List.set_cons_succ]
      have hDb := hDa.trans hbxb
      refine Lx.go ?_; intro K hK; go_simp; go_at_call 46; refine (next_any gd tv ts 9 _ (hDb.dice Hd.out) (Ht.out _ hDb) (by decide) (by decide)).mono ?_; rintro e w0xc ⟨k9, rfl, hk90, hk9n, hb0xc⟩; refine hK _ _ (by first | exact hb0xc | exact DR.of_below hb0xc) ?_; clear hK K; intro wxc hbxc; have hcxc := hbxc; replace hbxc := DR.of_any (by first | exact hb0xc | exact DR.of_below hb0xc) hbxc; have hSxc := DS.step hSxb hbxc; try simp only [Act.put, List.setIfInBounds_toArray, List.set_cons_zero, List.set_cons_succ]
      have hDc := hDb.trans hbxc
      have hwk : IntKind.i64.wrap (1 + k9) = 1 + k9 := IntWalk.i64_in _ (by omega)
      repeat (first | (refine Lx.takeY ?_ (by rfl) ?_ (by assumption) ?_; rotate_left; (focus (intro w' hSw; (try dsimp only at hSw); go_simp; (try with_reducible rfl))); simp only [Act.put, List.setIfInBounds_toArray, List.set_cons_zero, List.set_cons_succ]) | (refine Lx.takeN (by rfl) (by assumption) ?_; simp only [Act.put, List.setIfInBounds_toArray, List.set_cons_zero, List.set_cons_succ]))
      clear hwk
      refine Lx.go ?_; intro K hK; go_simp; go_at_call 17; refine (sector_any (1 + k9) _ (by omega) (by omega)).mono ?_; rintro e w0xd ⟨v9, rfl, hb0xd, hrow⟩; refine hK _ _ (by first | exact hb0xd | exact DR.of_below hb0xd) ?_; clear hK K; intro wxd hbxd; have hcxd := hbxd; replace hbxd := DR.of_any (by first | exact hb0xd | exact DR.of_below hb0xd) hbxd; have hSxd := DS.step hSxc hbxd; try simp only [Act.put, List.setIfInBounds_toArray, List.set_cons_zero, List.set_cons_succ]
      have hDd := hDc.trans hbxd
      have hgdc : gd < wxc.heap.size := (hDc.dice Hd.out).lt
      have hrowd := hrow.keep (hcxd.agree.mono fun b hb => by omega)
      have hdisk := hV.out.disk.keep ((hSxd.2.2.agree).mono fun b hb => hb.2.2)
      obtain ⟨q9, c9, rfl, hq9, hc9⟩ := hrowd
      have hq9t : Holds (fun _ => True) wxd q9 _ := hq9.mono fun _ _ => trivial
      have hlen : (List.replicate 64 (UInt8.ofNat (1 + k9).toNat)).length = 64 := by simp
      generalize List.replicate 64 (UInt8.ofNat (1 + k9).toNat) = bs at *
      have Hlen := Lib.hid hlen
      rw [hlen]
      clear hlen
      have Hdisk : Hid (DiskAt (fun _ => True) wxd (.agg #[.slice p n c, .slice p2 m c2]) D) := hdisk.mono fun _ _ => trivial
      have Hq9 : Hid (BRow0 (fun _ => True) wxd (.slice q9 64 c9) bs) := ⟨q9, c9, by rw [Hlen.out], hq9t⟩
      clear hq9 hq9t hdisk hrow hc9
      refine Lx.go ?_; intro K hK; go_simp; go_at_call 23; refine (rput_any _ D k2 _ bs _ Hdisk.out hV.out.good Hq9.out (Nat.le_trans (Nat.le_of_eq Hlen.out) (by decide))).mono ?_; rintro e w0xe ⟨v5, rfl, hb0xe, hDk⟩; refine hK _ _ (by first | exact hb0xe | exact DR.of_below hb0xe) ?_; clear hK K; intro wxe hbxe; have hcxe := hbxe; replace hbxe := DR.of_any (by first | exact hb0xe | exact DR.of_below hb0xe) hbxe; have hSxe := DS.step hSxd hbxe; try simp only [Act.put, List.setIfInBounds_toArray, List.set_cons_zero, List.set_cons_succ]
      have hroom : D.writes.length < 64 := by have := hcnt.out.1; omega
      obtain ⟨hg2, hw2, hc2⟩ := putR_good hV.out.good k2 (bs := bs) hroom
      have hcnt2 : ((Dk.putR D k2 bs).1.writes.length : Int) + (k - 1) ≤ 7 ∧ (Dk.putR D k2 bs).1.cells.length ≤ 5 := ⟨by have := hcnt.out.1; omega, by rw [hc2]; exact hcnt.out.2⟩
      have hDk2 := hDk.keep (hcxe.agree.mono fun b hb => by have := hDd.size; omega)
      generalize (Dk.putR D k2 bs).1 = D2 at *
      generalize (Dk.putR D k2 bs).2 = cd at *
      obtain ⟨p5, c5, p6, c6, rfl⟩ := hDk2.parts
      have c30e := (hSxe.1 g3 0 hgd3 z3).trans c30
      have c31e := (hSxe.1 g3 1 hgd3 z3).trans c31
      have f30e := (hSxe.2.1 g3 0 hgd3 z3).trans (hV.out.blk.frozen 0)
      have f31e := (hSxe.2.1 g3 1 hgd3 z3).trans (hV.out.blk.frozen 1)
      have z3e : g3 < wxe.heap.size := Nat.lt_of_lt_of_le z3 hSxe.2.2.size
      have hV2 := DVar.put (gd := gd) (lo := lo) (hV.out.blk.keep hSxe.2.2.agree hSxe.2.2.size hgd3) hDk2 (by have := hSxd.2.2.size; omega) (by have := hSxd.2.2.size; omega) (by have := hDd.size; omega) hg2
      have hB2 := ((hB.out.keep hSxe.2.2.agree hSxe.2.2.size (by omega)).other ⟨g3, 0, none⟩ (Value.slice p5 D2.cells.length c5) (by show g3 ≠ _; omega)).other ⟨g3, 1, none⟩ (Value.slice p6 D2.writes.length c6) (by show g3 ≠ _; omega)
      have hDR2 := ((hDR.out.trans hSxe.2.2).set ⟨g3, 0, none⟩ (Value.slice p5 D2.cells.length c5) hgd3 (by show w.heap.size ≤ g3; omega)).set ⟨g3, 1, none⟩ (Value.slice p6 D2.writes.length c6) hgd3 (by show w.heap.size ≤ g3; omega)
      have HV2 := Lib.hid hV2
      have HB2 := Lib.hid hB2
      have HDR2 := Lib.hid hDR2
      have Hcnt2 := Lib.hid hcnt2
      clear hc2 hw2 hg2
      unfold newRes
      repeat (first | (refine Lx.takeY ?_ (by rfl) ?_ (by assumption) ?_; rotate_left; (focus (intro w' hSw; (try dsimp only at hSw); go_simp; (try with_reducible rfl))); simp only [Act.put, List.setIfInBounds_toArray, List.set_cons_zero, List.set_cons_succ]) | (refine Lx.takeN (by rfl) (by assumption) ?_; simp only [Act.put, List.setIfInBounds_toArray, List.set_cons_zero, List.set_cons_succ]))
      refine Lx.tail ?_
      clear hV2 hB2 hDR2 hcnt2 hSxa hSxb hSxc hSxd hSxe hbxa hbxb hbxc hbxd hbxe hcxb hcxc hcxd hcxe hb0xb hb0xc hb0xd hb0xe hDa hDb hDc hDd hgdc hDk hDk2 hV hB hDR hcnt c30 c31 Hdisk Hq9
      go_upto_region 6 with fail
      clear c30e c31e f30e f31e z3e
      generalize (wxe.setCell ⟨g3, 0, none⟩ (Value.slice p5 D2.cells.length c5)).setCell ⟨g3, 1, none⟩ (Value.slice p6 D2.writes.length c6) = wf at *
      go_wp2_with fail
      refine (next_any gd tv ts 5 _ (HDR2.out.dice Hd.out) (Ht.out _ HDR2.out) (by decide) (by decide)).mono ?_
      rintro e wg ⟨k6, rfl, hk60, hk65, DG⟩
      have HVg := Lib.hid (HV2.out.dr DG hgd3)
      have HBg := Lib.hid (HB2.out.keep DG.agree DG.size (by omega))
      have HDg := Lib.hid (HDR2.out.trans DG)
      clear DG HV2 HB2 HDR2
      by_cases h6 : k6 = 0
      · subst h6
        have d30 := HVg.out.blk.cells 0
        have d31 := HVg.out.blk.cells 1
        have zg := HVg.out.blk.lt
        simp only [List.getElem?_cons_zero, List.getElem?_cons_succ] at d30 d31
        go_wp2_with fail
        refine (rsync_any (A := fun b => lo ≤ b ∧ b ≠ g3 ∧ b ≠ gd) _ D2 _ HVg.out.disk HVg.out.good).mono ?_
        rintro e wh ⟨v7, rfl, hbh, hDh⟩
        obtain ⟨p7, c7, p8, c8, rfl⟩ := hDh.parts
        obtain ⟨hg7, hw7, hc7⟩ := sync_good HVg.out.good
        have hB3 := HVg.out.blk.call hbh
        have e30 := hB3.cells 0
        have e31 := hB3.cells 1
        have e30f := hB3.frozen 0
        have e31f := hB3.frozen 1
        have zh := hB3.lt
        simp only [List.getElem?_cons_zero, List.getElem?_cons_succ] at e30 e31
        have hdg := (HDg.out.dice Hd.out).lt
        have hV3 := DVar.put (gd := gd) (lo := lo) hB3 hDh (by omega) (by omega) hdg hg7
        have hcnt3 : ((Dk.sync D2).writes.length : Int) + (k - 1) ≤ 7 ∧ (Dk.sync D2).cells.length ≤ 5 := ⟨by rw [hw7]; simp; omega, by rw [hc7]; exact Hcnt2.out.2⟩
        have hB4 := ((HBg.out.call hbh).other ⟨g3, 0, none⟩ (Value.slice p7 (Dk.sync D2).cells.length c7) (by show g3 ≠ _; omega)).other ⟨g3, 1, none⟩ (Value.slice p8 (Dk.sync D2).writes.length c8) (by show g3 ≠ _; omega)
        have hDR4 := ((HDg.out.trans (DR.of_below hbh)).set ⟨g3, 0, none⟩ (Value.slice p7 (Dk.sync D2).cells.length c7) hgd3 (by show w.heap.size ≤ g3; omega)).set ⟨g3, 1, none⟩ (Value.slice p8 (Dk.sync D2).writes.length c8) hgd3 (by show w.heap.size ≤ g3; omega)
        have HV3 := Lib.hid hV3
        have HB4 := Lib.hid hB4
        have HDR4 := Lib.hid hDR4
        have Hcnt3 := Lib.hid hcnt3
        clear hV3 hB4 hDR4 hcnt3 hDh hbh hB3 hg7 hw7 hc7 d30 d31 zg
        go_wp2_with fail
        go_roundw
        case rel => exact ⟨k - 1, _, _, _, rfl, by omega, by omega, Hcnt3, HV3, HB4, HDR4⟩
        case measure => simp [intOf]; omega
      · have h6b : (k6 == 0) = false := by simpa using h6
        clear h6
        go_wp2_with fail
        go_roundw
        case rel => exact ⟨k - 1, _, _, _, rfl, by omega, by omega, Hcnt2, HVg, HBg, HDg⟩
        case measure => simp [intOf]; omega
    · have hd : decide (k > 0) = false := by simpa using hk
      have c20 := hB.out.cells 0
      have c21 := hB.out.cells 1
      have f20 := hB.out.frozen 0
      have f21 := hB.out.frozen 1
      simp only [List.getElem?_cons_zero, List.getElem?_cons_succ] at c20 c21
      go_wp2_with fail
      have hk : Agree (fun b => w.heap.size < b) wr ((wr.setCell ⟨w.heap.size, 0, none⟩ (.slice p n c)).setCell ⟨w.heap.size, 1, none⟩ (.slice p2 m c2)) := ((agree_at wr _ _ _).mono fun b hb => by omega).trans (by simp [World.setCell]) ((agree_at _ _ _ _).mono fun b hb => by omega)
      have hdr := (hDR.out.set ⟨w.heap.size, 0, none⟩ (.slice p n c) (by show w.heap.size ≠ gd; omega) (Nat.le_refl _)).set ⟨w.heap.size, 1, none⟩ (.slice p2 m c2) (by show w.heap.size ≠ gd; omega) (Nat.le_refl _)
      refine bodyPost_ret (v := .agg #[.slice p n c, .slice p2 m c2]) (by simp [results, Try.results11, go_sem, c20, c21]) rfl ?_
      exact ⟨_, rfl, hdr, D, hV.out.good, by have := hcnt.out.1; omega, hcnt.out.2, (hV.out.disk.mono (fun b hb => (by omega : w.heap.size < b))).keep hk |>.mono fun b hb => Nat.le_of_lt hb⟩
end Go.Proofs.Ythpjhmgmjfmgcaa
