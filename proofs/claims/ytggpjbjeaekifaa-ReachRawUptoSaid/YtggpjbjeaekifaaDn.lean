/- Dice of recompilemade: numbers that are given out one after the other. -/
import Derived.Test.YtggpjbjeaekifaaSl
import Derived.Test.YtggpjbjeaekifaaMm
import Derived.Test.YtggpjbjeaekifaaLx
namespace Go.Proofs.Ytggpjbjeaekifaa
open Go.ChangeShapes Go.WideShapes Go.RowKit

/-- a slice of ints -/
def IntsAt (A : Nat → Prop) (w : World) (tv : Value) (ts : List Int) : Prop := ∃ p cap, tv = .slice p ts.length cap ∧ Holds A w p (ts.map (.int .i64)) ∧ ts.length ≤ 400 ∧ ∀ n ∈ ts, (Lit.int .i64 n).wf = true
theorem IntsAt.keep {A : Nat → Prop} {w w' : World} {tv : Value} {ts : List Int} (h : IntsAt A w tv ts) (hk : Agree A w w') : IntsAt A w' tv ts := by
  obtain ⟨p, cap, hv, hh, r⟩ := h; exact ⟨p, cap, hv, hh.keep hk, r⟩
theorem IntsAt.mono {A B : Nat → Prop} {w : World} {tv : Value} {ts : List Int} (h : IntsAt A w tv ts) (hk : ∀ g, A g → B g) : IntsAt B w tv ts := by
  obtain ⟨p, cap, hv, hh, r⟩ := h; exact ⟨p, cap, hv, hh.mono hk, r⟩

/-- dice in block gd -/
def DiceAt (gd : Nat) (tv : Value) (ts : List Int) (w : World) : Prop := ∃ a : Nat, a ≤ ts.length ∧ Blk w gd [tv, .int .i64 a]
theorem DiceAt.lt {gd : Nat} {tv : Value} {ts : List Int} {w : World} (h : DiceAt gd tv ts w) : gd < w.heap.size := by obtain ⟨a, _, hb⟩ := h; exact hb.lt

/-- only the dice have changed, and are dice yet; memory may have been made -/
structure DR (gd : Nat) (tv : Value) (ts : List Int) (w w' : World) : Prop where
  os : w'.os = w.os
  tape : w'.tape = w.tape
  output : w'.output = w.output
  size : w.heap.size ≤ w'.heap.size
  block : ∀ k, k ≠ gd → k < w.heap.size → w'.heap[k]? = w.heap[k]?
  dice : DiceAt gd tv ts w → DiceAt gd tv ts w'

theorem DR.refl {gd : Nat} {tv : Value} {ts : List Int} (w : World) : DR gd tv ts w w := ⟨rfl, rfl, rfl, Nat.le_refl _, fun _ _ _ => rfl, id⟩
theorem DR.trans {gd : Nat} {tv : Value} {ts : List Int} {a b c : World} (h : DR gd tv ts a b) (k : DR gd tv ts b c) : DR gd tv ts a c :=
  ⟨k.os.trans h.os, k.tape.trans h.tape, k.output.trans h.output, Nat.le_trans h.size k.size, fun g hg hlt => (k.block g hg (Nat.lt_of_lt_of_le hlt h.size)).trans (h.block g hg hlt), fun hd => k.dice (h.dice hd)⟩
theorem DR.agree {gd : Nat} {tv : Value} {ts : List Int} {w w' : World} (h : DR gd tv ts w w') : Agree (· ≠ gd) w w' := fun g hg hlt => h.block g hg hlt
theorem DR.of_below {gd : Nat} {tv : Value} {ts : List Int} {w w' : World} (h : Below w.heap.size w w') : DR gd tv ts w w' :=
  ⟨h.os, h.tape, h.output, h.size, fun g _ hlt => h.block g hlt, fun ⟨a, ha, hb⟩ => ⟨a, ha, hb.call h⟩⟩
theorem DR.below {gd : Nat} {tv : Value} {ts : List Int} {w w' : World} (h : DR gd tv ts w w') (hg : gd < w.heap.size) {B : Nat} (hB : B ≤ gd) : Below B w w' :=
  ⟨h.os, h.tape, h.output, h.size, fun k hk => h.block k (by omega) (by omega)⟩
theorem dr_steps (gd : Nat) (tv : Value) (ts : List Int) : Lx.Steps (DR gd tv ts) :=
  ⟨fun w => DR.refl w, fun h k => h.trans k, fun w => DR.of_below (Below.refl _ w).drew⟩
theorem DR.set {gd : Nat} {tv : Value} {ts : List Int} {w : World} (p : Addr) (v : Value) (hp : p.block ≠ gd) {w0 : World} (h : DR gd tv ts w0 w) (hnew : w0.heap.size ≤ p.block) : DR gd tv ts w0 (w.setCell p v) := by
  refine ⟨h.os, h.tape, h.output, by simpa [World.setCell] using h.size, fun k hk hlt => ?_, fun hd => ?_⟩
  · rw [Below.heap_setCell _ _ _ _ (by omega)]; exact h.block k hk hlt
  · obtain ⟨a, ha, hb⟩ := h.dice hd
    exact ⟨a, ha, hb.other p v hp⟩

theorem DR.next {gd : Nat} {tv : Value} {ts : List Int} {w : World} {a : Nat} (h : Blk w gd [tv, .int .i64 a]) (ha : a + 1 ≤ ts.length) : DR gd tv ts w (w.setCell ⟨gd, 1, none⟩ (.int .i64 ((a : Int) + 1))) := by
  refine ⟨rfl, rfl, rfl, by simp [World.setCell], fun k hk hlt => Below.heap_setCell _ _ _ _ hk, fun _ => ⟨a + 1, ha, ?_⟩⟩
  have := h.set 1 (.int .i64 ((a : Int) + 1)) (by simp)
  simpa using this

theorem DR.of_any {gd : Nat} {tv : Value} {ts : List Int} {a b c : World} (h : DR gd tv ts a b) (k : DR gd tv ts b c) : DR gd tv ts a c := h.trans k

/-- what a region with dice keeps -/
def DS (gd : Nat) (tv : Value) (ts : List Int) (w w' : World) : Prop :=
  (∀ b o, b ≠ gd → b < w.heap.size → w'.cell? ⟨b, o, none⟩ = w.cell? ⟨b, o, none⟩) ∧ (∀ b o, b ≠ gd → b < w.heap.size → w'.frozen? ⟨b, o, none⟩ = w.frozen? ⟨b, o, none⟩) ∧ DR gd tv ts w w'
theorem DS.of {gd : Nat} {tv : Value} {ts : List Int} {w w' : World} (h : DR gd tv ts w w') : DS gd tv ts w w' :=
  ⟨fun b o hb hlt => World.cell?_of_block (w := w) (h.block b hb hlt), fun b o hb hlt => World.frozen?_of_block (w := w) (h.block b hb hlt), h⟩
theorem DS.step {gd : Nat} {tv : Value} {ts : List Int} {w w1 w2 : World} (h : DS gd tv ts w w1) (k : DR gd tv ts w1 w2) : DS gd tv ts w w2 := DS.of (h.2.2.trans k)

theorem mod_below (n m : Int) (w : World) (hn : (Lit.int .i64 n).wf = true) (h0 : 1 ≤ m) (h1 : m ≤ 4611686018427387903) :
    Calls Try.prog 11 #[.int .i64 n, .int .i64 m] w fun e w' => e = .returned (.int .i64 (n % m)) ∧ Below w.heap.size w w' :=
  (mmod_any n m w hn h0 h1).mono fun e w' ⟨he, hw⟩ => ⟨he, by rw [← hw]; exact Below.refl _ _⟩

set_option maxRecDepth 100000 in
set_option maxHeartbeats 800000 in
theorem next_any (gd : Nat) (tv : Value) (ts : List Int) (n : Int) (w : World) (hd : DiceAt gd tv ts w) (ht : IntsAt (· ≠ gd) w tv ts) (h1 : 1 ≤ n) (h2 : n ≤ 4611686018427387903) :
    Calls Try.prog 20 #[.pointer (some ⟨gd, 0, none⟩), .int .i64 n] w fun e w' => ∃ k : Int, e = .returned (.int .i64 k) ∧ 0 ≤ k ∧ k < n ∧ DR gd tv ts w w' := by
  obtain ⟨a, ha, hb⟩ := hd
  obtain ⟨p, cap, rfl, hh, hl, hwf⟩ := ht
  obtain ⟨l, hl2⟩ : ∃ l, ts.length = l := ⟨_, rfl⟩
  rw [hl2] at ha hl hb
  rw [hl2]
  have Hl := Lib.hid hl2
  have Hh := Lib.hid hh
  have Hwf := Lib.hid hwf
  have HB := Lib.hid hb
  have H2 := Lib.hid h2
  have H1 := Lib.hid h1
  clear hl2 hh hwf h2
  have c0 := hb.cells 0
  have c1 := hb.cells 1
  have f1 := hb.frozen 1
  have z := hb.lt
  simp only [List.getElem?_cons_zero, List.getElem?_cons_succ] at c0 c1
  clear hb
  by_cases hal : a < l
  · have hd : decide (l ≤ a) = false := by simp; omega
    have ha400 : a < 400 := by omega
    have hat : a < ts.length := by rw [Hl.out]; exact hal
    obtain ⟨g, off, rfl, hA, hg, hc⟩ := Hh.out.at (by rw [List.length_map, Hl.out]; omega)
    have hca : w.cell? ⟨g, off + a, none⟩ = some (.int .i64 ts[a]) := hc a _ (by rw [List.getElem?_map, List.getElem?_eq_getElem hat]; rfl)
    have hw := Hwf.out _ (List.getElem_mem hat)
    obtain ⟨x, hx⟩ : ∃ x, ts[a] = x := ⟨_, rfl⟩
    rw [hx] at hca hw
    clear hx hc h1
    have Hw := Lib.hid hw
    clear hw
    go_enter Try.func20, Try.ntmps20
    go_upto_region 1 with fail
    refine Lx.region Lx.below_steps [(0, true), (1, true), (2, true), (3, true), (4, true), (5, true), (6, true), (7, true), (8, true)] [(9, false)] (fun w' => (∀ b o, b < w.heap.size → w'.cell? ⟨b, o, none⟩ = w.cell? ⟨b, o, none⟩) ∧ (∀ b o, b < w.heap.size → w'.frozen? ⟨b, o, none⟩ = w.frozen? ⟨b, o, none⟩) ∧ Below w.heap.size w w') (by kernel_rfl) (by kernel_rfl) (fun _ _ _ _ _ h => h) (fun _ h => held_below h) (fun _ _ h hb => held_call h hb) ?_; intro xa hbxa; replace hbxa : Below w.heap.size w xa := hbxa; simp only [Lx.pick, List.filterMap_cons, List.filterMap_nil, List.getElem?_cons_succ, List.getElem?_cons_zero, List.map_cons, List.map_nil]; have hSxa := held_below hbxa
    repeat (first | (refine Lx.takeY ?_ (by rfl) ?_ (by assumption) ?_; rotate_left; (focus (intro w' hSw; (try dsimp only at hSw); go_simp; (try with_reducible rfl))); simp only [Act.put, List.setIfInBounds_toArray, List.set_cons_zero, List.set_cons_succ]) | (refine Lx.takeN (by rfl) (by assumption) ?_; simp only [Act.put, List.setIfInBounds_toArray, List.set_cons_zero, List.set_cons_succ]))
    refine Lx.tail ?_
    have c0a := cell_keep hbxa c0
    have c1a := cell_keep hbxa c1
    have f1a : xa.frozen? ⟨gd, 1, none⟩ = false := by rw [hbxa.frozen (p := ⟨gd, 1, none⟩) z]; exact f1
    have za : gd < xa.heap.size := Nat.lt_of_lt_of_le z hbxa.size
    have hcaa := cell_keep hbxa hca
    have HBa := Lib.hid (HB.out.call hbxa)
    have Hca := Lib.hid hcaa
    have Hba := Lib.hid hbxa
    clear c0 c1 f1 hca hSxa hbxa
    go_upto_region 4 with fail
    clear c0a c1a f1a za hcaa
    have hst := DR.next (ts := ts) HBa.out (by rw [Hl.out]; exact hal)
    have hbs := HBa.out.set 1 (.int .i64 ((a : Int) + 1)) (by simp)
    have hcs := HBa.out.lt
    have hca2 : (xa.setCell ⟨gd, 1, none⟩ (.int .i64 ((a : Int) + 1))).cell? ⟨g, off + a, none⟩ = some (.int .i64 x) := by
      rw [World.cell?_setCell_other (h := fun e => by injection e with e1; exact hA e1.symm)]; exact Hca.out
    simp only [List.set_cons_zero, List.set_cons_succ] at hbs
    have hsz : (xa.setCell ⟨gd, 1, none⟩ (.int .i64 ((a : Int) + 1))).heap.size = xa.heap.size := by simp [World.setCell]
    generalize xa.setCell ⟨gd, 1, none⟩ (.int .i64 ((a : Int) + 1)) = wb at *
    have c0 := hbs.cells 0
    have c1 := hbs.cells 1
    have zb := hbs.lt
    have zg : g < wb.heap.size := by rw [hsz]; exact Nat.lt_of_lt_of_le hg Hba.out.size
    have Hst := Lib.hid hst
    simp only [List.getElem?_cons_zero, List.getElem?_cons_succ] at c0 c1
    have hwr : IntKind.i64.wrap (a : Int) = (a : Int) := by rw [IntKind.wrap_i64]; omega
    have hwr0 : (0 : Int) ≤ (a : Int) := by omega
    clear hst hbs hcs hsz
    refine Lx.region Lx.below_steps [(0, true), (1, true), (2, true), (3, true), (4, true), (5, true), (6, true), (7, true), (8, true), (9, true), (10, true), (11, true), (12, false)] [(13, false)] (fun w' => (∀ b o, b < wb.heap.size → w'.cell? ⟨b, o, none⟩ = wb.cell? ⟨b, o, none⟩) ∧ (∀ b o, b < wb.heap.size → w'.frozen? ⟨b, o, none⟩ = wb.frozen? ⟨b, o, none⟩) ∧ Below wb.heap.size wb w') (by kernel_rfl) (by kernel_rfl) (fun _ _ _ _ _ h => h) (fun _ h => held_below h) (fun _ _ h hb => held_call h hb) ?_; intro xb hbxb; replace hbxb : Below wb.heap.size wb xb := hbxb; simp only [Lx.pick, List.filterMap_cons, List.filterMap_nil, List.getElem?_cons_succ, List.getElem?_cons_zero, List.map_cons, List.map_nil]; have hSxb := held_below hbxb
    repeat (first | (refine Lx.takeY ?_ (by rfl) ?_ (by assumption) ?_; rotate_left; (focus (intro w' hSw; (try dsimp only at hSw); go_simp; (try with_reducible rfl))); simp only [Act.put, List.setIfInBounds_toArray, List.set_cons_zero, List.set_cons_succ]) | (refine Lx.takeN (by rfl) (by assumption) ?_; simp only [Act.put, List.setIfInBounds_toArray, List.set_cons_zero, List.set_cons_succ]))
    clear hwr hwr0
    refine Lx.go ?_; intro K hK; go_simp; go_at_call 11; refine (mod_below x n _ Hw.out H1.out H2.out).mono ?_; rintro e w0xc ⟨rfl, hb0xc⟩; refine hK _ _ hb0xc ?_; clear hK K; intro wxc hbxc; replace hbxc : Below w0xc.heap.size w0xc wxc := hbxc; have hSxc := held_call (held_call hSxb hb0xc) hbxc; try simp only [Act.put, List.setIfInBounds_toArray, List.set_cons_zero, List.set_cons_succ]
    have hall := ext_trans hbxb (ext_trans hb0xc hbxc)
    have HD := Lib.hid (((DR.of_below Hba.out).trans Hst.out).trans (DR.of_below hall))
    clear hall hSxb hSxc hb0xc hbxc hbxb c0 c1 zb zg hca2
    refine Lx.tail ?_
    go_wp2_with fail
    go_ret
    have hn := H1.out
    exact ⟨_, rfl, Int.emod_nonneg _ (by omega), Int.emod_lt_of_pos _ (by omega), HD.out⟩
  · have hd : decide (l ≤ a) = true := by simp; omega
    go_enter Try.func20, Try.ntmps20
    go_upto_region 1 with fail
    refine Lx.region Lx.below_steps [(0, true), (1, true), (2, true), (3, true), (4, true), (5, true), (6, true), (7, true), (8, true)] [(9, false)] (fun w' => (∀ b o, b < w.heap.size → w'.cell? ⟨b, o, none⟩ = w.cell? ⟨b, o, none⟩) ∧ (∀ b o, b < w.heap.size → w'.frozen? ⟨b, o, none⟩ = w.frozen? ⟨b, o, none⟩) ∧ Below w.heap.size w w') (by kernel_rfl) (by kernel_rfl) (fun _ _ _ _ _ h => h) (fun _ h => held_below h) (fun _ _ h hb => held_call h hb) ?_; intro xa hbxa; replace hbxa : Below w.heap.size w xa := hbxa; simp only [Lx.pick, List.filterMap_cons, List.filterMap_nil, List.getElem?_cons_succ, List.getElem?_cons_zero, List.map_cons, List.map_nil]; have hSxa := held_below hbxa
    repeat (first | (refine Lx.takeY ?_ (by rfl) ?_ (by assumption) ?_; rotate_left; (focus (intro w' hSw; (try dsimp only at hSw); go_simp; (try with_reducible rfl))); simp only [Act.put, List.setIfInBounds_toArray, List.set_cons_zero, List.set_cons_succ]) | (refine Lx.takeN (by rfl) (by assumption) ?_; simp only [Act.put, List.setIfInBounds_toArray, List.set_cons_zero, List.set_cons_succ]))
    have HD := Lib.hid (DR.of_below (gd := gd) (tv := .slice p l cap) (ts := ts) hbxa)
    clear hSxa hbxa c0 c1 f1
    refine Lx.tail ?_
    go_wp2_with fail
    go_ret
    have hn := H1.out
    exact ⟨_, rfl, Int.le_refl _, by omega, HD.out⟩

theorem roll_any (tv : Value) (ts : List Int) (w : World) (ht : ∃ p cap, tv = .slice p ts.length cap) :
    Calls Try.prog 8 #[tv] w fun e w' => ∃ gd, e = .returned (.pointer (some ⟨gd, 0, none⟩)) ∧ Below w.heap.size w w' ∧ w.heap.size ≤ gd ∧ DiceAt gd tv ts w' := by
  obtain ⟨p, cap, rfl⟩ := ht
  go_enter Try.func8, Try.ntmps8
  go_wp2_with fail
  go_ret
  exact ⟨_, rfl, ext_alloc (ext_refl w) _, Nat.le_refl _, 0, Nat.zero_le _, Blk.new w [_, _] _⟩

theorem light_any (tv : Value) (n : Nat) (w : World) (ht : ∃ p cap, tv = .slice p n cap) :
    Calls Try.prog 6 #[tv] w fun e w' => e = .returned (.bool (decide (n ≤ 400))) ∧ w = w' := by
  obtain ⟨p, cap, rfl⟩ := ht
  go_enter Try.func6, Try.ntmps6
  go_wp2_with fail
  go_ret
  exact ⟨ret_bool (by rw [Bool.eq_iff_iff]; simp; omega), rfl⟩
end Go.Proofs.Ytggpjbjeaekifaa
