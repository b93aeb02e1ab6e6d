/- Programs that are being made: dice and a program in memory. -/
import Derived.Test.YtpjdboebambneaaSl
import Derived.Test.YtpjdboebambneaaLx
import Derived.Test.YtpjdboebambneaaMm
namespace Go.Proofs.Ytpjdboebambneaa
open Go.ChangeShapes Go.WideShapes Go.RowKit

def strB (c : Nat) : Value → Bool
  | .string S => decide (S.size ≤ c)
  | _ => false
/-- a slice of n strings of at most c bytes, only read -/
def SR (c : Nat) (A : Nat → Prop) (w : World) (v : Value) (n : Nat) : Prop := ∃ p cap vs, v = .slice p n cap ∧ vs.length = n ∧ Holds A w p vs ∧ vs.all (strB c) = true
theorem SR.keep {c : Nat} {A : Nat → Prop} {w w' : World} {v : Value} {n : Nat} (h : SR c A w v n) (hk : Agree A w w') : SR c A w' v n := by
  obtain ⟨p, cap, vs, hv, hn, hh, r⟩ := h; exact ⟨p, cap, vs, hv, hn, hh.keep hk, r⟩
theorem SR.mono {c : Nat} {A B : Nat → Prop} {w : World} {v : Value} {n : Nat} (h : SR c A w v n) (hk : ∀ g, A g → B g) : SR c B w v n := by
  obtain ⟨p, cap, vs, hv, hn, hh, r⟩ := h; exact ⟨p, cap, vs, hv, hn, hh.mono hk, r⟩
theorem SR.nil (c : Nat) (A : Nat → Prop) (w : World) : SR c A w (.slice none 0 0) 0 := ⟨none, 0, [], rfl, rfl, .inl rfl, rfl⟩
theorem SR.parts {c : Nat} {A : Nat → Prop} {w : World} {v : Value} {n : Nat} (h : SR c A w v n) : ∃ p cap, v = .slice p n cap := by
  obtain ⟨p, cap, _, hv, _⟩ := h; exact ⟨p, cap, hv⟩
theorem SR.at {c : Nat} {A : Nat → Prop} {w : World} {p : Option Addr} {cap n k : Nat} (h : SR c A w (.slice p n cap) n) (hk : k < n) :
    ∃ g o S, p = some ⟨g, o, none⟩ ∧ A g ∧ g < w.heap.size ∧ w.cell? ⟨g, o + k, none⟩ = some (.string S) ∧ S.size ≤ c := by
  obtain ⟨p', cap', vs, hv, hn, hh, r⟩ := h
  simp only [Value.slice.injEq] at hv
  obtain ⟨rfl, _, rfl⟩ := hv
  obtain ⟨g, o, rfl, hA, hg, hc⟩ := hh.at (by omega)
  have hk2 : k < vs.length := by omega
  have hc2 := hc k vs[k] (List.getElem?_eq_getElem hk2)
  have hb := List.all_eq_true.1 r vs[k] (List.getElem_mem hk2)
  cases hs : vs[k] with
  | string S => rw [hs] at hb hc2; exact ⟨g, o, S, rfl, hA, hg, hc2, of_decide_eq_true hb⟩
  | _ => rw [hs] at hb; cases hb
theorem SR.new {c : Nat} {A : Nat → Prop} (w : World) (vs : List Value) (t : TypeId) {n : Nat} (hn : vs.length = n) (hA : A w.heap.size) (h : vs.all (strB c) = true) :
    SR c A (w.alloc (.cells vs.toArray t)) (.slice (some ⟨w.heap.size, 0, none⟩) n n) n := by
  have hb := Blk.new w vs t
  exact ⟨_, _, vs, rfl, hn, .inr ⟨w.heap.size, 0, rfl, hA, fun j v hj => by rw [Nat.zero_add]; exact (hb.cells j).trans hj⟩, h⟩

/-- numbers that came in -/
def NumsAt (A : Nat → Prop) (w : World) (tv : Value) (ts : List Int) : Prop := ∃ p cap, tv = .slice p ts.length cap ∧ Holds A w p (ts.map (.int .i64)) ∧ ts.length ≤ 400 ∧ ∀ n ∈ ts, (Lit.int .i64 n).wf = true
theorem NumsAt.keep {A : Nat → Prop} {w w' : World} {tv : Value} {ts : List Int} (h : NumsAt A w tv ts) (hk : Agree A w w') : NumsAt A w' tv ts := by
  obtain ⟨p, cap, hv, hh, r⟩ := h; exact ⟨p, cap, hv, hh.keep hk, r⟩
theorem NumsAt.mono {A B : Nat → Prop} {w : World} {tv : Value} {ts : List Int} (h : NumsAt A w tv ts) (hk : ∀ g, A g → B g) : NumsAt B w tv ts := by
  obtain ⟨p, cap, hv, hh, r⟩ := h; exact ⟨p, cap, hv, hh.mono hk, r⟩

/-- where dice and a program lie, and what does not turn of them -/
structure Env where
  gd : Nat
  gp : Nat
  tv : Value
  ts : List Int
  fv : Value
  cv : Value
  mv : Value
  nf : Nat
  nc : Nat
  nm : Nat
  recs : Bool
  shows : Bool
  mac : Bool
def Env.A (E : Env) (g : Nat) : Prop := g ≠ E.gd ∧ g ≠ E.gp
/-- the dice have given a numbers, the program has k variables -/
def PSt (E : Env) (w : World) (a k : Nat) : Prop :=
  a ≤ E.ts.length ∧ Blk w E.gd [E.tv, .int .i64 a] ∧ Blk w E.gp [.pointer (some ⟨E.gd, 0, none⟩), E.fv, E.cv, E.mv, .bool E.recs, .bool E.shows, .int .i64 k, .bool E.mac]
/-- only dice and program have changed -/
structure PX (E : Env) (w w' : World) : Prop where
  os : w'.os = w.os
  tape : w'.tape = w.tape
  output : w'.output = w.output
  size : w.heap.size ≤ w'.heap.size
  block : ∀ g, g ≠ E.gd → g ≠ E.gp → g < w.heap.size → w'.heap[g]? = w.heap[g]?
theorem PX.refl (E : Env) (w : World) : PX E w w := ⟨rfl, rfl, rfl, Nat.le_refl _, fun _ _ _ _ => rfl⟩
theorem PX.trans {E : Env} {a b c : World} (h : PX E a b) (k : PX E b c) : PX E a c :=
  ⟨k.os.trans h.os, k.tape.trans h.tape, k.output.trans h.output, Nat.le_trans h.size k.size, fun g h1 h2 hlt => (k.block g h1 h2 (Nat.lt_of_lt_of_le hlt h.size)).trans (h.block g h1 h2 hlt)⟩
theorem PX.of_below {E : Env} {w w' : World} (h : Below w.heap.size w w') : PX E w w' := ⟨h.os, h.tape, h.output, h.size, fun g _ _ hlt => h.block g hlt⟩
theorem PX.agree {E : Env} {w w' : World} (h : PX E w w') : Agree E.A w w' := fun g hg hlt => h.block g hg.1 hg.2 hlt
theorem PX.set {E : Env} {w0 w : World} (h : PX E w0 w) (p : Addr) (v : Value) (hp : p.block = E.gd ∨ p.block = E.gp ∨ w0.heap.size ≤ p.block) : PX E w0 (w.setCell p v) := by
  refine ⟨h.os, h.tape, h.output, by simpa [World.setCell] using h.size, fun g h1 h2 hlt => ?_⟩
  rw [Below.heap_setCell _ _ _ _ (by omega)]; exact h.block g h1 h2 hlt
theorem PX.grown {E : Env} {w0 w w' : World} {v : Value} {base n : Nat} {e : TypeId} {size : Nat} {xs : List Value} (h : PX E w0 w) (hg : w.grownBy w' v.ownBlock) (ho : w.ownsRow base e size v n xs) (hb : w0.heap.size ≤ base) : PX E w0 w' := by
  refine ⟨hg.os.trans h.os, hg.tape.trans h.tape, hg.output.trans h.output, Nat.le_trans h.size hg.size, fun g h1 h2 hlt => ?_⟩
  rw [hg.block g (Nat.lt_of_lt_of_le hlt h.size) (fun e => by have := (ho.lt _ e.symm).1; omega)]
  exact h.block g h1 h2 hlt
theorem PX.below {E : Env} {w w' : World} (h : PX E w w') {B : Nat} (h1 : B ≤ E.gd) (h2 : B ≤ E.gp) (hB : B ≤ w.heap.size) : Below B w w' :=
  ⟨h.os, h.tape, h.output, h.size, fun k hk => h.block k (by omega) (by omega) (by omega)⟩

theorem PSt.of_below {E : Env} {w w' : World} {a k : Nat} (h : PSt E w a k) (hb : Below w.heap.size w w') : PSt E w' a k := ⟨h.1, h.2.1.call hb, h.2.2.call hb⟩
theorem PSt.uniq {E : Env} {w : World} {a k b l : Nat} (h : PSt E w a k) (h' : PSt E w b l) : a = b ∧ k = l := by
  have c1 := (h.2.1.cells 1).symm.trans (h'.2.1.cells 1)
  have c2 := (h.2.2.cells 6).symm.trans (h'.2.2.cells 6)
  simp at c1 c2
  omega

/-- the same, and the variables are no more than twice the numbers that were given -/
structure PR (E : Env) (w w' : World) : Prop extends PX E w w' where
  st : ∀ a k, PSt E w a k → ∃ b l, PSt E w' b l ∧ a ≤ b ∧ k ≤ l ∧ l + 2 * a ≤ k + 2 * b
theorem PR.refl (E : Env) (w : World) : PR E w w := ⟨PX.refl E w, fun a k h => ⟨a, k, h, Nat.le_refl _, Nat.le_refl _, Nat.le_refl _⟩⟩
theorem PR.trans {E : Env} {a b c : World} (h : PR E a b) (k : PR E b c) : PR E a c :=
  ⟨h.toPX.trans k.toPX, fun x y hs => by
    obtain ⟨x1, y1, hs1, h1, h2, h3⟩ := h.st x y hs
    obtain ⟨x2, y2, hs2, k1, k2, k3⟩ := k.st x1 y1 hs1
    exact ⟨x2, y2, hs2, by omega, by omega, by omega⟩⟩
theorem PR.of_below {E : Env} {w w' : World} (h : Below w.heap.size w w') : PR E w w' := ⟨PX.of_below h, fun a k hs => ⟨a, k, hs.of_below h, Nat.le_refl _, Nat.le_refl _, Nat.le_refl _⟩⟩
theorem pr_steps (E : Env) : Lx.Steps (PR E) := ⟨fun w => PR.refl E w, fun h k => h.trans k, fun w => PR.of_below (Below.refl _ w).drew⟩
theorem PR.of_st {E : Env} {w w' : World} {a k b l : Nat} (h : PX E w w') (hs : PSt E w a k) (hs' : PSt E w' b l) (h1 : a ≤ b) (h2 : k ≤ l) (h3 : l + 2 * a ≤ k + 2 * b) : PR E w w' :=
  ⟨h, fun x y hxy => by obtain ⟨rfl, rfl⟩ := hxy.uniq hs; exact ⟨b, l, hs', h1, h2, h3⟩⟩

/-- dice and a program, with their slices -/
structure PE (E : Env) (w : World) : Prop where
  st : ∃ a k, PSt E w a k ∧ k ≤ 2 * a
  ne : E.gd ≠ E.gp
  nums : NumsAt E.A w E.tv E.ts
  fns : SR 20 E.A w E.fv E.nf
  cons : SR 20 E.A w E.cv E.nc
  macs : SR 20 E.A w E.mv E.nm
  few : E.nf ≤ 1000 ∧ E.nc ≤ 1000 ∧ E.nm ≤ 1000
theorem PE.keep {E : Env} {w w' : World} (h : PE E w) (hk : PR E w w') : PE E w' :=
  ⟨by obtain ⟨a, k, hs, hl⟩ := h.st; obtain ⟨b, l, hs', h1, h2, h3⟩ := hk.st a k hs; exact ⟨b, l, hs', by omega⟩, h.ne, h.nums.keep hk.agree, h.fns.keep hk.agree, h.cons.keep hk.agree, h.macs.keep hk.agree, h.few⟩
theorem PE.below {E : Env} {w w' : World} (h : PE E w) (hk : Below w.heap.size w w') : PE E w' := h.keep (PR.of_below hk)
theorem PE.alloc {E : Env} {w : World} (h : PE E w) (o : Obj) : PE E (w.alloc o) := h.below (ext_alloc (ext_refl w) o)
theorem PE.ltd {E : Env} {w : World} (h : PE E w) : E.gd < w.heap.size := by obtain ⟨a, k, hs, _⟩ := h.st; exact hs.2.1.lt
theorem PE.ltp {E : Env} {w : World} (h : PE E w) : E.gp < w.heap.size := by obtain ⟨a, k, hs, _⟩ := h.st; exact hs.2.2.lt
theorem PE.apart {E : Env} {w : World} (h : PE E w) : E.A w.heap.size := ⟨by have := h.ltd; omega, by have := h.ltp; omega⟩
theorem PR.alloc {E : Env} {w0 w : World} (h : PR E w0 w) (o : Obj) : PR E w0 (w.alloc o) := h.trans (PR.of_below (ext_alloc (ext_refl w) o))
theorem SR.pr {E : Env} {c : Nat} {w w' : World} {v : Value} {n : Nat} (h : SR c E.A w v n) (hk : PR E w w') : SR c E.A w' v n := h.keep hk.agree
theorem SR.alloc {E : Env} {c : Nat} {w : World} {v : Value} {n : Nat} (h : SR c E.A w v n) (o : Obj) : SR c E.A (w.alloc o) v n := h.keep (agree_below (ext_alloc (ext_refl w) o))

/-- what the walk reads of the program -/
theorem PE.cells {E : Env} {w : World} (h : PE E w) : w.cell? ⟨E.gp, 0, none⟩ = some (.pointer (some ⟨E.gd, 0, none⟩)) ∧ w.cell? ⟨E.gp, 1, none⟩ = some E.fv ∧ w.cell? ⟨E.gp, 2, none⟩ = some E.cv ∧ w.cell? ⟨E.gp, 3, none⟩ = some E.mv ∧
    w.cell? ⟨E.gp, 4, none⟩ = some (.bool E.recs) ∧ w.cell? ⟨E.gp, 5, none⟩ = some (.bool E.shows) ∧ w.cell? ⟨E.gp, 7, none⟩ = some (.bool E.mac) := by
  obtain ⟨a, k, hs, _⟩ := h.st
  have hb := hs.2.2
  exact ⟨hb.cells 0, hb.cells 1, hb.cells 2, hb.cells 3, hb.cells 4, hb.cells 5, hb.cells 7⟩

theorem mmod_below (n m : Int) (w : World) (hn : (Lit.int .i64 n).wf = true) (h0 : 1 ≤ m) (h1 : m ≤ 4611686018427387903) :
    Calls Try.prog 47 #[.int .i64 n, .int .i64 m] w fun e w' => e = .returned (.int .i64 (n % m)) ∧ Below w.heap.size w w' :=
  (mmod_any n m w hn h0 h1).mono fun e w' ⟨he, hw⟩ => ⟨he, by rw [← hw]; exact Below.refl _ _⟩

set_option maxRecDepth 100000 in
set_option maxHeartbeats 1600000 in
/-- the next number, with the dice's own count -/
theorem mnext_st (E : Env) (n : Int) (w : World) (a0 k0 : Nat) (hd : PSt E w a0 k0) (hne : E.gd ≠ E.gp) (ht : NumsAt E.A w E.tv E.ts) (h1 : 1 ≤ n) (h2 : n ≤ 4611686018427387903) :
    Calls Try.prog 61 #[.pointer (some ⟨E.gd, 0, none⟩), .int .i64 n] w fun e w' => ∃ (k : Int) (b : Nat), e = .returned (.int .i64 k) ∧ 0 ≤ k ∧ k < n ∧ PX E w w' ∧ PSt E w' b k0 ∧ a0 ≤ b ∧ (0 < k → a0 + 1 ≤ b) := by
  obtain ⟨ha, hb, hbp⟩ := hd
  obtain ⟨p, cap, htv, hh, hl, hwf⟩ := ht
  rw [htv] at hb
  obtain ⟨l, hl2⟩ : ∃ l, E.ts.length = l := ⟨_, rfl⟩
  rw [hl2] at ha hl hb htv
  have Hl := Lib.hid hl2
  have Hh := Lib.hid hh
  have Hwf := Lib.hid hwf
  have HB := Lib.hid hb
  have HBp := Lib.hid hbp
  have H2 := Lib.hid h2
  have H1 := Lib.hid h1
  have Htv := Lib.hid htv
  have Hne := Lib.hid hne
  obtain ⟨gd, hgd⟩ : ∃ g, E.gd = g := ⟨_, rfl⟩
  rw [hgd] at HB hb Hne ⊢
  have Hgd := Lib.hid hgd
  clear hl2 hh hwf h2 htv hbp hne hgd
  have c0 := hb.cells 0
  have c1 := hb.cells 1
  have f1 := hb.frozen 1
  have z := hb.lt
  simp only [List.getElem?_cons_zero, List.getElem?_cons_succ] at c0 c1
  clear hb
  have mk : Hid (∀ (w' : World) (b : Nat), b ≤ l → Blk w' gd [.slice p l cap, .int .i64 b] → Agree (· ≠ gd) w w' → w.heap.size ≤ w'.heap.size → PSt E w' b k0) := by
    intro w' b hbl hb' hag hsz
    refine ⟨by rw [Hl.out]; exact hbl, by rw [Hgd.out, Htv.out]; exact hb', HBp.out.keep hag hsz (fun e => Hne.out e.symm)⟩
  by_cases hal : a0 < l
  · have hd : decide (l ≤ a0) = false := by simp; omega
    have ha400 : a0 < 400 := by omega
    have hat : a0 < E.ts.length := by rw [Hl.out]; exact hal
    obtain ⟨g, off, rfl, hA, hg, hc⟩ := Hh.out.at (by rw [List.length_map, Hl.out]; omega)
    have hca : w.cell? ⟨g, off + a0, none⟩ = some (.int .i64 E.ts[a0]) := hc a0 _ (by rw [List.getElem?_map, List.getElem?_eq_getElem hat]; rfl)
    have hAd : g ≠ gd := by have := hA.1; rw [Hgd.out] at this; exact this
    have hw := Hwf.out _ (List.getElem_mem hat)
    obtain ⟨x, hx⟩ : ∃ x, E.ts[a0] = x := ⟨_, rfl⟩
    rw [hx] at hca hw
    clear hx hc h1 hA
    have Hw := Lib.hid hw
    clear hw
    go_enter Try.func61, Try.ntmps61
    go_upto_region 1 with fail
    refine Lx.region Lx.below_steps [(0, true), (1, true), (2, true), (3, true), (4, true), (5, true), (6, true), (7, true), (8, true)] [(9, false)] (fun w' => (∀ b o, b < w.heap.size → w'.cell? ⟨b, o, none⟩ = w.cell? ⟨b, o, none⟩) ∧ (∀ b o, b < w.heap.size → w'.frozen? ⟨b, o, none⟩ = w.frozen? ⟨b, o, none⟩) ∧ Below w.heap.size w w') (by kernel_rfl) (by kernel_rfl) (fun _ _ _ _ _ h => h) (fun _ h => held_below h) (fun _ _ h hb => held_call h hb) ?_; intro xa hbxa; replace hbxa : Below w.heap.size w xa := hbxa; simp only [Lx.pick, List.filterMap_cons, List.filterMap_nil, List.getElem?_cons_succ, List.getElem?_cons_zero, List.map_cons, List.map_nil]; have hSxa := held_below hbxa
    repeat (first | (refine Lx.takeY ?_ (by rfl) ?_ (by assumption) ?_; rotate_left; (focus (intro w' hSw; (try dsimp only at hSw); go_simp; (try with_reducible rfl))); simp only [Act.put, List.setIfInBounds_toArray, List.set_cons_zero, List.set_cons_succ]) | (refine Lx.takeN (by rfl) (by assumption) ?_; simp only [Act.put, List.setIfInBounds_toArray, List.set_cons_zero, List.set_cons_succ]))
    refine Lx.tail ?_
    have c0a := cell_keep hbxa c0
    have c1a := cell_keep hbxa c1
    have f1a : xa.frozen? ⟨gd, 1, none⟩ = false := by rw [hbxa.frozen (p := ⟨gd, 1, none⟩) z]; exact f1
    have za : gd < xa.heap.size := Nat.lt_of_lt_of_le z hbxa.size
    have hcaa := cell_keep hbxa hca
    have HBa := Lib.hid (HB.out.call hbxa)
    have Hca := Lib.hid hcaa
    have Hba := Lib.hid hbxa
    clear c0 c1 f1 hca hSxa hbxa
    go_upto_region 4 with fail
    clear c0a c1a f1a za hcaa
    have hst : PX E w (xa.setCell ⟨gd, 1, none⟩ (.int .i64 ((a0 : Int) + 1))) := (PX.of_below Hba.out).set _ _ (.inl Hgd.out.symm)
    have hag : Agree (· ≠ gd) w (xa.setCell ⟨gd, 1, none⟩ (.int .i64 ((a0 : Int) + 1))) := (agree_below Hba.out).trans Hba.out.size (agree_at xa gd 1 _)
    have hbs := HBa.out.set 1 (.int .i64 ((a0 : Int) + 1)) (by simp)
    have hcs := HBa.out.lt
    have hca2 : (xa.setCell ⟨gd, 1, none⟩ (.int .i64 ((a0 : Int) + 1))).cell? ⟨g, off + a0, none⟩ = some (.int .i64 x) := by
      rw [World.cell?_setCell_other (h := fun e => by injection e with e1; exact hAd e1.symm)]; exact Hca.out
    simp only [List.set_cons_zero, List.set_cons_succ] at hbs
    have hsz : (xa.setCell ⟨gd, 1, none⟩ (.int .i64 ((a0 : Int) + 1))).heap.size = xa.heap.size := by simp [World.setCell]
    generalize xa.setCell ⟨gd, 1, none⟩ (.int .i64 ((a0 : Int) + 1)) = wb at *
    have c0 := hbs.cells 0
    have c1 := hbs.cells 1
    have zb := hbs.lt
    have zg : g < wb.heap.size := by rw [hsz]; exact Nat.lt_of_lt_of_le hg Hba.out.size
    have Hst := Lib.hid hst
    have Hag := Lib.hid hag
    have Hbs := Lib.hid hbs
    simp only [List.getElem?_cons_zero, List.getElem?_cons_succ] at c0 c1
    have hwr : IntKind.i64.wrap (a0 : Int) = (a0 : Int) := by rw [IntKind.wrap_i64]; omega
    have hwr0 : (0 : Int) ≤ (a0 : Int) := by omega
    clear hst hbs hcs hsz hag
    refine Lx.region Lx.below_steps [(0, true), (1, true), (2, true), (3, true), (4, true), (5, true), (6, true), (7, true), (8, true), (9, true), (10, true), (11, true), (12, false)] [(13, false)] (fun w' => (∀ b o, b < wb.heap.size → w'.cell? ⟨b, o, none⟩ = wb.cell? ⟨b, o, none⟩) ∧ (∀ b o, b < wb.heap.size → w'.frozen? ⟨b, o, none⟩ = wb.frozen? ⟨b, o, none⟩) ∧ Below wb.heap.size wb w') (by kernel_rfl) (by kernel_rfl) (fun _ _ _ _ _ h => h) (fun _ h => held_below h) (fun _ _ h hb => held_call h hb) ?_; intro xb hbxb; replace hbxb : Below wb.heap.size wb xb := hbxb; simp only [Lx.pick, List.filterMap_cons, List.filterMap_nil, List.getElem?_cons_succ, List.getElem?_cons_zero, List.map_cons, List.map_nil]; have hSxb := held_below hbxb
    repeat (first | (refine Lx.takeY ?_ (by rfl) ?_ (by assumption) ?_; rotate_left; (focus (intro w' hSw; (try dsimp only at hSw); go_simp; (try with_reducible rfl))); simp only [Act.put, List.setIfInBounds_toArray, List.set_cons_zero, List.set_cons_succ]) | (refine Lx.takeN (by rfl) (by assumption) ?_; simp only [Act.put, List.setIfInBounds_toArray, List.set_cons_zero, List.set_cons_succ]))
    clear hwr hwr0
    refine Lx.go ?_; intro K hK; go_simp; go_at_call 47; refine (mmod_below x n _ Hw.out H1.out H2.out).mono ?_; rintro e w0xc ⟨rfl, hb0xc⟩; refine hK _ _ hb0xc ?_; clear hK K; intro wxc hbxc; replace hbxc : Below w0xc.heap.size w0xc wxc := hbxc; have hSxc := held_call (held_call hSxb hb0xc) hbxc; try simp only [Act.put, List.setIfInBounds_toArray, List.set_cons_zero, List.set_cons_succ]
    have hall := ext_trans hbxb (ext_trans hb0xc hbxc)
    have HD := Lib.hid (Hst.out.trans (PX.of_below hall))
    have HS := Lib.hid (mk.out wxc (a0 + 1) hal (by have := Hbs.out.call hall; simpa using this) (Hag.out.trans Hst.out.size (agree_below hall)) HD.out.size)
    clear hall hSxb hSxc hb0xc hbxc hbxb c0 c1 zb zg hca2
    refine Lx.tail ?_
    go_wp2_with fail
    go_ret
    have hn := H1.out
    exact ⟨_, a0 + 1, rfl, Int.emod_nonneg _ (by omega), Int.emod_lt_of_pos _ (by omega), HD.out, HS.out, by omega, fun _ => Nat.le_refl _⟩
  · have hd : decide (l ≤ a0) = true := by simp; omega
    go_enter Try.func61, Try.ntmps61
    go_upto_region 1 with fail
    refine Lx.region Lx.below_steps [(0, true), (1, true), (2, true), (3, true), (4, true), (5, true), (6, true), (7, true), (8, true)] [(9, false)] (fun w' => (∀ b o, b < w.heap.size → w'.cell? ⟨b, o, none⟩ = w.cell? ⟨b, o, none⟩) ∧ (∀ b o, b < w.heap.size → w'.frozen? ⟨b, o, none⟩ = w.frozen? ⟨b, o, none⟩) ∧ Below w.heap.size w w') (by kernel_rfl) (by kernel_rfl) (fun _ _ _ _ _ h => h) (fun _ h => held_below h) (fun _ _ h hb => held_call h hb) ?_; intro xa hbxa; replace hbxa : Below w.heap.size w xa := hbxa; simp only [Lx.pick, List.filterMap_cons, List.filterMap_nil, List.getElem?_cons_succ, List.getElem?_cons_zero, List.map_cons, List.map_nil]; have hSxa := held_below hbxa
    repeat (first | (refine Lx.takeY ?_ (by rfl) ?_ (by assumption) ?_; rotate_left; (focus (intro w' hSw; (try dsimp only at hSw); go_simp; (try with_reducible rfl))); simp only [Act.put, List.setIfInBounds_toArray, List.set_cons_zero, List.set_cons_succ]) | (refine Lx.takeN (by rfl) (by assumption) ?_; simp only [Act.put, List.setIfInBounds_toArray, List.set_cons_zero, List.set_cons_succ]))
    have HD := Lib.hid (PX.of_below (E := E) hbxa)
    have HS := Lib.hid (mk.out xa a0 ha (HB.out.call hbxa) (agree_below hbxa) hbxa.size)
    clear hSxa hbxa c0 c1 f1
    refine Lx.tail ?_
    go_wp2_with fail
    go_ret
    have hn := H1.out
    exact ⟨0, a0, rfl, Int.le_refl _, by omega, HD.out, HS.out, Nat.le_refl _, fun h => absurd h (Int.lt_irrefl _)⟩

theorem mnext_any (E : Env) (n : Int) (w : World) (hE : PE E w) (h1 : 1 ≤ n) (h2 : n ≤ 4611686018427387903) :
    Calls Try.prog 61 #[.pointer (some ⟨E.gd, 0, none⟩), .int .i64 n] w fun e w' => ∃ k : Int, e = .returned (.int .i64 k) ∧ 0 ≤ k ∧ k < n ∧ PR E w w' := by
  obtain ⟨a, k, hs, _⟩ := hE.st
  refine (mnext_st E n w a k hs hE.ne hE.nums h1 h2).mono ?_
  rintro e w' ⟨r, b, rfl, h3, h4, h5, h6, h7, _⟩
  exact ⟨r, rfl, h3, h4, PR.of_st h5 hs h6 h7 (Nat.le_refl _) (by omega)⟩
end Go.Proofs.Ytpjdboebambneaa
