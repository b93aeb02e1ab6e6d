/- A program that is being made, with the rows that it owns. -/
import Derived.Test.YtpjdboebambneaaMb
namespace Go.Proofs.Ytpjdboebambneaa
open Go.ChangeShapes Go.WideShapes Go.RowKit

def Own (B : Nat) (w : World) (v : Value) (n : Nat) : Prop := ∃ xs, w.ownsRow B 9 1 v n xs ∧ xs.all (strB 20) = true
theorem Own.nil (B : Nat) (w : World) : Own B w (.slice none 0 0) 0 := ⟨[], World.ownsRow_nil _ _ _ _, rfl⟩
theorem Own.lt {B : Nat} {w : World} {v : Value} {n : Nat} (h : Own B w v n) : ∀ g, v.ownBlock = some g → B ≤ g ∧ g < w.heap.size := by
  obtain ⟨xs, ho, _⟩ := h; exact ho.lt
theorem Own.keep {A : Nat → Prop} {B : Nat} {w w' : World} {v : Value} {n : Nat} (h : Own B w v n) (hk : Agree A w w') (hA : ∀ g, v.ownBlock = some g → A g) : Own B w' v n := by
  obtain ⟨xs, ho, ha⟩ := h; exact ⟨xs, ownsRow_keep ho hk hA, ha⟩
theorem Own.sr {E : Env} {B : Nat} {w : World} {v : Value} {n : Nat} (h : Own B w v n) (h1 : E.gd < B) (h2 : E.gp < B) : SR 20 E.A w v n := by
  obtain ⟨xs, ho, ha⟩ := h
  have hl := ho.1
  obtain ⟨p, cap, hv, hh⟩ := ownsRow_holds2 ho
  exact ⟨p, cap, xs, hv, by omega, hh.mono fun g hg => ⟨by have := hg.2; omega, by have := hg.2; omega⟩, ha⟩

structure PO (E : Env) (B : Nat) (w : World) : Prop where
  st : ∃ a k, PSt E w a k ∧ k ≤ 2 * a
  ne : E.gd ≠ E.gp
  d : E.gd < B
  p : E.gp < B
  b : B ≤ w.heap.size
  nums : NumsAt (fun g => E.A g ∧ g < B) w E.tv E.ts
  f : Own B w E.fv E.nf
  c : Own B w E.cv E.nc
  m : Own B w E.mv E.nm
  fc : ∀ g, E.fv.ownBlock = some g → E.cv.ownBlock ≠ some g
  fm : ∀ g, E.fv.ownBlock = some g → E.mv.ownBlock ≠ some g
  cm : ∀ g, E.cv.ownBlock = some g → E.mv.ownBlock ≠ some g
  few : E.nf + E.nc + E.nm ≤ 900
theorem PO.pe {E : Env} {B : Nat} {w : World} (h : PO E B w) : PE E w :=
  ⟨h.st, h.ne, h.nums.mono fun _ hg => hg.1, h.f.sr h.d h.p, h.c.sr h.d h.p, h.m.sr h.d h.p, by have := h.few; omega⟩
theorem PO.pr {E : Env} {B : Nat} {w w' : World} (h : PO E B w) (hp : PR E w w') : PO E B w' := by
  have hd := h.d
  have hpp := h.p
  have own : ∀ {v n}, Own B w v n → Own B w' v n := fun ho => ho.keep hp.agree fun g hg => ⟨by have := (ho.lt g hg).1; omega, by have := (ho.lt g hg).1; omega⟩
  refine ⟨?_, h.ne, h.d, h.p, Nat.le_trans h.b hp.size, h.nums.keep fun g hg hlt => hp.agree g hg.1 hlt, own h.f, own h.c, own h.m, h.fc, h.fm, h.cm, h.few⟩
  obtain ⟨a, k, hs, hl⟩ := h.st
  obtain ⟨b, l, hs', h1, h2, h3⟩ := hp.st a k hs
  exact ⟨b, l, hs', by omega⟩
theorem PO.below {E : Env} {B : Nat} {w w' : World} (h : PO E B w) (hb : Below w.heap.size w w') : PO E B w' := h.pr (PR.of_below hb)

/-- what lies below B is as it was, but for dice and program -/
structure PW (B gd gp : Nat) (w w' : World) : Prop where
  os : w'.os = w.os
  tape : w'.tape = w.tape
  output : w'.output = w.output
  size : w.heap.size ≤ w'.heap.size
  block : ∀ g, g ≠ gd → g ≠ gp → g < B → w'.heap[g]? = w.heap[g]?
theorem PW.refl (B gd gp : Nat) (w : World) : PW B gd gp w w := ⟨rfl, rfl, rfl, Nat.le_refl _, fun _ _ _ _ => rfl⟩
theorem PW.trans {B gd gp : Nat} {a b c : World} (h : PW B gd gp a b) (k : PW B gd gp b c) : PW B gd gp a c :=
  ⟨k.os.trans h.os, k.tape.trans h.tape, k.output.trans h.output, Nat.le_trans h.size k.size, fun g h1 h2 hlt => (k.block g h1 h2 hlt).trans (h.block g h1 h2 hlt)⟩
theorem PX.pw {E : Env} {w w' : World} (h : PX E w w') {B : Nat} (hB : B ≤ w.heap.size) : PW B E.gd E.gp w w' := ⟨h.os, h.tape, h.output, h.size, fun g h1 h2 hlt => h.block g h1 h2 (by omega)⟩
theorem PW.set {B gd gp : Nat} {w0 w : World} (h : PW B gd gp w0 w) (p : Addr) (v : Value) (hp : p.block = gd ∨ p.block = gp ∨ B ≤ p.block) : PW B gd gp w0 (w.setCell p v) := by
  refine ⟨h.os, h.tape, h.output, by simpa [World.setCell] using h.size, fun g h1 h2 hlt => ?_⟩
  rw [Below.heap_setCell _ _ _ _ (by omega)]; exact h.block g h1 h2 hlt
theorem PW.grown {B gd gp : Nat} {w0 w w' : World} {v : Value} {n : Nat} (h : PW B gd gp w0 w) (hB : B ≤ w.heap.size) (ho : Own B w v n) (hg : w.grownBy w' v.ownBlock) : PW B gd gp w0 w' := by
  refine ⟨hg.os.trans h.os, hg.tape.trans h.tape, hg.output.trans h.output, Nat.le_trans h.size hg.size, fun g h1 h2 hlt => ?_⟩
  rw [hg.block g (by omega) (fun e => by have := (ho.lt _ e.symm).1; omega)]
  exact h.block g h1 h2 hlt

/-- the flag of macros is set -/
theorem PO.flag {E : Env} {B : Nat} {w : World} (h : PO E B w) (b : Bool) : PO { E with mac := b } B (w.setCell ⟨E.gp, 7, none⟩ (.bool b)) := by
  have hd := h.d
  have hpp := h.p
  have hk := agree_at w E.gp 7 (.bool b)
  have own : ∀ {v n}, Own B w v n → Own B (w.setCell ⟨E.gp, 7, none⟩ (.bool b)) v n := fun ho => ho.keep hk fun g hg => by have := (ho.lt g hg).1; show g ≠ E.gp; omega
  refine ⟨?_, h.ne, h.d, h.p, by simpa [World.setCell] using h.b, h.nums.keep fun g hg hlt => hk g hg.1.2 hlt, own h.f, own h.c, own h.m, h.fc, h.fm, h.cm, h.few⟩
  obtain ⟨a, k, hs, hl⟩ := h.st
  refine ⟨a, k, ⟨hs.1, hs.2.1.other _ _ (fun e => h.ne e.symm), ?_⟩, hl⟩
  have := hs.2.2.set 7 (.bool b) (by simp)
  exact this

theorem PO.app_f {E : Env} {B : Nat} {w w' : World} {vd : Value} (h : PO E B w) (ho : Own B w' vd (E.nf + 1)) (hg : w.grownBy w' E.fv.ownBlock) (hat : vd.ownBlock = E.fv.ownBlock ∨ vd.ownBlock = some w.heap.size) (hfew : E.nf + E.nc + E.nm < 900) :
    PO { E with fv := vd, nf := E.nf + 1 } B (w'.setCell ⟨E.gp, 1, none⟩ vd) := by
  have hd := h.d
  have hpp := h.p
  have hb := h.b
  have hlt := h.f.lt
  have hk0 := agree_grown (A := fun b => some b ≠ E.fv.ownBlock) hg (fun b hb => hb)
  have hk : Agree (fun b => some b ≠ E.fv.ownBlock ∧ b ≠ E.gp) w (w'.setCell ⟨E.gp, 1, none⟩ vd) :=
    (hk0.mono fun g hg => hg.1).trans hg.size ((agree_at w' E.gp 1 vd).mono fun g hg => hg.2)
  have hd2 : some E.gd ≠ E.fv.ownBlock := fun e => by have := (hlt _ e.symm).1; omega
  have hp2 : some E.gp ≠ E.fv.ownBlock := fun e => by have := (hlt _ e.symm).1; omega
  have new : ∀ g, vd.ownBlock = some g → E.fv.ownBlock = some g ∨ w.heap.size ≤ g := fun g e => by
    rcases hat with h1 | h1
    · exact .inl (by rw [← h1]; exact e)
    · rw [h1] at e; injection e with e; exact .inr (by omega)
  refine ⟨?_, h.ne, h.d, h.p, by have := hg.size; simpa [World.setCell] using Nat.le_trans h.b hg.size, h.nums.keep fun g hgA hlt2 => hk g ⟨fun e => by have := (hlt _ e.symm).1; have := hgA.2; omega, hgA.1.2⟩ hlt2, ho.keep (agree_at w' E.gp 1 vd) (fun g e => by have := (ho.lt g e).1; show g ≠ E.gp; omega), h.c.keep hk (fun g e => ⟨fun e2 => h.fc g e2.symm e, by have := (h.c.lt g e).1; omega⟩), h.m.keep hk (fun g e => ⟨fun e2 => h.fm g e2.symm e, by have := (h.m.lt g e).1; omega⟩), (fun g e e2 => by rcases new g e with h1 | h1; exact h.fc g h1 e2; have := (h.c.lt g e2).2; omega), (fun g e e2 => by rcases new g e with h1 | h1; exact h.fm g h1 e2; have := (h.m.lt g e2).2; omega), h.cm, by show _ + _ + _ ≤ 900; simp only; omega⟩
  obtain ⟨a, k, hs, hl⟩ := h.st
  refine ⟨a, k, ⟨hs.1, (hs.2.1.keep hk0 hg.size hd2).other _ _ (fun e => h.ne e.symm), ?_⟩, hl⟩
  have := (hs.2.2.keep hk0 hg.size hp2).set 1 vd (by simp)
  exact this

theorem PO.app_c {E : Env} {B : Nat} {w w' : World} {vd : Value} (h : PO E B w) (ho : Own B w' vd (E.nc + 1)) (hg : w.grownBy w' E.cv.ownBlock) (hat : vd.ownBlock = E.cv.ownBlock ∨ vd.ownBlock = some w.heap.size) (hfew : E.nf + E.nc + E.nm < 900) :
    PO { E with cv := vd, nc := E.nc + 1 } B (w'.setCell ⟨E.gp, 2, none⟩ vd) := by
  have hd := h.d
  have hpp := h.p
  have hb := h.b
  have hlt := h.c.lt
  have hk0 := agree_grown (A := fun b => some b ≠ E.cv.ownBlock) hg (fun b hb => hb)
  have hk : Agree (fun b => some b ≠ E.cv.ownBlock ∧ b ≠ E.gp) w (w'.setCell ⟨E.gp, 2, none⟩ vd) :=
    (hk0.mono fun g hg => hg.1).trans hg.size ((agree_at w' E.gp 2 vd).mono fun g hg => hg.2)
  have hd2 : some E.gd ≠ E.cv.ownBlock := fun e => by have := (hlt _ e.symm).1; omega
  have hp2 : some E.gp ≠ E.cv.ownBlock := fun e => by have := (hlt _ e.symm).1; omega
  have new : ∀ g, vd.ownBlock = some g → E.cv.ownBlock = some g ∨ w.heap.size ≤ g := fun g e => by
    rcases hat with h1 | h1
    · exact .inl (by rw [← h1]; exact e)
    · rw [h1] at e; injection e with e; exact .inr (by omega)
  refine ⟨?_, h.ne, h.d, h.p, by have := hg.size; simpa [World.setCell] using Nat.le_trans h.b hg.size, h.nums.keep fun g hgA hlt2 => hk g ⟨fun e => by have := (hlt _ e.symm).1; have := hgA.2; omega, hgA.1.2⟩ hlt2, h.f.keep hk (fun g e => ⟨fun e2 => h.fc g e e2.symm, by have := (h.f.lt g e).1; omega⟩), ho.keep (agree_at w' E.gp 2 vd) (fun g e => by have := (ho.lt g e).1; show g ≠ E.gp; omega), h.m.keep hk (fun g e => ⟨fun e2 => h.cm g e2.symm e, by have := (h.m.lt g e).1; omega⟩), (fun g e e2 => by rcases new g e2 with h1 | h1; exact h.fc g e h1; have := (h.f.lt g e).2; omega), h.fm, (fun g e e2 => by rcases new g e with h1 | h1; exact h.cm g h1 e2; have := (h.m.lt g e2).2; omega), by show _ + _ + _ ≤ 900; simp only; omega⟩
  obtain ⟨a, k, hs, hl⟩ := h.st
  refine ⟨a, k, ⟨hs.1, (hs.2.1.keep hk0 hg.size hd2).other _ _ (fun e => h.ne e.symm), ?_⟩, hl⟩
  have := (hs.2.2.keep hk0 hg.size hp2).set 2 vd (by simp)
  exact this

theorem PO.app_m {E : Env} {B : Nat} {w w' : World} {vd : Value} (h : PO E B w) (ho : Own B w' vd (E.nm + 1)) (hg : w.grownBy w' E.mv.ownBlock) (hat : vd.ownBlock = E.mv.ownBlock ∨ vd.ownBlock = some w.heap.size) (hfew : E.nf + E.nc + E.nm < 900) :
    PO { E with mv := vd, nm := E.nm + 1 } B (w'.setCell ⟨E.gp, 3, none⟩ vd) := by
  have hd := h.d
  have hpp := h.p
  have hb := h.b
  have hlt := h.m.lt
  have hk0 := agree_grown (A := fun b => some b ≠ E.mv.ownBlock) hg (fun b hb => hb)
  have hk : Agree (fun b => some b ≠ E.mv.ownBlock ∧ b ≠ E.gp) w (w'.setCell ⟨E.gp, 3, none⟩ vd) :=
    (hk0.mono fun g hg => hg.1).trans hg.size ((agree_at w' E.gp 3 vd).mono fun g hg => hg.2)
  have hd2 : some E.gd ≠ E.mv.ownBlock := fun e => by have := (hlt _ e.symm).1; omega
  have hp2 : some E.gp ≠ E.mv.ownBlock := fun e => by have := (hlt _ e.symm).1; omega
  have new : ∀ g, vd.ownBlock = some g → E.mv.ownBlock = some g ∨ w.heap.size ≤ g := fun g e => by
    rcases hat with h1 | h1
    · exact .inl (by rw [← h1]; exact e)
    · rw [h1] at e; injection e with e; exact .inr (by omega)
  refine ⟨?_, h.ne, h.d, h.p, by have := hg.size; simpa [World.setCell] using Nat.le_trans h.b hg.size, h.nums.keep fun g hgA hlt2 => hk g ⟨fun e => by have := (hlt _ e.symm).1; have := hgA.2; omega, hgA.1.2⟩ hlt2, h.f.keep hk (fun g e => ⟨fun e2 => h.fm g e e2.symm, by have := (h.f.lt g e).1; omega⟩), h.c.keep hk (fun g e => ⟨fun e2 => h.cm g e e2.symm, by have := (h.c.lt g e).1; omega⟩), ho.keep (agree_at w' E.gp 3 vd) (fun g e => by have := (ho.lt g e).1; show g ≠ E.gp; omega), h.fc, (fun g e e2 => by rcases new g e2 with h1 | h1; exact h.fm g e h1; have := (h.f.lt g e).2; omega), (fun g e e2 => by rcases new g e2 with h1 | h1; exact h.cm g e h1; have := (h.c.lt g e).2; omega), by show _ + _ + _ ≤ 900; simp only; omega⟩
  obtain ⟨a, k, hs, hl⟩ := h.st
  refine ⟨a, k, ⟨hs.1, (hs.2.1.keep hk0 hg.size hd2).other _ _ (fun e => h.ne e.symm), ?_⟩, hl⟩
  have := (hs.2.2.keep hk0 hg.size hp2).set 3 vd (by simp)
  exact this
end Go.Proofs.Ytpjdboebambneaa
