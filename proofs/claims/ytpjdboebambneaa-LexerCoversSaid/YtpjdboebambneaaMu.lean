/- Programs of some modules. -/
import Derived.Test.YtpjdboebambneaaMl
namespace Go.Proofs.Ytpjdboebambneaa
open Go.ChangeShapes Go.WideShapes Go.RowKit

/-- the texts that are being made: n strings of at most c bytes in block g -/
def TX (c g n : Nat) (w : World) : Prop := ∃ cs, cs.length = n ∧ rowOf w g cs ∧ cs.all (strB c) = true
theorem TX.keep {A : Nat → Prop} {c g n : Nat} {w w' : World} (h : TX c g n w) (hk : Agree A w w') (hA : A g) (hg : g < w.heap.size) : TX c g n w' := by
  obtain ⟨cs, h1, h2, h3⟩ := h; exact ⟨cs, h1, h2.keep hk hA hg, h3⟩
theorem strB_mono {c d : Nat} (h : c ≤ d) {v : Value} (hv : strB c v = true) : strB d v = true := by
  cases v <;> simp [strB] at hv ⊢
  omega
theorem TX.mono {c d g n : Nat} {w : World} (h : TX c g n w) (hcd : c ≤ d) : TX d g n w := by
  obtain ⟨cs, h1, h2, h3⟩ := h
  exact ⟨cs, h1, h2, List.all_eq_true.2 fun v hv => strB_mono hcd (List.all_eq_true.1 h3 v hv)⟩
theorem TX.at {c g n i : Nat} {w : World} (h : TX c g n w) (hi : i < n) : ∃ S : ByteArray, w.cell? ⟨g, i, none⟩ = some (.string S) ∧ w.frozen? ⟨g, i, none⟩ = false ∧ S.size ≤ c := by
  obtain ⟨cs, h1, h2, h3⟩ := h
  have hk2 : i < cs.length := by omega
  have hc2 := h2.cell (List.getElem?_eq_getElem hk2)
  have hb := List.all_eq_true.1 h3 cs[i] (List.getElem_mem hk2)
  cases hs : cs[i] with
  | string S => rw [hs] at hb hc2; exact ⟨S, hc2, h2.2 i hk2, of_decide_eq_true hb⟩
  | _ => rw [hs] at hb; cases hb
theorem TX.set {c g n i : Nat} {w : World} {S : ByteArray} (h : TX c g n w) (hi : i < n) (hS : S.size ≤ c) : TX c g n (w.setCell ⟨g, i, none⟩ (.string S)) := by
  obtain ⟨cs, h1, h2, h3⟩ := h
  refine ⟨cs.set i (.string S), by rw [List.length_set]; exact h1, h2.set i _ (by omega), List.all_eq_true.2 fun v hv => ?_⟩
  rcases List.mem_or_eq_of_mem_set hv with h | rfl
  · exact List.all_eq_true.1 h3 v h
  · exact decide_eq_true hS
theorem TX.sr {c g n : Nat} {w : World} {A : Nat → Prop} (h : TX c g n w) (hA : A g) {cap : Nat} : SR c A w (.slice (some ⟨g, 0, none⟩) n cap) n := by
  obtain ⟨cs, h1, h2, h3⟩ := h
  exact ⟨_, _, cs, rfl, h1, holds_row h2 hA, h3⟩

/-- what is being made: a program, and the texts of its n modules in block g -/
structure SB (E : Env) (B g n c : Nat) (w : World) : Prop where
  po : PO E B w
  nn : NumsAt (fun k => (E.A k ∧ k < B) ∧ k ≠ g) w E.tv E.ts
  tx : TX c g n w
  gB : g < B
  gd : g ≠ E.gd
  gp : g ≠ E.gp
theorem SB.pr {E : Env} {B g n c : Nat} {w w' : World} (h : SB E B g n c w) (hp : PR E w w') : SB E B g n c w' :=
  ⟨h.po.pr hp, h.nn.keep fun k hk hlt => hp.agree k hk.1.1 hlt, h.tx.keep hp.agree ⟨h.gd, h.gp⟩ (Nat.lt_of_lt_of_le h.gB h.po.b), h.gB, h.gd, h.gp⟩
theorem SB.below {E : Env} {B g n c : Nat} {w w' : World} (h : SB E B g n c w) (hb : Below w.heap.size w w') : SB E B g n c w' := h.pr (PR.of_below hb)
theorem SB.mono {E : Env} {B g n c d : Nat} {w : World} (h : SB E B g n c w) (hcd : c ≤ d) : SB E B g n d w := ⟨h.po, h.nn, h.tx.mono hcd, h.gB, h.gd, h.gp⟩
theorem SB.store {E : Env} {B g n c i : Nat} {w : World} {S : ByteArray} (h : SB E B g n c w) (hi : i < n) (hS : S.size ≤ c) : SB E B g n c (w.setCell ⟨g, i, none⟩ (.string S)) := by
  have hk := agree_at w g i (.string S)
  have hgB := h.gB
  have own : ∀ {v m}, Own B w v m → Own B (w.setCell ⟨g, i, none⟩ (.string S)) v m := fun ho => ho.keep hk fun k e => by have := (ho.lt k e).1; show k ≠ g; omega
  have po := h.po
  obtain ⟨a, k, hs, hl⟩ := po.st
  refine ⟨⟨⟨a, k, ⟨hs.1, hs.2.1.other ⟨g, i, none⟩ _ h.gd, hs.2.2.other ⟨g, i, none⟩ _ h.gp⟩, hl⟩, po.ne, po.d, po.p, by simpa [World.setCell] using po.b, (h.nn.keep fun k hk2 hlt => hk k hk2.2 hlt).mono fun _ x => x.1, own po.f, own po.c, own po.m, po.fc, po.fm, po.cm, po.few⟩,
    h.nn.keep fun k hk2 hlt => hk k hk2.2 hlt, h.tx.set hi hS, h.gB, h.gd, h.gp⟩
theorem SB.item {E E' : Env} {B g n c : Nat} {w w' : World} (h : SB E B g n c w) (h1 : E'.gd = E.gd) (h2 : E'.gp = E.gp) (h3 : E'.tv = E.tv) (h4 : E'.ts = E.ts) (hO : PO E' B w') (hW : PW B E.gd E.gp w w') : SB E' B g n c w' := by
  have hb := h.po.b
  have hk : Agree (fun k => (E.A k ∧ k < B) ∧ True) w w' := fun k hk hlt => hW.block k hk.1.1.1 hk.1.1.2 hk.1.2
  have hA : ∀ k, E'.A k ↔ E.A k := fun k => by unfold Env.A; rw [h1, h2]
  refine ⟨hO, ?_, h.tx.keep hk ⟨⟨⟨h.gd, h.gp⟩, h.gB⟩, trivial⟩ (Nat.lt_of_lt_of_le h.gB hb), h.gB, by rw [h1]; exact h.gd, by rw [h2]; exact h.gp⟩
  rw [h3, h4]
  exact (h.nn.keep fun k hk2 hlt => hk k ⟨hk2.1, trivial⟩ hlt).mono fun k hk2 => ⟨⟨(hA k).2 hk2.1.1, hk2.1.2⟩, hk2.2⟩

theorem letter_pr (E : Env) (n : Nat) (w : World) (h : n < 20) :
    Calls Try.prog 80 #[.int .i64 n] w fun e w' => ∃ S : ByteArray, e = .returned (.string S) ∧ S.size ≤ 1 ∧ PR E w w' :=
  (letter_any n w h).mono fun e w' ⟨S, he, hS, hb⟩ => ⟨S, he, hS, PR.of_below hb⟩
theorem base_pr (E : Env) (w : World) :
    Calls Try.prog 81 #[] w fun e w' => ∃ S : ByteArray, e = .returned (.string S) ∧ S.size ≤ 1000 ∧ PR E w w' :=
  (base_any w).mono fun e w' ⟨S, he, hS, hb⟩ => ⟨S, he, hS, PR.of_below hb⟩

/-- records and traits -/
theorem SB.recs {E : Env} {B g n c : Nat} {w : World} (h : SB E B g n c w) : SB { E with recs := true, shows := true } B g n c ((w.setCell ⟨E.gp, 4, none⟩ (.bool true)).setCell ⟨E.gp, 5, none⟩ (.bool true)) := by
  have po := h.po
  have hd := po.d
  have hpp := po.p
  have hk : Agree (· ≠ E.gp) w ((w.setCell ⟨E.gp, 4, none⟩ (.bool true)).setCell ⟨E.gp, 5, none⟩ (.bool true)) :=
    (agree_at w E.gp 4 (.bool true)).trans (by simp [World.setCell]) (agree_at _ E.gp 5 (.bool true))
  have own : ∀ {v m}, Own B w v m → Own B ((w.setCell ⟨E.gp, 4, none⟩ (.bool true)).setCell ⟨E.gp, 5, none⟩ (.bool true)) v m := fun ho => ho.keep hk fun k e => by have := (ho.lt k e).1; show k ≠ E.gp; omega
  refine ⟨⟨?_, po.ne, po.d, po.p, by simpa [World.setCell] using po.b, po.nums.keep fun k hk2 hlt => hk k hk2.1.2 hlt, own po.f, own po.c, own po.m, po.fc, po.fm, po.cm, po.few⟩, h.nn.keep fun k hk2 hlt => hk k hk2.1.1.2 hlt, h.tx.keep hk h.gp (Nat.lt_of_lt_of_le h.gB po.b), h.gB, h.gd, h.gp⟩
  obtain ⟨a, k, hs, hl⟩ := po.st
  refine ⟨a, k, ⟨hs.1, (hs.2.1.other ⟨E.gp, 4, none⟩ _ (fun e => po.ne e.symm)).other ⟨E.gp, 5, none⟩ _ (fun e => po.ne e.symm), ?_⟩, hl⟩
  have := (hs.2.2.set 4 (.bool true) (by simp)).set 5 (.bool true) (by simp)
  exact this

/-- all but dice have stayed -/
structure DX (gd : Nat) (w w' : World) : Prop where
  os : w'.os = w.os
  tape : w'.tape = w.tape
  output : w'.output = w.output
  size : w.heap.size ≤ w'.heap.size
  block : ∀ g, g ≠ gd → g < w.heap.size → w'.heap[g]? = w.heap[g]?
theorem DX.trans {gd : Nat} {a b c : World} (h : DX gd a b) (k : DX gd b c) : DX gd a c :=
  ⟨k.os.trans h.os, k.tape.trans h.tape, k.output.trans h.output, Nat.le_trans h.size k.size, fun g h1 hlt => (k.block g h1 (Nat.lt_of_lt_of_le hlt h.size)).trans (h.block g h1 hlt)⟩
theorem DX.of_below {gd : Nat} {w w' : World} (h : Below w.heap.size w w') : DX gd w w' := ⟨h.os, h.tape, h.output, h.size, fun g _ hlt => h.block g hlt⟩
theorem DX.pw {gd gp B : Nat} {w0 w w' : World} (h : DX gd w0 w) (k : PW B gd gp w w') (hp : w0.heap.size ≤ gp) (hB : w0.heap.size ≤ B) : DX gd w0 w' :=
  ⟨k.os.trans h.os, k.tape.trans h.tape, k.output.trans h.output, Nat.le_trans h.size k.size, fun g h1 hlt => (k.block g h1 (by omega) (by omega)).trans (h.block g h1 hlt)⟩
theorem DX.pr {E : Env} {w0 w w' : World} (h : DX E.gd w0 w) (k : PX E w w') (hp : w0.heap.size ≤ E.gp) : DX E.gd w0 w' :=
  ⟨k.os.trans h.os, k.tape.trans h.tape, k.output.trans h.output, Nat.le_trans h.size k.size, fun g h1 hlt => (k.block g h1 (by omega) (Nat.lt_of_lt_of_le hlt h.size)).trans (h.block g h1 hlt)⟩
theorem DX.set {gd : Nat} {w0 w : World} (h : DX gd w0 w) (p : Addr) (v : Value) (hp : w0.heap.size ≤ p.block) : DX gd w0 (w.setCell p v) := by
  refine ⟨h.os, h.tape, h.output, by simpa [World.setCell] using h.size, fun g h1 hlt => ?_⟩
  rw [Below.heap_setCell _ _ _ _ (by omega)]; exact h.block g h1 hlt

/-- modules: n of them, names and texts of at most c bytes, only read -/
def LS (c : Nat) (A : Nat → Prop) (w : World) (v : Value) (n : Nat) : Prop := ∃ p cap vs, v = .slice p n cap ∧ vs.length = n * 2 ∧ Holds A w p vs ∧ vs.all (strB c) = true

theorem Holds.lt {A : Nat → Prop} {w : World} {p : Option Addr} {cs : List Value} (h : Holds A w p cs) : Holds (fun g => A g ∧ g < w.heap.size) w p cs := by
  by_cases h0 : cs = []
  · exact .inl h0
  · obtain ⟨g, o, rfl, hA, hg, hc⟩ := h.at (List.length_pos_iff.2 h0)
    exact .inr ⟨g, o, rfl, ⟨hA, hg⟩, hc⟩
theorem SR.lt {c : Nat} {A : Nat → Prop} {w : World} {v : Value} {n : Nat} (h : SR c A w v n) : SR c (fun g => A g ∧ g < w.heap.size) w v n := by
  obtain ⟨p, cap, vs, hv, hn, hh, r⟩ := h; exact ⟨p, cap, vs, hv, hn, hh.lt, r⟩
theorem NumsAt.lt {A : Nat → Prop} {w : World} {tv : Value} {ts : List Int} (h : NumsAt A w tv ts) : NumsAt (fun g => A g ∧ g < w.heap.size) w tv ts := by
  obtain ⟨p, cap, hv, hh, r⟩ := h; exact ⟨p, cap, hv, hh.lt, r⟩
/-- dice and program stay where nothing below their world's end turns -/
theorem PE.agree {E : Env} {w w' : World} (h : PE E w) (hk : Agree (· < w.heap.size) w w') (hs : w.heap.size ≤ w'.heap.size) : PE E w' := by
  obtain ⟨a, k, hst, hl⟩ := h.st
  have sr : ∀ {v n}, SR 20 E.A w v n → SR 20 E.A w' v n := fun x => (x.lt.keep fun g hg hlt => hk g hlt hlt).mono fun _ y => y.1
  exact ⟨⟨a, k, ⟨hst.1, hst.2.1.keep hk hs h.ltd, hst.2.2.keep hk hs h.ltp⟩, hl⟩, h.ne, (h.nums.lt.keep fun g hg hlt => hk g hlt hlt).mono fun _ y => y.1, sr h.fns, sr h.cons, sr h.macs, h.few⟩
/-- a row of modules of the call's own -/
def InO (c B : Nat) (w : World) (v : Value) (q : Nat) : Prop := ∃ xs, w.ownsRow B 91 2 v q xs ∧ xs.all (strB c) = true
theorem InO.ls {c B : Nat} {A : Nat → Prop} {w : World} {v : Value} {q : Nat} (h : InO c B w v q) (hA : ∀ g, B ≤ g → A g) : LS c A w v q := by
  obtain ⟨xs, ho, ha⟩ := h
  have hl := ho.1
  obtain ⟨p, cap, hv, hh⟩ := ownsRow_holds2 ho
  exact ⟨p, cap, xs, hv, hl, hh.mono fun g hg => hA g hg.2, ha⟩

set_option maxRecDepth 100000 in
set_option maxHeartbeats 12800000 in
theorem sources_any (gd a : Nat) (tv : Value) (ts : List Int) (w : World) (hd : Blk w gd [tv, .int .i64 a]) (ha : a ≤ ts.length) (hnum : NumsAt (fun g => g ≠ gd ∧ g < w.heap.size) w tv ts) :
    Calls Try.prog 69 #[.pointer (some ⟨gd, 0, none⟩)] w fun e w' => ∃ (E : Env) (v : Value) (n : Nat), e = .returned v ∧ 1 ≤ n ∧ n ≤ 3 ∧ E.gd = gd ∧ w.heap.size ≤ E.gp ∧ PE E w' ∧ LS 17200 E.A w' v n ∧ DX gd w w' := by
  go_enter Try.func69, Try.ntmps69
  go_upto_region 2 with fail
  obtain ⟨E, hE0⟩ : ∃ E : Env, E = ⟨gd, w.heap.size, tv, ts, .slice none 0 0, .slice none 0 0, .slice none 0 0, 0, 0, 0, false, false, false⟩ := ⟨_, rfl⟩
  have e1 : E.gd = gd := by rw [hE0]
  have e2 : E.gp = w.heap.size := by rw [hE0]
  obtain ⟨w1, hw1, HP, hb1⟩ := fresh_blk w [Value.pointer (some ⟨gd, 0, none⟩), Value.slice none 0 0, Value.slice none 0 0, Value.slice none 0 0, Value.bool false, Value.bool false, Value.int .i64 0, Value.bool false] 105
  rw [hw1]
  have hgdlt := hd.lt
  have hPE : PE E w1 := by
    subst hE0
    refine ⟨⟨a, 0, ⟨ha, hd.call hb1, HP⟩, Nat.zero_le _⟩, by show gd ≠ w.heap.size; omega, (hnum.keep (agree_below hb1)).mono fun g hg => ⟨hg.1, by show g ≠ w.heap.size; have := hg.2; omega⟩, SR.nil _ _ _, SR.nil _ _ _, SR.nil _ _ _, by show 0 ≤ 1000 ∧ 0 ≤ 1000 ∧ 0 ≤ 1000; omega⟩
  have hDX0 : DX E.gd w w1 := DX.of_below hb1
  have hnum1 := hnum.keep (agree_below hb1)
  have Hz := Lib.hid hE0
  clear hw1 HP hE0 hnum ha hd
  rw [← e1, ← e2]
  have He1 := Lib.hid e1
  have He2 := Lib.hid e2
  clear e1 e2
  go_wp2_with fail
  refine (mnext_any E 3 _ hPE (by omega) (by omega)).mono ?_
  rintro e w2 ⟨r, rfl, hr0, hr1, hp2⟩
  obtain ⟨r0, rfl⟩ := Int.eq_ofNat_of_zero_le hr0
  obtain ⟨n, hn⟩ : ∃ n : Nat, 1 + r0 = n := ⟨_, rfl⟩
  go_upto_region 3 with fail
  have hn1 : 1 ≤ n := by omega
  have hn3 : n ≤ 3 := by omega
  rw [show ((1 : Int) + (r0 : Int)) = (n : Int) by omega]
  clear hn hr0 hr1
  have hP2 := hPE.keep hp2
  have hD2 := hDX0.pr hp2.toPX (by rw [He2.out]; exact Nat.le_refl _)
  have hnum2 : NumsAt (fun g => g ≠ gd ∧ g < w.heap.size) w2 tv ts := hnum1.keep fun g hg hlt => hp2.block g (by rw [He1.out]; exact hg.1) (by rw [He2.out]; have := hg.2; omega) hlt
  obtain ⟨w3, hm, Hrow, hb3, hz3⟩ := make_new (P := Try.prog) 32 9 (.string ⟨#[]⟩) 16 Try.underlying32 (by kernel_rfl) rfl n (by omega) (by omega) w2
  have hgpl : w.heap.size < w2.heap.size := Nat.lt_of_lt_of_le (by have := hPE.ltp; rw [He2.out] at this; exact this) hp2.size
  have hgdl : E.gd < w2.heap.size := hP2.ltd
  have hgpl2 : E.gp < w2.heap.size := hP2.ltp
  obtain ⟨gt, hgt⟩ : ∃ g, w2.heap.size = g := ⟨_, rfl⟩
  have hSB : SB E (gt + 1) gt n 0 w3 := by
    have hP3 := hP2.below hb3
    have en : ∀ w', Own (gt + 1) w' E.fv E.nf ∧ Own (gt + 1) w' E.cv E.nc ∧ Own (gt + 1) w' E.mv E.nm := fun w' => by rw [Hz.out]; exact ⟨Own.nil _ _, Own.nil _ _, Own.nil _ _⟩
    have nu : NumsAt (fun k => (E.A k ∧ k < gt + 1) ∧ k ≠ gt) w3 E.tv E.ts := by
      have := (hnum2.keep (agree_below hb3)).mono (B := fun k => (E.A k ∧ k < gt + 1) ∧ k ≠ gt) fun k hk => ⟨⟨⟨by rw [He1.out]; exact hk.1, by rw [He2.out]; have := hk.2; omega⟩, by have := hk.2; omega⟩, by have := hk.2; omega⟩
      rw [Hz.out]
      rw [Hz.out] at this
      exact this
    refine ⟨⟨hP3.st, hP3.ne, by omega, by omega, by omega, nu.mono fun _ x => x.1, (en w3).1, (en w3).2.1, (en w3).2.2, ?_, ?_, ?_, ?_⟩, nu, ⟨List.replicate n (.string ⟨#[]⟩), by simp, by rw [← hgt]; exact Hrow.out, by simp [strB, size_lit]⟩, by omega, by omega, by omega⟩
    · rw [Hz.out]; intro g h; cases h
    · rw [Hz.out]; intro g h; cases h
    · rw [Hz.out]; intro g h; cases h
    · rw [Hz.out]; show 0 + 0 + 0 ≤ 900; omega
  have hD3 := hD2.trans (DX.of_below hb3)
  have hnz : E.nf + E.nc + E.nm = 0 := by rw [Hz.out]; rfl
  have hwt : w.heap.size < gt := by omega
  rw [hgt] at hm
  go_upto_region 4 with fail
  clear hm Hrow hb3 hz3 hnum2 hnum1 hP2 hp2 hPE hb1 hD2 hDX0 hgpl hgdl hgpl2 hgt Hz
  have HSB := Lib.hid hSB
  have HD3 := Lib.hid hD3
  have Hnz := Lib.hid hnz
  clear hSB hD3 hnz hgdlt
  go_wp2_with fail
  go_loopw [6] (fun s6 wr => ∃ i : Nat, s6 = .int .i64 i ∧ Hid (i ≤ n) ∧ Hid (SB E (gt + 1) gt n (300 * i) wr) ∧ Hid (DX E.gd w wr)) (fun s6 _ => n - (intOf s6).toNat)
  case atStart => exact ⟨0, rfl, Nat.zero_le _, HSB.out, HD3.out⟩
  case round =>
    obtain ⟨i, rfl, Hi, HS, HD⟩ := hrel
    have hi := Hi.out
    by_cases hin : i < n
    · have hd1 : decide ((i : Int) < (n : Int)) = true := decide_eq_true (by omega)
      go_upto_region 7 with fail
      go_wp2_with fail
      go_loopw [7] (fun s7 wr => ∃ k : Nat, s7 = .int .i64 k ∧ Hid (k ≤ n) ∧ Hid (SB E (gt + 1) gt n (300 * i + 100 * k) wr) ∧ Hid (DX E.gd w wr)) (fun s7 _ => n - (intOf s7).toNat)
      case atStart => exact ⟨0, rfl, Nat.zero_le _, HS.out, HD.out⟩
      case round =>
        obtain ⟨k, rfl, Hk, HS2, HD2⟩ := hrel
        have hk := Hk.out
        by_cases hkn : k < n
        · have hd2 : decide ((k : Int) < (n : Int)) = true := decide_eq_true (by omega)
          by_cases hki : k = i
          · have hne : ((k : Int) != (i : Int)) = false := by rw [hki]; simp
            have hne2 : ((k : Int) == (i : Int)) = true := by rw [hki]; simp
            go_wp2_with fail
            all_goals
              go_roundw
              case rel => exact ⟨k + 1, by first | (simp; done) | (simp; omega), hkn, HS2.out.mono (by omega), HD2.out⟩
              case measure => simp [intOf]; omega
          · have hne2 : ((k : Int) == (i : Int)) = false := by rw [beq_eq_false_iff_ne]; omega
            have hne : ((k : Int) != (i : Int)) = true := by rw [bne, hne2]; rfl
            go_upto_region 11 with fail
            obtain ⟨T, hT, fT, hTs⟩ := HS2.out.tx.at hin
            have hE := HS2.out.po.pe
            have g1 := HS2.out.gd
            have g2 := HS2.out.gp
            have g3 : gt < wr.heap.size := Nat.lt_of_lt_of_le (Nat.lt_succ_self gt) HS2.out.po.b
            refine Lx.region (pr_steps E) [(0, true), (1, true), (2, true), (3, true), (4, true), (7, true), (5, false), (6, false), (8, false), (9, true), (10, true), (11, true), (12, true)] [(13, false)] (fun wz => (∀ b o, b ≠ E.gd → b ≠ E.gp → b < wr.heap.size → wz.cell? ⟨b, o, none⟩ = wr.cell? ⟨b, o, none⟩) ∧ wz.cell? ⟨E.gp, 0, none⟩ = some (.pointer (some ⟨E.gd, 0, none⟩)) ∧ wz.cell? ⟨E.gp, 1, none⟩ = some E.fv ∧ wz.cell? ⟨E.gp, 2, none⟩ = some E.cv ∧ wz.cell? ⟨E.gp, 3, none⟩ = some E.mv ∧ PR E wr wz) (by kernel_rfl) (by kernel_rfl) (fun _ _ _ _ _ h => h) (fun _ h => PS.of (E := E) (w := wr) hE h) (fun _ _ h hb => PS.step (E := E) (w := wr) hE h hb) ?_; intro xa hbxa; replace hbxa : PR E wr xa := hbxa; simp only [Lx.pick, List.filterMap_cons, List.filterMap_nil, List.getElem?_cons_succ, List.getElem?_cons_zero, List.map_cons, List.map_nil]; have hSxa : PS E wr xa := PS.of hE hbxa
            repeat (first | (refine Lx.takeY ?_ (by rfl) ?_ (by assumption) ?_; rotate_left; (focus (intro w' hSw; (try dsimp only at hSw); go_simp; (try with_reducible rfl))); simp only [Act.put, List.setIfInBounds_toArray, List.set_cons_zero, List.set_cons_succ]) | (refine Lx.takeN (by rfl) (by assumption) ?_; simp only [Act.put, List.setIfInBounds_toArray, List.set_cons_zero, List.set_cons_succ]))
            refine Lx.go ?_; intro K hK; go_simp
            obtain ⟨xb0, hxb0, _, hbe⟩ := fresh_blk xa [Value.string ⟨#[117, 115, 101, 32]⟩, Value.string ⟨#[112, 117, 98, 32, 117, 115, 101, 32]⟩] 9
            have hSR : SR 20 E.A xb0 (.slice (some ⟨xa.heap.size, 0, none⟩) 2 2) 2 := by rw [← hxb0]; exact SR.new _ _ _ rfl (PE.apart (hE.keep hbxa)) rfl
            rw [hxb0]
            refine hK _ _ (PR.of_below hbe) ?_; clear hK K; intro xb hbxb
            replace hSR := hSR.pr hbxb
            replace hbxb : PR E xa xb := (PR.of_below hbe).trans hbxb
            have hSxb := PS.step hE hSxa hbxb
            try simp only [Act.put, List.setIfInBounds_toArray, List.set_cons_zero, List.set_cons_succ]
            clear hxb0 hbe
            refine Lx.go ?_; intro K hK; go_simp; go_at_call 79; refine (mof_any E 20 _ 2 _ (hE.keep hSxb.2.2.2.2.2) hSR (by omega) (by omega)).mono ?_; rintro e w0xc ⟨S1, rfl, hS1, hb0xc⟩; refine hK _ _ hb0xc ?_; clear hK K; intro wxc hbxc; replace hbxc := PR.trans hb0xc hbxc; have hSxc := PS.step hE hSxb hbxc; try simp only [Act.put, List.setIfInBounds_toArray, List.set_cons_zero, List.set_cons_succ]
            refine Lx.go ?_; intro K hK; go_simp; go_at_call 80; refine (letter_pr E k _ (by omega)).mono ?_; rintro e w0xd ⟨S2, rfl, hS2, hb0xd⟩; refine hK _ _ hb0xd ?_; clear hK K; intro wxd hbxd; replace hbxd := PR.trans hb0xd hbxd; have hSxd := PS.step hE hSxc hbxd; try simp only [Act.put, List.setIfInBounds_toArray, List.set_cons_zero, List.set_cons_succ]
            have hcat1 : (9223372036854775807 < S1.size + S2.size) = False := eq_false (by omega)
            have hcat2 : (9223372036854775807 < S1.size + S2.size + 2) = False := eq_false (by omega)
            have hcat3 : (9223372036854775807 < T.size + (S1.size + S2.size + 2)) = False := eq_false (by omega)
            repeat (first | (refine Lx.takeY ?_ (by rfl) ?_ (by assumption) ?_; rotate_left; (focus (intro w' hSw; (try dsimp only at hSw); go_simp; (try with_reducible rfl))); simp only [Act.put, List.setIfInBounds_toArray, List.set_cons_zero, List.set_cons_succ]) | (refine Lx.takeN (by rfl) (by assumption) ?_; simp only [Act.put, List.setIfInBounds_toArray, List.set_cons_zero, List.set_cons_succ]))
            have hp := hSxd.2.2.2.2.2
            have ct := (hSxd.1 gt i g1 g2 g3).trans hT
            have ft : wxd.frozen? ⟨gt, i, none⟩ = false := (World.frozen?_of_block (w := wr) (hp.block gt g1 g2 g3)).trans fT
            have hS3 := (HS2.out.pr hp).mono (d := 300 * i + 100 * (k + 1)) (by omega)
            have hS4 := hS3.store (i := i) (S := T ++ (S1 ++ S2 ++ ⟨#[59, 10]⟩)) hin (by simp only [ByteArray.size_append, size_lit, List.size_toArray, List.length_cons, List.length_nil]; omega)
            have hD4 := (HD2.out.pr hp.toPX (by rw [He2.out]; exact Nat.le_refl _)).set ⟨gt, i, none⟩ (.string (T ++ (S1 ++ S2 ++ ⟨#[59, 10]⟩))) (by show w.heap.size ≤ gt; omega)
            have zt : gt < wxd.heap.size := Nat.lt_of_lt_of_le g3 hp.size
            have HS4 := Lib.hid hS4
            have HD4 := Lib.hid hD4
            clear hSxa hSxb hSxc hSxd hbxa hbxb hbxc hbxd hb0xc hb0xd hp hS3 hS4 hD4 hT fT hSR hE
            refine Lx.tail ?_
            go_wp2_with fail
            go_roundw
            case rel => exact ⟨k + 1, by simp, hkn, HS4.out, HD4.out⟩
            case measure => simp [intOf]; omega
        · have hd2 : decide ((k : Int) < (n : Int)) = false := decide_eq_false (by omega)
          go_wp2_with fail
          go_roundw
          case rel => exact ⟨i + 1, by simp, hin, HS2.out.mono (by omega), HD2.out⟩
          case measure => simp [intOf]; omega
    · have hd1 : decide ((i : Int) < (n : Int)) = false := decide_eq_false (by omega)
      go_wp2_with fail
      refine (mnext_any E 3 _ HS.out.po.pe (by omega) (by omega)).mono ?_
      rintro e w5 ⟨r, rfl, hr0, hr1, hp⟩
      have hS5 := (HS.out.pr hp).mono (d := 900) (by omega)
      have hD5 := HD.out.pr hp.toPX (by rw [He2.out]; exact Nat.le_refl _)
      have HS5 := Lib.hid hS5
      have HD5 := Lib.hid hD5
      clear hS5 hD5 hp
      go_upto_if 48 with fail
      go_cut [] (fun wx => ∃ E2 : Env, Hid (E2.gd = E.gd ∧ E2.gp = E.gp ∧ E2.nf + E2.nc + E2.nm = 0) ∧ Hid (SB E2 (gt + 1) gt n 2000 wx) ∧ Hid (DX E.gd w wx))
      case first =>
        by_cases hr : 0 < r
        · have hdr : decide (r > 0) = true := decide_eq_true hr
          have hdr2 : decide (0 < r) = true := decide_eq_true hr
          go_upto_region 13 with fail
          have hE := HS5.out.po.pe
          have g1 := HS5.out.gd
          have g2 := HS5.out.gp
          have g3 : gt < w5.heap.size := Nat.lt_of_lt_of_le (Nat.lt_succ_self gt) HS5.out.po.b
          refine Lx.region (pr_steps E) [(0, true), (1, true), (2, true), (3, false), (4, true), (5, true), (6, false), (7, true), (8, true)] [(9, false)] (fun wz => (∀ b o, b ≠ E.gd → b ≠ E.gp → b < w5.heap.size → wz.cell? ⟨b, o, none⟩ = w5.cell? ⟨b, o, none⟩) ∧ wz.cell? ⟨E.gp, 0, none⟩ = some (.pointer (some ⟨E.gd, 0, none⟩)) ∧ wz.cell? ⟨E.gp, 1, none⟩ = some E.fv ∧ wz.cell? ⟨E.gp, 2, none⟩ = some E.cv ∧ wz.cell? ⟨E.gp, 3, none⟩ = some E.mv ∧ PR E w5 wz) (by kernel_rfl) (by kernel_rfl) (fun _ _ _ _ _ h => h) (fun _ h => PS.of (E := E) (w := w5) hE h) (fun _ _ h hb => PS.step (E := E) (w := w5) hE h hb) ?_; intro xa hbxa; replace hbxa : PR E w5 xa := hbxa; simp only [Lx.pick, List.filterMap_cons, List.filterMap_nil, List.getElem?_cons_succ, List.getElem?_cons_zero, List.map_cons, List.map_nil]; have hSxa : PS E w5 xa := PS.of hE hbxa
          repeat (first | (refine Lx.takeY ?_ (by rfl) ?_ (by assumption) ?_; rotate_left; (focus (intro w' hSw; (try dsimp only at hSw); go_simp; (try with_reducible rfl))); simp only [Act.put, List.setIfInBounds_toArray, List.set_cons_zero, List.set_cons_succ]) | (refine Lx.takeN (by rfl) (by assumption) ?_; simp only [Act.put, List.setIfInBounds_toArray, List.set_cons_zero, List.set_cons_succ]))
          refine Lx.go ?_; intro K hK; go_simp; go_at_call 61; refine (mnext_any E n _ (hE.keep hbxa) (by omega) (by omega)).mono ?_; rintro e w0xb ⟨q, rfl, hq0, hq1, hb0xb⟩; refine hK _ _ hb0xb ?_; clear hK K; intro wxb hbxb; replace hbxb := PR.trans hb0xb hbxb; have hSxb := PS.step hE hSxa hbxb; try simp only [Act.put, List.setIfInBounds_toArray, List.set_cons_zero, List.set_cons_succ]
          obtain ⟨j, rfl⟩ := Int.eq_ofNat_of_zero_le hq0
          have hjn : j < n := by omega
          obtain ⟨T, hT, fT, hTs⟩ := HS5.out.tx.at hjn
          repeat (first | (refine Lx.takeY ?_ (by rfl) ?_ (by assumption) ?_; rotate_left; (focus (intro w' hSw; (try dsimp only at hSw); go_simp; (try with_reducible rfl))); simp only [Act.put, List.setIfInBounds_toArray, List.set_cons_zero, List.set_cons_succ]) | (refine Lx.takeN (by rfl) (by assumption) ?_; simp only [Act.put, List.setIfInBounds_toArray, List.set_cons_zero, List.set_cons_succ]))
          refine Lx.go ?_; intro K hK; go_simp; go_at_call 81; refine (base_pr E _).mono ?_; rintro e w0xc ⟨S1, rfl, hS1, hb0xc⟩; refine hK _ _ hb0xc ?_; clear hK K; intro wxc hbxc; replace hbxc := PR.trans hb0xc hbxc; have hSxc := PS.step hE hSxb hbxc; try simp only [Act.put, List.setIfInBounds_toArray, List.set_cons_zero, List.set_cons_succ]
          have hcat1 : (9223372036854775807 < T.size + S1.size) = False := eq_false (by omega)
          repeat (first | (refine Lx.takeY ?_ (by rfl) ?_ (by assumption) ?_; rotate_left; (focus (intro w' hSw; (try dsimp only at hSw); go_simp; (try with_reducible rfl))); simp only [Act.put, List.setIfInBounds_toArray, List.set_cons_zero, List.set_cons_succ]) | (refine Lx.takeN (by rfl) (by assumption) ?_; simp only [Act.put, List.setIfInBounds_toArray, List.set_cons_zero, List.set_cons_succ]))
          have hp := hSxc.2.2.2.2.2
          have ct := (hSxc.1 gt j g1 g2 g3).trans hT
          have ft : wxc.frozen? ⟨gt, j, none⟩ = false := (World.frozen?_of_block (w := w5) (hp.block gt g1 g2 g3)).trans fT
          have hS6 := ((HS5.out.pr hp).mono (d := 2000) (by omega)).store (i := j) (S := T ++ S1) hjn (by rw [ByteArray.size_append]; omega)
          have hD6 := (HD5.out.pr hp.toPX (by rw [He2.out]; exact Nat.le_refl _)).set ⟨gt, j, none⟩ (.string (T ++ S1)) (by show w.heap.size ≤ gt; omega)
          have zt : gt < wxc.heap.size := Nat.lt_of_lt_of_le g3 hp.size
          have HS6 := Lib.hid hS6
          have HD6 := Lib.hid hD6
          clear hSxa hSxb hSxc hbxa hbxb hbxc hb0xb hb0xc hp hS6 hD6 hT fT hE
          refine Lx.tail ?_
          go_upto_region 14 with fail
          obtain ⟨aa, kk, hss, _⟩ := HS6.out.po.st
          generalize wxc.setCell ⟨gt, j, none⟩ (.string (T ++ S1)) = w6 at *
          have c4 := hss.2.2.cells 4
          have c5 := hss.2.2.cells 5
          have f4 := hss.2.2.frozen 4
          have f5 := hss.2.2.frozen 5
          have z6 := hss.2.2.lt
          simp only [List.getElem?_cons_zero, List.getElem?_cons_succ] at c4 c5
          clear hss ct ft zt
          go_wp2_with fail
          go_meet
          exact ⟨{ E with recs := true, shows := true }, ⟨rfl, rfl, Hnz.out⟩, HS6.out.recs, (HD6.out.set _ _ (by rw [He2.out]; exact Nat.le_refl _)).set _ _ (by rw [He2.out]; exact Nat.le_refl _)⟩
        · have hdr : decide (r > 0) = false := decide_eq_false hr
          have hdr2 : decide (0 < r) = false := decide_eq_false hr
          go_wp2_with fail
          go_meet
          exact ⟨E, ⟨rfl, rfl, Hnz.out⟩, HS5.out.mono (by omega), HD5.out⟩
      case rest =>
      clear HSB HD3 Hi HS HD HS5 HD5 hr0 hr1
      obtain ⟨E, HE2, HS7, HD7⟩ := hcut
      have hq1 := HE2.out.1
      have hq2 := HE2.out.2.1
      rw [← hq1, ← hq2]
      have He3 : Hid (E.gp = w.heap.size) := by show _ = _; rw [hq2]; exact He2.out
      have He4 : Hid (E.gd = gd) := by show _ = _; rw [hq1]; exact He1.out
      have HD8 : Hid (DX E.gd w wc) := by show DX _ _ _; rw [hq1]; exact HD7.out
      have Hnz2 := Lib.hid HE2.out.2.2
      clear hq1 hq2 HD7 HE2 He1 He2 Hnz
      go_wp2_with fail
      go_loopw [8] (fun s8 wr => ∃ (k : Nat) (E3 : Env), s8 = .int .i64 k ∧ Hid (k ≤ 7) ∧ Hid (E3.gd = E.gd ∧ E3.gp = E.gp ∧ E3.nf + E3.nc + E3.nm ≤ k) ∧ Hid (SB E3 (gt + 1) gt n (2000 + 1900 * k) wr) ∧ Hid (DX E.gd w wr)) (fun s8 _ => 7 - (intOf s8).toNat)
      case atStart => exact ⟨0, E, rfl, Nat.zero_le _, ⟨rfl, rfl, by rw [Hnz2.out]; exact Nat.le_refl _⟩, HS7.out, HD8.out⟩
      case round =>
        obtain ⟨k, E3, rfl, Hk, HE3, HS, HD⟩ := hrel
        have hk := Hk.out
        have hgd3 := HE3.out.1
        have hnx : ∀ (m : Int) (w' : World), PE E3 w' → 1 ≤ m → m ≤ 4611686018427387903 → Calls Try.prog 61 #[.pointer (some ⟨E.gd, 0, none⟩), .int .i64 m] w' fun e w'' => ∃ k : Int, e = .returned (.int .i64 k) ∧ 0 ≤ k ∧ k < m ∧ PR E3 w' w'' := by
          intro m w' h1 h2 h3
          rw [← hgd3]
          exact mnext_any E3 m w' h1 h2 h3
        have Hnx := Lib.hid hnx
        clear hnx hgd3
        go_wp2_with fail
        refine (Hnx.out 6 _ HS.out.po.pe (by omega) (by omega)).mono ?_
        rintro e w9 ⟨r, rfl, hr0, hr1, hp⟩
        have HS9 := Lib.hid (HS.out.pr hp)
        have HD9 : Hid (DX E.gd w w9) := by
          have h := HD.out
          rw [← HE3.out.1] at h ⊢
          exact h.pr hp.toPX (by rw [HE3.out.2.1, He3.out]; exact Nat.le_refl _)
        clear hp
        by_cases hkr : (k : Int) < 2 + r
        · have hd3 : decide ((k : Int) < 2 + r) = true := decide_eq_true hkr
          go_wp2_with fail
          refine (Hnx.out n _ HS9.out.po.pe (by omega) (by omega)).mono ?_
          rintro e wj ⟨r2, rfl, hr2, hr3, hp⟩
          obtain ⟨j, rfl⟩ := Int.eq_ofNat_of_zero_le hr2
          have hjn : j < n := by omega
          have HS10 := Lib.hid (HS9.out.pr hp)
          have HD10 : Hid (DX E.gd w wj) := by
            have h := HD9.out
            rw [← HE3.out.1] at h ⊢
            exact h.pr hp.toPX (by rw [HE3.out.2.1, He3.out]; exact Nat.le_refl _)
          clear hp hr2 hr3
          go_upto_region 19 with fail
          obtain ⟨T, hT, fT, hTs⟩ := HS10.out.tx.at hjn
          have g1 := HS10.out.gd
          have g2 := HS10.out.gp
          have g3 : gt < wj.heap.size := Nat.lt_of_lt_of_le (Nat.lt_succ_self gt) HS10.out.po.b
          refine Lex.region [(0, true), (1, true), (2, true), (3, true), (4, true), (5, true), (7, true), (6, false), (8, false), (9, true)] (fun wz => wz.cell? ⟨gt, j, none⟩ = some (.string T)) (by kernel_rfl) (by kernel_rfl) (fun _ _ _ _ _ h => h) ?_; simp only [Lex.pick, List.filterMap_cons, List.filterMap_nil, List.getElem?_cons_succ, List.getElem?_cons_zero, List.map_cons, List.map_nil, List.length_cons, List.length_nil, List.drop_succ_cons, List.drop_zero, Nat.reduceAdd]
          have hS0 : wj.drew.cell? ⟨gt, j, none⟩ = some (.string T) := hT
          repeat (first | (refine Lex.takeY ?_ (by rfl) ?_ (by assumption) ?_; rotate_left; (focus (intro w' hSw; (try dsimp only at hSw); go_simp; (try with_reducible rfl))); simp only [Act.put, List.setIfInBounds_toArray, List.set_cons_zero, List.set_cons_succ]) | (refine Lex.takeN (by rfl) (by assumption) ?_; simp only [Act.put, List.setIfInBounds_toArray, List.set_cons_zero, List.set_cons_succ]))
          refine Lex.go ?_; intro K hK; go_simp
          go_at_call 80
          refine (letter_any j _ (by omega)).mono ?_
          rintro e wk ⟨S1, rfl, hS1, hb⟩
          have hbk : Below wj.heap.size wj wk := ext_trans ((ext_refl wj).drew) hb
          have hSk : wk.cell? ⟨gt, j, none⟩ = some (.string T) := (hbk.cell (p := ⟨gt, j, none⟩) g3).trans hT
          refine hK _ _ hSk ?_
          clear hK K hS0
          try simp only [Act.put, List.setIfInBounds_toArray, List.set_cons_zero, List.set_cons_succ]
          have HS11 := HS10.out.below hbk
          have hit := item_ok E3 (gt + 1) S1 k wk HS11.po hS1 (by omega) (by have := HE3.out.2.2; omega)
          rw [HE3.out.2.1] at hit
          have Hit := Lib.hid hit
          clear hit
          repeat (first | (refine Lex.takeY ?_ (by rfl) ?_ (by assumption) ?_; rotate_left; (focus (intro w' hSw; (try dsimp only at hSw); go_simp; (try with_reducible rfl))); simp only [Act.put, List.setIfInBounds_toArray, List.set_cons_zero, List.set_cons_succ]) | (refine Lex.takeN (by rfl) (by assumption) ?_; simp only [Act.put, List.setIfInBounds_toArray, List.set_cons_zero, List.set_cons_succ]))
          refine Lex.go ?_; intro K hK; go_simp
          go_at_call 82
          refine Hit.out.mono ?_
          rintro e wl ⟨E4, Si, rfl, hSi, q1, q2, q3, q4, q5, hO, hW⟩
          have g3k : gt < wk.heap.size := Nat.lt_of_lt_of_le g3 hbk.size
          have hbl : wl.heap[gt]? = wk.heap[gt]? := hW.block gt g1 (by rw [← HE3.out.2.1]; exact g2) (Nat.lt_succ_self gt)
          have hSl : wl.cell? ⟨gt, j, none⟩ = some (.string T) := (World.cell?_of_block (w := wk) hbl).trans hSk
          have ft : wl.frozen? ⟨gt, j, none⟩ = false := ((World.frozen?_of_block (w := wk) hbl).trans (hbk.frozen (p := ⟨gt, j, none⟩) g3)).trans fT
          refine hK _ _ hSl ?_
          clear hK K
          try simp only [Act.put, List.setIfInBounds_toArray, List.set_cons_zero, List.set_cons_succ]
          have hcat1 : (9223372036854775807 < Si.size + 1) = False := eq_false (by omega)
          have hcat2 : (9223372036854775807 < T.size + (Si.size + 1)) = False := eq_false (by omega)
          repeat (first | (refine Lex.takeY ?_ (by rfl) ?_ (by assumption) ?_; rotate_left; (focus (intro w' hSw; (try dsimp only at hSw); go_simp; (try with_reducible rfl))); simp only [Act.put, List.setIfInBounds_toArray, List.set_cons_zero, List.set_cons_succ]) | (refine Lex.takeN (by rfl) (by assumption) ?_; simp only [Act.put, List.setIfInBounds_toArray, List.set_cons_zero, List.set_cons_succ]))
          have hW2 : PW (gt + 1) E3.gd E3.gp wk wl := by rw [HE3.out.2.1]; exact hW
          have hS12 := HS11.item q1 (by rw [q2, HE3.out.2.1]) q3 q4 hO hW2
          have hS13 := (hS12.mono (d := 2000 + 1900 * (k + 1)) (by omega)).store (i := j) (S := T ++ (Si ++ ⟨#[10]⟩)) hjn (by simp only [ByteArray.size_append, size_lit, List.size_toArray, List.length_cons, List.length_nil]; omega)
          have hD13 : DX E.gd w (wl.setCell ⟨gt, j, none⟩ (.string (T ++ (Si ++ ⟨#[10]⟩)))) := by
            have h := HD10.out.trans (DX.of_below hbk)
            have h2 : PW (gt + 1) E.gd E.gp wk wl := by rw [← HE3.out.1]; exact hW
            exact (h.pw h2 (by rw [He3.out]; exact Nat.le_refl _) (by omega)).set _ _ (by show w.heap.size ≤ gt; omega)
          have zt : gt < wl.heap.size := Nat.lt_of_lt_of_le g3k hW.size
          have HS13 := Lib.hid hS13
          have HD13 := Lib.hid hD13
          have HE4 : Hid (E4.gd = E.gd ∧ E4.gp = E.gp ∧ E4.nf + E4.nc + E4.nm ≤ k + 1) := ⟨by rw [q1, HE3.out.1], by rw [q2], by have := HE3.out.2.2; omega⟩
          clear hS12 hS13 hD13 hO hW hW2 HS11 hbk hb hT fT q1 q2 q3 q4 q5
          refine Lex.tail ?_
          go_wp2_with fail
          go_roundw
          case rel => exact ⟨k + 1, E4, by simp, by show _ ≤ _; omega, HE4.out, HS13.out, HD13.out⟩
          case measure => simp [intOf]; omega
        · have hd3 : decide ((k : Int) < 2 + r) = false := decide_eq_false hkr
          go_upto_region 20 with fail
          have HD9' : Hid (DX E3.gd w w9) := by show DX _ _ _; rw [HE3.out.1]; exact HD9.out
          have hq1 := HE3.out.1
          have hq2 := HE3.out.2.1
          have He5 : Hid (E3.gp = w.heap.size) := by show _ = _; rw [hq2]; exact He3.out
          have He6 : Hid (E3.gd = gd) := by show _ = _; rw [hq1]; exact He4.out
          rw [← hq1, ← hq2]
          clear hq1 hq2 HE3 HD9 HD HS Hnx HS7 HD8 Hnz2 He3 He4
          obtain ⟨E, hEq⟩ : ∃ E : Env, E = E3 := ⟨E3, rfl⟩
          subst hEq
          have hwr2 : ∀ q : Nat, q < 2 → IntKind.i64.wrap (2 + (q : Int)) = 2 + (q : Int) := fun q hq => by rw [IntKind.wrap_i64]; omega
          have hE := HS9.out.po.pe
          have g1 := HS9.out.gd
          have g2 := HS9.out.gp
          have g3 : gt < w9.heap.size := Nat.lt_of_lt_of_le (Nat.lt_succ_self gt) HS9.out.po.b
          refine Lx.region (pr_steps E) [(0, true), (1, true), (2, true), (6, true), (7, true), (3, false), (4, true), (5, true), (8, false), (9, true), (10, false), (11, true), (12, true), (13, true), (14, true)] [(15, false)] (fun wz => (∀ b o, b ≠ E.gd → b ≠ E.gp → b < w9.heap.size → wz.cell? ⟨b, o, none⟩ = w9.cell? ⟨b, o, none⟩) ∧ wz.cell? ⟨E.gp, 0, none⟩ = some (.pointer (some ⟨E.gd, 0, none⟩)) ∧ wz.cell? ⟨E.gp, 1, none⟩ = some E.fv ∧ wz.cell? ⟨E.gp, 2, none⟩ = some E.cv ∧ wz.cell? ⟨E.gp, 3, none⟩ = some E.mv ∧ PR E w9 wz) (by kernel_rfl) (by kernel_rfl) (fun _ _ _ _ _ h => h) (fun _ h => PS.of (E := E) (w := w9) hE h) (fun _ _ h hb => PS.step (E := E) (w := w9) hE h hb) ?_; intro xa hbxa; replace hbxa : PR E w9 xa := hbxa; simp only [Lx.pick, List.filterMap_cons, List.filterMap_nil, List.getElem?_cons_succ, List.getElem?_cons_zero, List.map_cons, List.map_nil]; have hSxa : PS E w9 xa := PS.of hE hbxa
          repeat (first | (refine Lx.takeY ?_ (by rfl) ?_ (by assumption) ?_; rotate_left; (focus (intro w' hSw; (try dsimp only at hSw); go_simp; (try with_reducible rfl))); simp only [Act.put, List.setIfInBounds_toArray, List.set_cons_zero, List.set_cons_succ]) | (refine Lx.takeN (by rfl) (by assumption) ?_; simp only [Act.put, List.setIfInBounds_toArray, List.set_cons_zero, List.set_cons_succ]))
          refine Lx.go ?_; intro K hK; go_simp; go_at_call 61; refine (mnext_any E n _ (hE.keep hbxa) (by omega) (by omega)).mono ?_; rintro e w0xb ⟨q, rfl, hq0, hq1, hb0xb⟩; refine hK _ _ hb0xb ?_; clear hK K; intro wxb hbxb; replace hbxb := PR.trans hb0xb hbxb; have hSxb := PS.step hE hSxa hbxb; try simp only [Act.put, List.setIfInBounds_toArray, List.set_cons_zero, List.set_cons_succ]
          obtain ⟨j, rfl⟩ := Int.eq_ofNat_of_zero_le hq0
          have hjn : j < n := by omega
          obtain ⟨T, hT, fT, hTs⟩ := HS9.out.tx.at hjn
          repeat (first | (refine Lx.takeY ?_ (by rfl) ?_ (by assumption) ?_; rotate_left; (focus (intro w' hSw; (try dsimp only at hSw); go_simp; (try with_reducible rfl))); simp only [Act.put, List.setIfInBounds_toArray, List.set_cons_zero, List.set_cons_succ]) | (refine Lx.takeN (by rfl) (by assumption) ?_; simp only [Act.put, List.setIfInBounds_toArray, List.set_cons_zero, List.set_cons_succ]))
          refine Lx.go ?_; intro K hK; go_simp; go_at_call 61; refine (mnext_any E 2 _ (hE.keep hSxb.2.2.2.2.2) (by omega) (by omega)).mono ?_; rintro e w0xc ⟨q2, rfl, hq2, hq3, hb0xc⟩; refine hK _ _ hb0xc ?_; clear hK K; intro wxc hbxc; replace hbxc := PR.trans hb0xc hbxc; have hSxc := PS.step hE hSxb hbxc; try simp only [Act.put, List.setIfInBounds_toArray, List.set_cons_zero, List.set_cons_succ]
          obtain ⟨j2, rfl⟩ := Int.eq_ofNat_of_zero_le hq2
          have hwr3 := hwr2 j2 (by omega)
          repeat (first | (refine Lx.takeY ?_ (by rfl) ?_ (by assumption) ?_; rotate_left; (focus (intro w' hSw; (try dsimp only at hSw); go_simp; (try with_reducible rfl))); simp only [Act.put, List.setIfInBounds_toArray, List.set_cons_zero, List.set_cons_succ]) | (refine Lx.takeN (by rfl) (by assumption) ?_; simp only [Act.put, List.setIfInBounds_toArray, List.set_cons_zero, List.set_cons_succ]))
          refine Lx.go ?_; intro K hK; go_simp; go_at_call 83; refine (oks.2 E (2 + (j2 : Int)) _ 0 _ (by omega) (by omega) (hE.keep hSxc.2.2.2.2.2) (SR.nil _ _ _) (by omega)).mono ?_; rintro e w0xd ⟨S1, rfl, hS1, hb0xd⟩; refine hK _ _ hb0xd ?_; clear hK K; intro wxd hbxd; replace hbxd := PR.trans hb0xd hbxd; have hSxd := PS.step hE hSxc hbxd; try simp only [Act.put, List.setIfInBounds_toArray, List.set_cons_zero, List.set_cons_succ]
          have hcat1 : (9223372036854775807 < 17 + S1.size) = False := eq_false (by omega)
          have hcat2 : (9223372036854775807 < 17 + S1.size + 1) = False := eq_false (by omega)
          have hcat3 : (9223372036854775807 < T.size + (17 + S1.size + 1)) = False := eq_false (by omega)
          repeat (first | (refine Lx.takeY ?_ (by rfl) ?_ (by assumption) ?_; rotate_left; (focus (intro w' hSw; (try dsimp only at hSw); go_simp; (try with_reducible rfl))); simp only [Act.put, List.setIfInBounds_toArray, List.set_cons_zero, List.set_cons_succ]) | (refine Lx.takeN (by rfl) (by assumption) ?_; simp only [Act.put, List.setIfInBounds_toArray, List.set_cons_zero, List.set_cons_succ]))
          have hp := hSxd.2.2.2.2.2
          have ct := (hSxd.1 gt j g1 g2 g3).trans hT
          have ft : wxd.frozen? ⟨gt, j, none⟩ = false := (World.frozen?_of_block (w := w9) (hp.block gt g1 g2 g3)).trans fT
          have zt : gt < wxd.heap.size := Nat.lt_of_lt_of_le g3 hp.size
          have hSs : (T ++ (⟨#[102, 110, 32, 109, 97, 105, 110, 40, 41, 32, 45, 62, 32, 105, 110, 116, 32]⟩ ++ S1 ++ ⟨#[10]⟩)).size ≤ 17200 := by simp only [ByteArray.size_append, size_lit, List.size_toArray, List.length_cons, List.length_nil]; omega
          obtain ⟨SS, hSS⟩ : ∃ SS : ByteArray, T ++ (⟨#[102, 110, 32, 109, 97, 105, 110, 40, 41, 32, 45, 62, 32, 105, 110, 116, 32]⟩ ++ S1 ++ ⟨#[10]⟩) = SS := ⟨_, rfl⟩
          rw [hSS] at hSs ⊢
          have hS14 := ((HS9.out.pr hp).mono (d := 17200) (by omega)).store (i := j) (S := SS) hjn hSs
          have hD14 := (HD9'.out.pr hp.toPX (by rw [He5.out]; exact Nat.le_refl _)).set ⟨gt, j, none⟩ (.string SS) (by show w.heap.size ≤ gt; omega)
          have HS14 := Lib.hid hS14
          have HD14 := Lib.hid hD14
          clear hSxa hSxb hSxc hSxd hbxa hbxb hbxc hbxd hb0xb hb0xc hb0xd hp hT fT hE hS14 hD14 hSS hwr2 hwr3 HS9 HD9'
          refine Lx.tail ?_
          go_upto_region 21 with fail
          generalize wxd.setCell ⟨gt, j, none⟩ (.string SS) = wz at *
          clear ct ft zt
          go_wp2_with fail
          go_loopw [10, 11] (fun s10 s11 wr => ∃ i : Nat, s11 = .int .i64 i ∧ Hid (i ≤ n) ∧ Hid (InO 17200 wz.heap.size wr s10 i) ∧ Hid (Agree (· < wz.heap.size) wz wr) ∧ Hid (Below wz.heap.size wz wr)) (fun _ s11 _ => n - (intOf s11).toNat)
          case atStart => exact ⟨0, rfl, Nat.zero_le _, ⟨[], World.ownsRow_nil _ _ _ _, rfl⟩, Agree.refl _ _, ext_refl wz⟩
          case round =>
            obtain ⟨i, rfl, Hi, HI, HA, HB⟩ := hrel
            have hi := Hi.out
            by_cases hin2 : i < n
            · have hd4 : decide ((i : Int) < (n : Int)) = true := decide_eq_true (by omega)
              have hPr := HS14.out.po.pe
              have gz : gt < wz.heap.size := Nat.lt_of_lt_of_le (Nat.lt_succ_self gt) HS14.out.po.b
              obtain ⟨T, hT0, _, hTs⟩ := HS14.out.tx.at hin2
              have hT : wr.cell? ⟨gt, i, none⟩ = some (.string T) := (World.cell?_of_block (w := wz) (HA.out gt gz gz)).trans hT0
              have g3r : gt < wr.heap.size := Nat.lt_of_lt_of_le gz HB.out.size
              clear hT0
              go_upto_region 25 with fail
              refine Lx.region Lx.below_steps [(0, true), (1, true), (3, true), (4, true), (5, true), (6, true), (2, false), (7, true), (8, false)] [(9, false), (10, false)] (fun w' => (∀ b o, b < wr.heap.size → w'.cell? ⟨b, o, none⟩ = wr.cell? ⟨b, o, none⟩) ∧ (∀ b o, b < wr.heap.size → w'.frozen? ⟨b, o, none⟩ = wr.frozen? ⟨b, o, none⟩) ∧ Below wr.heap.size wr w') (by kernel_rfl) (by kernel_rfl) (fun _ _ _ _ _ h => h) (fun _ h => held_below h) (fun _ _ h hb => held_call h hb) ?_; intro xa hbxa; replace hbxa : Below wr.heap.size wr xa := hbxa; simp only [Lx.pick, List.filterMap_cons, List.filterMap_nil, List.getElem?_cons_succ, List.getElem?_cons_zero, List.map_cons, List.map_nil]; have hSxa := held_below hbxa
              repeat (first | (refine Lx.takeY ?_ (by rfl) ?_ (by assumption) ?_; rotate_left; (focus (intro w' hSw; (try dsimp only at hSw); go_simp; (try with_reducible rfl))); simp only [Act.put, List.setIfInBounds_toArray, List.set_cons_zero, List.set_cons_succ]) | (refine Lx.takeN (by rfl) (by assumption) ?_; simp only [Act.put, List.setIfInBounds_toArray, List.set_cons_zero, List.set_cons_succ]))
              refine Lx.go ?_; intro K hK; go_simp; go_at_call 80; refine (letter_any i _ (by omega)).mono ?_; rintro e w0xb ⟨S1, rfl, hS1, hb0xb⟩; refine hK _ _ hb0xb ?_; clear hK K; intro wxb hbxb; replace hbxb : Below w0xb.heap.size w0xb wxb := hbxb; have hSxb := held_call (held_call hSxa hb0xb) hbxb; try simp only [Act.put, List.setIfInBounds_toArray, List.set_cons_zero, List.set_cons_succ]
              repeat (first | (refine Lx.takeY ?_ (by rfl) ?_ (by assumption) ?_; rotate_left; (focus (intro w' hSw; (try dsimp only at hSw); go_simp; (try with_reducible rfl))); simp only [Act.put, List.setIfInBounds_toArray, List.set_cons_zero, List.set_cons_succ]) | (refine Lx.takeN (by rfl) (by assumption) ?_; simp only [Act.put, List.setIfInBounds_toArray, List.set_cons_zero, List.set_cons_succ]))
              refine Lx.go ?_; intro K hK; go_simp
              obtain ⟨xc0, hxc0, BE, hbe⟩ := fresh_blk wxb [Value.string S1, Value.string T] 91
              rw [hxc0]
              refine hK _ _ hbe ?_; clear hK K; intro xc hbxc; replace hbxc : Below xc0.heap.size xc0 xc := hbxc; have hSxc := held_call (held_call hSxb hbe) hbxc; try simp only [Act.put, List.setIfInBounds_toArray, List.set_cons_zero, List.set_cons_succ]
              have BE2 := BE.call hbxc
              have hbwc : Below wr.heap.size wr xc := hSxc.2.2
              obtain ⟨xs, ho, hxa⟩ := HI.out
              have hsrc : Src Try.prog 2 88 (.slice (some ⟨wxb.heap.size, 0, none⟩) 1 1) 1 [Value.string S1, Value.string T] xc :=
                Src.ofSlice xc (e' := 91) Try.underlying88 _ 1 1 _ rfl (fun j u hj => by rw [Addr.add_lit, Nat.zero_add]; exact (BE2.cells j).trans hj) (fun u hu => by simp only [List.mem_cons, List.not_mem_nil, or_false] at hu; rcases hu with rfl | rfl <;> rfl)
              have hown := ownsRow_below ho hbwc
              have hbel : Below wz.heap.size wz xc := HB.out.trans (hbwc.mono HB.out.size)
              have hag : Agree (· < wz.heap.size) wz xc := HA.out.trans HB.out.size (fun g hg hlt => hbwc.block g hlt)
              have hbig := hbel.size
              have Hbel := Lib.hid hbel
              have Hag := Lib.hid hag
              have Hsrc := Lib.hid hsrc
              have Hown := Lib.hid hown
              have Hxa := Lib.hid hxa
              have hxl := ho.1
              clear hSxa hSxb hSxc hbe hbxc hxc0 BE BE2 hsrc hown hbel hag hbxb hb0xb hbxa hbwc ho hxa hT g3r
              refine Lx.tail ?_
              refine app_at _ _ 88 88 91 (.agg #[.string ⟨#[]⟩, .string ⟨#[]⟩]) 2 32 rfl rfl Try.underlying88 (by kernel_rfl) rfl (by decide) wz.heap.size Hown.out hbig rfl rfl Hsrc.out (by unfold maxLen; omega) (by omega) ?_
              intro vd wd Ho Hg hat
              have hbd := below_own Hbel.out Hown.out Hg hbig
              have hIO : InO 17200 wz.heap.size wd vd (i + 1) := ⟨_, Ho, by rw [List.all_append, Hxa.out]; simp [strB]; omega⟩
              have hag2 : Agree (· < wz.heap.size) wz wd := fun g hg hlt => hbd.block g hg
              have HIO := Lib.hid hIO
              have Hbd := Lib.hid hbd
              have Hag2 := Lib.hid hag2
              clear Ho Hg hat hIO hbd hag2
              go_wp2_with fail
              go_roundw
              case rel => exact ⟨i + 1, by simp, hin2, HIO.out, Hag2.out, Hbd.out⟩
              case measure => simp [intOf]; omega
            · have hd4 : decide ((i : Int) < (n : Int)) = false := decide_eq_false (by omega)
              have hii : i = n := by omega
              go_wp2_with fail
              go_ret
              have hPE := HS14.out.po.pe.agree HA.out HB.out.size
              have hLS : LS 17200 E.A wr u10 n := by rw [← hii]; exact HI.out.ls fun g hg => ⟨by have := HS14.out.po.pe.ltd; omega, by have := HS14.out.po.pe.ltp; omega⟩
              have hDX : DX gd w wr := by
                have h := HD14.out.trans (DX.of_below HB.out)
                rw [He6.out] at h
                exact h
              exact ⟨E, _, n, rfl, hn1, hn3, He6.out, by rw [He5.out]; exact Nat.le_refl _, hPE, hLS, hDX⟩
end Go.Proofs.Ytpjdboebambneaa
