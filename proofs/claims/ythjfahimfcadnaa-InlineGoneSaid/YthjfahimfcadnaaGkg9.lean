import Derived.Test.YthjfahimfcadnaaGkg3
import Derived.Test.YthjfahimfcadnaaGkg8
import Derived.Test.YthjfahimfcadnaaGkg6
import Derived.Test.YthjfahimfcadnaaLx
/- Lists in memory whose elements are read by a relation of their cells. -/
namespace Go.Proofs.Ythjfahimfcadnaa
open Go.ChangeShapes Go.WideShapes Go.RowKit

/-- how an element is read: it lies in these cells, and what they lead to lies in blocks with A -/
structure Rd (α : Type) where
  size : Nat
  rd : (Nat → Prop) → World → List Value → α → Prop
  keep : ∀ {A w w' cs x}, rd A w cs x → Agree A w w' → rd A w' cs x
  mono : ∀ {A B w cs x}, rd A w cs x → (∀ g, A g → B g) → rd B w cs x
  lt : ∀ {A w cs x}, rd A w cs x → rd (fun g => A g ∧ g < w.heap.size) w cs x
  len : ∀ {A w cs x}, rd A w cs x → cs.length = size

variable {α : Type} {R : Rd α}

/-- a slice that is only read -/
def ListAt (R : Rd α) (A : Nat → Prop) (w : World) (v : Value) (l : List α) : Prop :=
  ∃ p cap cs, v = .slice p l.length cap ∧ Holds A w p cs ∧ cs.length = l.length * R.size ∧ l.length ≤ cap ∧ ∀ (i : Nat) (x : α), l[i]? = some x → R.rd A w ((cs.drop (i * R.size)).take R.size) x
theorem ListAt.parts {A : Nat → Prop} {w : World} {v : Value} {l : List α} (h : ListAt R A w v l) : ∃ p cap, v = .slice p l.length cap := by
  obtain ⟨p, cap, _, hv, _⟩ := h; exact ⟨p, cap, hv⟩
theorem ListAt.nil (A : Nat → Prop) (w : World) : ListAt R A w (.slice none 0 0) [] := ⟨none, 0, [], rfl, .inl rfl, by simp, Nat.le_refl _, fun i x h => by simp at h⟩
theorem ListAt.keep {A : Nat → Prop} {w w' : World} {v : Value} {l : List α} (h : ListAt R A w v l) (hk : Agree A w w') : ListAt R A w' v l := by
  obtain ⟨p, cap, cs, hv, hh, hl, hc, hr⟩ := h
  exact ⟨p, cap, cs, hv, hh.keep hk, hl, hc, fun i x hi => R.keep (hr i x hi) hk⟩
theorem ListAt.mono {A B : Nat → Prop} {w : World} {v : Value} {l : List α} (h : ListAt R A w v l) (hk : ∀ g, A g → B g) : ListAt R B w v l := by
  obtain ⟨p, cap, cs, hv, hh, hl, hc, hr⟩ := h
  exact ⟨p, cap, cs, hv, hh.mono hk, hl, hc, fun i x hi => R.mono (hr i x hi) hk⟩
theorem ListAt.lt {A : Nat → Prop} {w : World} {v : Value} {l : List α} (h : ListAt R A w v l) : ListAt R (fun g => A g ∧ g < w.heap.size) w v l := by
  obtain ⟨p, cap, cs, hv, hh, hl, hc, hr⟩ := h
  refine ⟨p, cap, cs, hv, ?_, hl, hc, fun i x hi => R.lt (hr i x hi)⟩
  by_cases hne : 0 < cs.length
  · obtain ⟨g, off, hp, hA, hlt, hcell⟩ := hh.at hne
    exact .inr ⟨g, off, hp, ⟨hA, hlt⟩, hcell⟩
  · exact .inl (List.eq_nil_of_length_eq_zero (by omega))
/-- an element of a slice: where its cells lie -/
theorem ListAt.get {A : Nat → Prop} {w : World} {p : Option Addr} {n cap : Nat} {l : List α} (h : ListAt R A w (.slice p n cap) l) {i : Nat} {x : α} (hi : l[i]? = some x) (h0 : 0 < R.size) :
    ∃ g o cs, p = some ⟨g, o, none⟩ ∧ A g ∧ g < w.heap.size ∧ R.rd A w cs x ∧ ∀ (k : Nat) (c : Value), cs[k]? = some c → w.cell? ⟨g, o + i * R.size + k, none⟩ = some c := by
  obtain ⟨p', cap', cs, hv, hh, hl, hcc, hr⟩ := h
  simp only [Value.slice.injEq] at hv
  obtain ⟨rfl, rfl, _⟩ := hv
  have hil := (List.getElem?_eq_some_iff.1 hi).1
  have hpos : 0 < cs.length := by rw [hl]; exact Nat.mul_pos (by omega) h0
  obtain ⟨g, o, rfl, hA, hg, hc⟩ := hh.at hpos
  refine ⟨g, o, _, rfl, hA, hg, hr i x hi, fun k c hk => ?_⟩
  rw [List.getElem?_take] at hk
  split at hk
  · rw [List.getElem?_drop] at hk
    rw [Nat.add_assoc]
    exact hc _ _ hk
  · cases hk
/-- the same of a slice that is not empty, for all its elements -/
theorem ListAt.all {A : Nat → Prop} {w : World} {p : Option Addr} {n cap : Nat} {l : List α} (h : ListAt R A w (.slice p n cap) l) (h0 : 0 < R.size) (hl : 0 < l.length) :
    ∃ g o, p = some ⟨g, o, none⟩ ∧ A g ∧ g < w.heap.size ∧ ∀ (i : Nat) (x : α), l[i]? = some x → ∃ cs, R.rd A w cs x ∧ ∀ (k : Nat) (c : Value), cs[k]? = some c → w.cell? ⟨g, o + i * R.size + k, none⟩ = some c := by
  obtain ⟨g, o, cs, rfl, hA, hg, _⟩ := h.get (i := 0) (x := l[0]) (List.getElem?_eq_getElem hl) h0
  refine ⟨g, o, rfl, hA, hg, fun i x hi => ?_⟩
  obtain ⟨g', o', cs', he, _, _, hr, hc⟩ := h.get hi h0
  simp only [Option.some.injEq, Addr.mk.injEq, and_true] at he
  obtain ⟨rfl, rfl⟩ := he
  exact ⟨cs', hr, hc⟩
/-- a slice of the call's own that an append made -/
def ListOwn (R : Rd α) (t : TypeId) (w : World) (base : Nat) (v : Value) (l : List α) : Prop :=
  ∃ cs, w.ownsRow base t R.size v l.length cs ∧ ∀ (i : Nat) (x : α), l[i]? = some x → R.rd (fun g => base ≤ g ∧ some g ≠ v.ownBlock) w ((cs.drop (i * R.size)).take R.size) x
theorem ListOwn.nil (t : TypeId) (w : World) (base : Nat) : ListOwn R t w base (.slice none 0 0) [] := ⟨[], World.ownsRow_nil _ _ _ _, fun i x h => by simp at h⟩
theorem ListOwn.keep {t : TypeId} {A : Nat → Prop} {w w' : World} {base : Nat} {v : Value} {l : List α} (h : ListOwn R t w base v l) (hk : Agree A w w') (hA : ∀ g, base ≤ g → A g) : ListOwn R t w' base v l := by
  obtain ⟨cs, h1, h2⟩ := h
  exact ⟨cs, ownsRow_keep h1 hk fun g e => hA g (h1.lt g e).1, fun i x hi => R.keep (h2 i x hi) (hk.mono fun g hg => hA g hg.1)⟩
theorem ListOwn.call {t : TypeId} {w w' : World} {base : Nat} {v : Value} {l : List α} (h : ListOwn R t w base v l) (hb : Below w.heap.size w w') : ListOwn R t w' base v l :=
  h.keep (A := fun _ => True) (agree_below hb) fun _ _ => trivial
theorem ListOwn.own {t : TypeId} {w : World} {base : Nat} {v : Value} {l : List α} (h : ListOwn R t w base v l) : ∀ g, v.ownBlock = some g → base ≤ g ∧ g < w.heap.size := by
  obtain ⟨cs, h1, h2⟩ := h
  exact fun g e => h1.lt g e
theorem ListOwn.at {t : TypeId} {w : World} {base : Nat} {v : Value} {l : List α} (h : ListOwn R t w base v l) : ListAt R (base ≤ ·) w v l := by
  obtain ⟨cs, h1, h2⟩ := h
  obtain ⟨p, c, hv, hh, hc⟩ := ownsRow_holds3 h1
  exact ⟨p, c, cs, hv, hh.mono fun g hg => hg.2, h1.1, hc, fun i x hi => R.mono (h2 i x hi) fun g hg => hg.1⟩
theorem ListOwn.base {t : TypeId} {w : World} {base b2 : Nat} {v : Value} {l : List α} (h : ListOwn R t w base v l) (hb : b2 ≤ base) : ListOwn R t w b2 v l := by
  obtain ⟨cs, h1, h2⟩ := h
  exact ⟨cs, ownsRow_base h1 hb, fun i x hi => R.mono (h2 i x hi) fun g hg => ⟨Nat.le_trans hb hg.1, hg.2⟩⟩
/-- one more element -/
theorem ListOwn.push {t : TypeId} {w w' : World} {base : Nat} {v v' : Value} {l : List α} {x : α} {cs es : List Value} (h1 : w.ownsRow base t R.size v l.length cs)
    (h2 : ∀ (i : Nat) (x : α), l[i]? = some x → R.rd (fun g => base ≤ g ∧ some g ≠ v.ownBlock) w ((cs.drop (i * R.size)).take R.size) x)
    (ho : w'.ownsRow base t R.size v' (l.length + 1) (cs ++ es)) (hg : w.grownBy w' v.ownBlock) (hw : v'.ownBlock = v.ownBlock ∨ v'.ownBlock = some w.heap.size)
    (hx : R.rd (fun g => base ≤ g ∧ some g ≠ v.ownBlock) w es x) : ListOwn R t w' base v' (l ++ [x]) := by
  have hl : cs.length = l.length * R.size := h1.1
  have he := R.len hx
  have hk : ∀ {ds : List Value} {y : α}, R.rd (fun g => base ≤ g ∧ some g ≠ v.ownBlock) w ds y → R.rd (fun g => base ≤ g ∧ some g ≠ v'.ownBlock) w' ds y := fun {ds y} h =>
    R.mono (R.keep (R.lt h) (agree_grown hg fun b hb => hb.1.2)) fun b hb => ⟨hb.1.1, by
      rcases hw with e | e
      · rw [e]; exact hb.1.2
      · rw [e]; intro e2; injection e2 with e2; have := hb.2; omega⟩
  refine ⟨_, by rw [List.length_append]; exact ho, fun i y hi => ?_⟩
  by_cases hik : i < l.length
  · rw [List.getElem?_append_left hik] at hi
    have h3 : i * R.size + R.size ≤ cs.length := by rw [hl, ← Nat.succ_mul]; exact Nat.mul_le_mul_right _ hik
    rw [List.drop_append_of_le_length (by omega), List.take_append_of_le_length (by rw [List.length_drop]; omega)]
    exact hk (h2 i y hi)
  · rw [List.getElem?_append_right (by omega)] at hi
    have hik2 : i - l.length = 0 := by
      have := (List.getElem?_eq_some_iff.1 hi).1
      simp at this; omega
    rw [hik2] at hi
    simp only [List.getElem?_cons_zero, Option.some.injEq] at hi
    subst hi
    have : i = l.length := by omega
    rw [this, ← hl, List.drop_left' rfl, ← he, List.take_length]
    exact hk hx
/-- where the cells of an element of an own row lie -/
theorem row_cells {t : TypeId} {size : Nat} {w : World} {base n i : Nat} {v : Value} {cs es : List Value} (h : w.ownsRow base t size v n cs) (he : (cs.drop (i * size)).take size = es) (h0 : 0 < es.length) :
    ∃ g cap, v = .slice (some ⟨g, 0, none⟩) n cap ∧ base ≤ g ∧ g < w.heap.size ∧ ∀ (k : Nat) (c : Value), es[k]? = some c → w.cell? ⟨g, i * size + k, none⟩ = some c := by
  have hp : 0 < cs.length := by
    rcases Nat.eq_zero_or_pos cs.length with h1 | h1
    · have : cs = [] := List.eq_nil_of_length_eq_zero h1
      subst this
      simp at he
      subst he
      simp at h0
    · exact h1
  obtain ⟨g, cap, hv, hb, hg, hr, _⟩ := ownsRow_row h hp
  refine ⟨g, cap, hv, hb, hg, fun k c hk => hr.cell ?_⟩
  rw [← he, List.getElem?_take] at hk
  split at hk
  · rw [List.getElem?_drop] at hk; exact hk
  · cases hk
/-- a slice of the call's own; what belongs to its elements lies apart, element for element -/
def ListSep (R : Rd α) (t : TypeId) (w : World) (base top : Nat) (v : Value) (l : List α) : Prop :=
  ∃ (cs : List Value) (b : Nat → Nat), w.ownsRow base t R.size v l.length cs ∧ (∀ i j, i ≤ j → b i ≤ b j) ∧ base ≤ b 0 ∧ (∀ i, b i ≤ top) ∧ (∀ g, v.ownBlock = some g → g < top) ∧ ∀ (i : Nat) (x : α), l[i]? = some x → R.rd (fun g => b i ≤ g ∧ g < b (i + 1) ∧ some g ≠ v.ownBlock) w ((cs.drop (i * R.size)).take R.size) x
theorem ListSep.nil (t : TypeId) (w : World) {base top : Nat} (h : base ≤ top) : ListSep R t w base top (.slice none 0 0) [] :=
  ⟨[], fun _ => base, World.ownsRow_nil _ _ _ _, fun _ _ _ => Nat.le_refl _, Nat.le_refl _, fun _ => h, fun g e => (by cases e), fun i x h => by simp at h⟩
theorem ListSep.keep {t : TypeId} {A : Nat → Prop} {w w' : World} {base top : Nat} {v : Value} {l : List α} (h : ListSep R t w base top v l) (hk : Agree A w w') (hA : ∀ g, base ≤ g → g < top → A g) : ListSep R t w' base top v l := by
  obtain ⟨cs, b, h1, h2, h3, h4, h6, h5⟩ := h
  exact ⟨cs, b, ownsRow_keep h1 hk fun g e => hA g (h1.lt g e).1 (h6 g e), h2, h3, h4, h6, fun i x hi => R.keep (h5 i x hi) (hk.mono fun g hg => hA g (by have := h2 0 i (Nat.zero_le _); omega) (by have := h4 (i + 1); omega))⟩
theorem ListSep.call {t : TypeId} {w w' : World} {base top : Nat} {v : Value} {l : List α} (h : ListSep R t w base top v l) (hb : Below w.heap.size w w') : ListSep R t w' base top v l :=
  h.keep (A := fun _ => True) (agree_below hb) fun _ _ _ => trivial
theorem ListSep.own {t : TypeId} {w : World} {base top : Nat} {v : Value} {l : List α} (h : ListSep R t w base top v l) : ∀ g, v.ownBlock = some g → base ≤ g ∧ g < top ∧ g < w.heap.size := by
  obtain ⟨cs, b, h1, _, _, _, h6, _⟩ := h
  exact fun g e => ⟨(h1.lt g e).1, h6 g e, (h1.lt g e).2⟩
theorem ListSep.at {t : TypeId} {w : World} {base top : Nat} {v : Value} {l : List α} (h : ListSep R t w base top v l) : ListAt R (base ≤ ·) w v l := by
  obtain ⟨cs, b, h1, h2, h3, h4, _, h5⟩ := h
  obtain ⟨p, c, hv, hh, hc⟩ := ownsRow_holds3 h1
  exact ⟨p, c, cs, hv, hh.mono fun g hg => hg.2, h1.1, hc, fun i x hi => R.mono (h5 i x hi) fun g hg => by have := h2 0 i (Nat.zero_le _); omega⟩
/-- one more element, whose blocks lie between lo and hi -/
theorem ListSep.push {t : TypeId} {w w' : World} {base lo hi : Nat} {v v' : Value} {l : List α} {x : α} {cs es : List Value} {b : Nat → Nat} (h1 : w.ownsRow base t R.size v l.length cs)
    (h2 : ∀ i j, i ≤ j → b i ≤ b j) (h3 : base ≤ b 0) (h4 : ∀ i, b i ≤ lo)
    (h5 : ∀ (i : Nat) (x : α), l[i]? = some x → R.rd (fun g => b i ≤ g ∧ g < b (i + 1) ∧ some g ≠ v.ownBlock) w ((cs.drop (i * R.size)).take R.size) x)
    (ho : w'.ownsRow base t R.size v' (l.length + 1) (cs ++ es)) (hg : w.grownBy w' v.ownBlock) (hw : v'.ownBlock = v.ownBlock ∨ v'.ownBlock = some w.heap.size)
    (hlh : lo ≤ hi) (hhi : w'.heap.size ≤ hi) (hx : R.rd (fun g => lo ≤ g ∧ g < hi ∧ some g ≠ v.ownBlock) w es x) : ListSep R t w' base hi v' (l ++ [x]) := by
  have hl : cs.length = l.length * R.size := h1.1
  have he := R.len hx
  have hk : ∀ {A : Nat → Prop} {ds : List Value} {y : α}, R.rd (fun g => A g ∧ some g ≠ v.ownBlock) w ds y → R.rd (fun g => A g ∧ some g ≠ v'.ownBlock) w' ds y := fun {A ds y} h =>
    R.mono (R.keep (R.lt h) (agree_grown hg fun b hb => hb.1.2)) fun b hb => ⟨hb.1.1, by
      rcases hw with e | e
      · rw [e]; exact hb.1.2
      · rw [e]; intro e2; injection e2 with e2; have := hb.2; omega⟩
  have hk3 : ∀ {a c : Nat} {ds : List Value} {y : α}, R.rd (fun g => a ≤ g ∧ g < c ∧ some g ≠ v.ownBlock) w ds y → R.rd (fun g => a ≤ g ∧ g < c ∧ some g ≠ v'.ownBlock) w' ds y := fun {a c ds y} h =>
    R.mono (hk (A := fun g => a ≤ g ∧ g < c) (R.mono h fun g hg => ⟨⟨hg.1, hg.2.1⟩, hg.2.2⟩)) fun g hg => ⟨hg.1.1, hg.1.2, hg.2⟩
  refine ⟨cs ++ es, fun i => if i < l.length then b i else if i = l.length then lo else hi, by rw [List.length_append]; exact ho, fun i j hij => ?_, ?_, fun i => ?_, fun g e => Nat.lt_of_lt_of_le (ho.lt g e).2 hhi, fun i y hi => ?_⟩
  · dsimp only
    have := h2 i j hij
    have := h4 i
    split <;> split <;> (try split) <;> (try split) <;> omega
  · dsimp only
    have := h4 0
    split
    · exact h3
    · split <;> omega
  · dsimp only
    have := h4 i
    split
    · omega
    · split <;> omega
  · dsimp only
    by_cases hik : i < l.length
    · rw [List.getElem?_append_left hik] at hi
      have h6 : i * R.size + R.size ≤ cs.length := by rw [hl, ← Nat.succ_mul]; exact Nat.mul_le_mul_right _ hik
      rw [List.drop_append_of_le_length (by omega), List.take_append_of_le_length (by rw [List.length_drop]; omega), if_pos hik]
      refine R.mono (hk3 (h5 i y hi)) fun g hg => ⟨hg.1, ?_, hg.2.2⟩
      have h7 := h4 (i + 1)
      have h8 := hg.2.1
      split
      · exact h8
      · split <;> omega
    · rw [List.getElem?_append_right (by omega)] at hi
      have hik2 : i - l.length = 0 := by
        have := (List.getElem?_eq_some_iff.1 hi).1
        simp at this; omega
      rw [hik2] at hi
      simp only [List.getElem?_cons_zero, Option.some.injEq] at hi
      subst hi
      have hil : i = l.length := by omega
      subst hil
      rw [← hl, List.drop_left' rfl, ← he, List.take_length, if_neg (Nat.lt_irrefl _), if_pos rfl, if_neg (by omega), if_neg (by omega)]
      exact hk3 hx
end Go.Proofs.Ythjfahimfcadnaa
/- Objects: what an image needs: check values, which functions can stand in it. -/
namespace Go.Proofs.Ythjfahimfcadnaa
open Go.ChangeShapes Go.WideShapes Go.RowKit

theorem wrap_byte (c : UInt8) : IntKind.u64.wrap (c.toNat : Int) = (c.toNat : Int) := by
  have := c.toNat_lt
  rw [IntKind.wrap_u64]; omega
theorem fp_bits {h : Nat} (hh : h < 18446744073709551616) (c : UInt8) : IntKind.u64.wrap (bits .xor .u64 (h : Int) (c.toNat : Int) * 1099511628211) = ((Ob.fpStep h c : Nat) : Int) := by
  have hc := c.toNat_lt
  rw [u64_xor_nat h c.toNat hh (by omega), IntKind.wrap_u64]
  unfold Ob.fpStep
  generalize h ^^^ c.toNat = x
  omega

set_option maxRecDepth 100000 in
set_option maxHeartbeats 800000 in
theorem fingerprint_any (S : ByteArray) (w : World) (hS : S.size ≤ 1000000000000) :
    Calls Try.prog 116 #[.string S] w fun e w' => e = .returned (.int .u64 (Ob.fp S.data.toList : Nat)) ∧ w' = w := by
  have hlS : S.data.toList.length = S.size := by simp
  go_enter Try.func116, Try.ntmps116
  go_upto_region 3 with fail
  go_loopw [3, 7] (fun u i wr => wr = w ∧ ∃ k h : Nat, i = .int .i64 k ∧ k ≤ S.size ∧ u = .int .u64 h ∧ h < 18446744073709551616 ∧ Hid (h = Ob.fp (S.data.toList.take k))) (fun _ i _ => S.size - (intOf i).toNat)
  case atStart => exact ⟨rfl, 0, 14695981039346656037, rfl, Nat.zero_le _, rfl, by omega, by show _ = _; rw [List.take_zero]; rfl⟩
  case round =>
    obtain ⟨rfl, k, h, rfl, hk, rfl, hh, hf⟩ := hrel
    by_cases hlt : k < S.size
    · have d1 : decide ((k : Int) < (S.size : Int)) = true := decide_eq_true (by omega)
      have hx := fp_bits hh S[k]
      have hnext : Hid (Ob.fpStep h S[k] = Ob.fp (S.data.toList.take (k + 1))) := by show _ = _; rw [take_snoc S k hlt, Ob.fp_snoc, ← hf.out]
      have hlt2 := Ob.fpStep_lt h S[k]
      have H2 := Lib.hid hh
      clear hh
      go_wp2_with fail
      go_roundw
      case rel => exact ⟨by trivial, k + 1, Ob.fpStep h S[k], val_int (by omega), hlt, by rw [← hx, wrap_byte], hlt2, hnext⟩
      case measure => simp [intOf]; omega
    · have d1 : decide ((k : Int) < (S.size : Int)) = false := decide_eq_false (by omega)
      have he : Hid (h = Ob.fp S.data.toList) := by
        have h1 := hf.out
        rw [List.take_of_length_le (by omega)] at h1
        exact h1
      go_wp2_with fail
      go_ret
      exact ⟨by rw [← he.out]; rfl, rfl⟩

/-- an operation as a value -/
def opVal (o : Ob.Op) (u : Value) : Value := .agg #[.int .i64 o.kind, .int .i64 o.a, .int .i64 o.b, .int .i64 o.c, u, .string ⟨o.sym.toArray⟩]
set_option maxRecDepth 100000 in
set_option maxHeartbeats 800000 in
theorem linked1_any (o : Ob.Op) (u : Value) (w : World) : Calls Try.prog 119 #[opVal o u] w fun e w' => e = .returned (.bool (Ob.badOp o)) ∧ Below w.heap.size w w' := by
  obtain ⟨kd, oa, ob, oc, ls, sy⟩ := o
  unfold opVal
  dsimp only
  obtain ⟨S, hS⟩ : ∃ S : ByteArray, ⟨sy.toArray⟩ = S := ⟨_, rfl⟩
  have hSd : S.data.toList = sy := by rw [← hS]
  rw [hS]
  obtain ⟨w1, hw1, B1, hb1⟩ := fresh_blk w [.int .i64 kd, .int .i64 oa, .int .i64 ob, .int .i64 oc, u, .string S] 41
  have c0 := B1.cells 0
  have c5 := B1.cells 5
  have cl := B1.lt
  simp only [List.getElem?_cons_zero, List.getElem?_cons_succ] at c0 c5
  have Hw1 := Lib.hid hw1
  have Hb1 := Lib.hid hb1
  have hres : Hid (Ob.badOp ⟨kd, oa, ob, oc, ls, sy⟩ = (kd == 19 || (kd == 14 && !sy.isEmpty))) := rfl
  clear hw1 B1 hb1 hS
  go_enter Try.func119, Try.ntmps119
  go_upto_region 1 with fail
  rw [Hw1.out]
  by_cases h19 : kd = 19
  · subst h19
    go_wp2_with fail
    go_ret
    exact ⟨by rw [hres.out]; rfl, Hb1.out⟩
  · have q19 : (kd == 19) = false := by simp [h19]
    by_cases h14 : kd = 14
    · subst h14
      go_wp2_with fail
      go_ret
      refine ⟨?_, Hb1.out⟩
      rw [hres.out, ← hSd, ← ByteArray.toList_eq]
      rfl
    · have q14 : (kd == 14) = false := by simp [h14]
      clear h14 h19
      go_wp2_with fail
      go_ret
      exact ⟨by rw [hres.out, q19, q14]; rfl, Hb1.out⟩

set_option maxRecDepth 100000 in
set_option maxHeartbeats 800000 in
/-- which operations: a slice of operations that is only read, and a function of the program -/
theorem indexop_any {A : Nat → Prop} (fn : Nat) (q : Ob.Op → Bool) (v : Value) (l : List Ob.Op) (w : World) (hv : OpsAt A w v l) (hn : l.length ≤ 1000000000000) (hcf : ∀ args w, (callFunc fn args).run Try.prog w = .ok (.enter fn args) w)
    (hf : ∀ (o : Ob.Op) (u : Value) (w : World), o ∈ l → Calls Try.prog fn #[opVal o u] w fun e w' => e = .returned (.bool (q o)) ∧ Below w.heap.size w w') :
    Calls Try.prog 137 #[v, .func (.func fn) #[] #[]] w fun e w' => ∃ i : Int, e = .returned (.int .i64 i) ∧ (decide (0 ≤ i) = l.any q) ∧ -1 ≤ i ∧ i ≤ 1000000000000 ∧ Below w.heap.size w w' := by
  obtain ⟨p, c1, rfl⟩ := hv.parts
  have HP := Lib.hid hv
  obtain ⟨n, hl⟩ : ∃ n, l.length = n := ⟨_, rfl⟩
  have Hl := Lib.hid hl
  have Hf := Lib.hid hf
  have Hcf := Lib.hid hcf
  rw [hl] at hn HP ⊢
  clear hv hl hf hcf
  go_enter Try.func137, Try.ntmps137
  go_upto_region 2 with fail
  go_loopw [8] (fun i wr => Hid (Below w.heap.size w wr) ∧ ∃ k : Nat, i = .int .i64 k ∧ k ≤ n ∧ Hid (∀ x ∈ l.take k, q x = false)) (fun i _ => n - (intOf i).toNat)
  case atStart => exact ⟨Below.refl _ _, 0, rfl, Nat.zero_le _, by show ∀ x ∈ _, _; simp⟩
  case round =>
    obtain ⟨hB, k, rfl, hk, hno⟩ := hrel
    by_cases hlt : k < n
    · have hd : decide ((k : Int) < (n : Int)) = true := by simp; omega
      have hkl : k < l.length := by rw [Hl.out]; exact hlt
      obtain ⟨gr, ro, rfl, hAr, hgr, hc⟩ := (HP.out.keep (agree_below hB.out)).all (by omega)
      obtain ⟨o, hoo⟩ : ∃ o, l[k] = o := ⟨_, rfl⟩
      have ho : l[k]? = some o := by rw [← hoo]; exact List.getElem?_eq_getElem hkl
      obtain ⟨e0, e1, e2, e3, ⟨ul, e4, hnl⟩, e5⟩ := hc k o ho
      have Ho := Lib.hid ho
      have Htk : Hid (l.take (k + 1) = l.take k ++ [o]) := by show _ = _; rw [List.take_succ_eq_append_getElem hkl, hoo]
      have H := Lib.hid (Hf.out o ul wr (List.mem_of_getElem? ho))
      unfold opVal at H
      clear hc hkl hoo ho hnl
      go_wp2_with fail
      rw [Hcf.out]
      refine H.out.mono ?_
      rintro e w2 ⟨rfl, hb2⟩
      have HB2 := Lib.hid (hB.out.trans (hb2.mono hB.out.size))
      clear H hb2 e0 e1 e2 e3 e4 e5
      cases hq : q o with
      | true =>
        have hany : Hid (l.any q = true) := by show _ = _; rw [List.any_eq_true]; exact ⟨o, List.mem_of_getElem? Ho.out, hq⟩
        clear hq
        go_wp2_with fail
        go_ret
        exact ⟨_, rfl, by rw [hany.out]; exact decide_eq_true (by omega), by omega, by omega, HB2.out⟩
      | false =>
        have hno2 : Hid (∀ x ∈ l.take (k + 1), q x = false) := fun x hx => by
          rw [Htk.out] at hx
          rcases List.mem_append.1 hx with h | h
          · exact hno.out x h
          · rw [List.mem_singleton.1 h]; exact hq
        clear hq
        go_wp2_with fail
        go_roundw
        case rel => exact ⟨HB2, k + 1, val_int (by omega), hlt, hno2⟩
        case measure => simp [intOf]; omega
    · have hd : decide ((k : Int) < (n : Int)) = false := by simp; omega
      have hany : Hid (l.any q = false) := by
        have h1 := hno.out
        rw [List.take_of_length_le (by rw [Hl.out]; omega)] at h1
        show _ = _
        rw [List.any_eq_false]
        exact fun x hx => by rw [h1 x hx]; simp
      go_wp2_with fail
      go_ret
      exact ⟨_, rfl, by rw [hany.out]; rfl, by omega, by omega, hB.out⟩

set_option maxRecDepth 100000 in
set_option maxHeartbeats 800000 in
theorem containsop_any {A : Nat → Prop} (fn : Nat) (q : Ob.Op → Bool) (v : Value) (l : List Ob.Op) (w : World) (hv : OpsAt A w v l) (hn : l.length ≤ 1000000000000) (hcf : ∀ args w, (callFunc fn args).run Try.prog w = .ok (.enter fn args) w)
    (hf : ∀ (o : Ob.Op) (u : Value) (w : World), o ∈ l → Calls Try.prog fn #[opVal o u] w fun e w' => e = .returned (.bool (q o)) ∧ Below w.heap.size w w') :
    Calls Try.prog 118 #[v, .func (.func fn) #[] #[]] w fun e w' => e = .returned (.bool (l.any q)) ∧ Below w.heap.size w w' := by
  have H := Lib.hid (indexop_any fn q v l w hv hn hcf hf)
  obtain ⟨p, c1, rfl⟩ := hv.parts
  clear hf hv hcf
  go_enter Try.func118, Try.ntmps118
  go_wp2_with fail
  refine H.out.mono ?_
  rintro e w2 ⟨i, rfl, hi, _, _, hb2⟩
  have Hi := Lib.hid hi
  have HB2 := Lib.hid hb2
  clear H hi hb2
  go_wp2_with fail
  go_ret
  exact ⟨by rw [← Hi.out]; rfl, HB2.out⟩

set_option maxRecDepth 100000 in
set_option maxHeartbeats 800000 in
theorem linked_any {A : Nat → Prop} (v : Value) (p : Ob.Plc) (w : World) (hv : PlcAt A w v p) (hn : p.ops.length ≤ 1000000000000) :
    Calls Try.prog 82 #[v] w fun e w' => e = .returned (.bool (!Ob.bad p)) ∧ Below w.heap.size w w' := by
  obtain ⟨u1, u2, rfl, h1, h2⟩ := hv
  obtain ⟨w1, hw1, B1, hb1⟩ := fresh_blk w [.int .i64 p.slots, u1, .int .i64 p.params, .int .i64 p.regs, u2] 60
  have H := Lib.hid (containsop_any 119 Ob.badOp u2 p.ops w1 (h2.keep (agree_below hb1)) hn (fun args w => by rfl) fun o u w _ => linked1_any o u w)
  have hres : Hid (Ob.bad p = p.ops.any Ob.badOp) := rfl
  obtain ⟨pa, ca, rfl⟩ := h1.parts
  obtain ⟨po, co, rfl⟩ := h2.parts
  have c4 := B1.cells 4
  have cl := B1.lt
  simp only [List.getElem?_cons_zero, List.getElem?_cons_succ] at c4
  have Hw1 := Lib.hid hw1
  have Hb1 := Lib.hid hb1
  obtain ⟨slots, at_, params, regs, ops⟩ := p
  dsimp only at *
  clear hw1 B1 hb1 h1 h2 hn
  go_enter Try.func82, Try.ntmps82
  go_upto_region 1 with fail
  rw [Hw1.out]
  go_wp2_with fail
  refine H.out.mono ?_
  rintro e w2 ⟨rfl, hb2⟩
  have HB2 := Lib.hid (Hb1.out.trans (hb2.mono Hb1.out.size))
  clear H hb2
  rw [← hres.out]
  go_wp2_with fail
  go_ret
  exact ⟨by trivial, HB2.out⟩
end Go.Proofs.Ythjfahimfcadnaa
/- Great drawn regions: that every operation of the tail waits for each one of the head is shown by paths. -/
namespace Go.Lx
open Go

def edgeB (md : Region.Mode) (ops : Array Oper) (j i : Nat) : Bool := match ops[j]? with
  | some oj => oj.after.any fun e => Region.binds md e && e.on == i
  | none => false
def pathB (md : Region.Mode) (ops : Array Oper) : List Nat → Nat → Nat → Bool
  | [], j, i => edgeB md ops j i
  | k :: r, j, i => edgeB md ops j k && pathB md ops r k i
theorem waits_path {md : Region.Mode} {ops : Array Oper} : ∀ (p : List Nat) (f j i : Nat), p.length < f → pathB md ops p j i = true → waitsB md ops f j i = true
  | [], f, j, i, hf, h => by
    cases f with
    | zero => simp at hf
    | succ f =>
      unfold pathB edgeB at h
      unfold waitsB
      split at h
      · rename_i oj hoj
        rw [hoj]
        obtain ⟨e, he, hb⟩ := Array.any_eq_true'.1 h
        simp only [Bool.and_eq_true] at hb
        exact Array.any_eq_true'.2 ⟨e, he, by simp [hb.1, hb.2]⟩
      · cases h
  | k :: r, f, j, i, hf, h => by
    cases f with
    | zero => simp at hf
    | succ f =>
      unfold pathB at h
      simp only [Bool.and_eq_true] at h
      have hr := waits_path r f k i (by simpa using hf) h.2
      have h1 := h.1
      unfold edgeB at h1
      unfold waitsB
      split at h1
      · rename_i oj hoj
        rw [hoj]
        obtain ⟨e, he, hb⟩ := Array.any_eq_true'.1 h1
        simp only [Bool.and_eq_true, beq_iff_eq] at hb
        exact Array.any_eq_true'.2 ⟨e, he, by simp [hb.1, hb.2, hr]⟩
      · cases h1

def staticP (md : Region.Mode) (ops : Array Oper) (T : Array Bool) (ps : List (Nat × Nat × List Nat)) : Bool :=
  (List.range ops.size).all fun t => T.getD t false || (List.range ops.size).all fun i => !T.getD i false || ps.any fun x => x.1 == t && x.2.1 == i && decide (x.2.2.length < ops.size) && pathB md ops x.2.2 t i
theorem static_of {md : Region.Mode} {ops : Array Oper} {T : Array Bool} {ps : List (Nat × Nat × List Nat)} (h : staticP md ops T ps = true) : staticB md ops T = true := by
  unfold staticP at h
  unfold staticB
  rw [List.all_eq_true] at h ⊢
  intro t ht
  have h1 := h t ht
  rw [Bool.or_eq_true] at h1 ⊢
  rcases h1 with h1 | h1
  · exact .inl h1
  · refine .inr ?_
    rw [List.all_eq_true] at h1 ⊢
    intro i hi
    have h2 := h1 i hi
    rw [Bool.or_eq_true] at h2 ⊢
    rcases h2 with h2 | h2
    · exact .inl h2
    · refine .inr ?_
      obtain ⟨x, _, hx⟩ := List.any_eq_true.1 h2
      simp only [Bool.and_eq_true, decide_eq_true_eq] at hx
      exact waits_path _ _ _ _ hx.1.2 hx.2

def certP (ops : Array Oper) (ord tl : List (Nat × Bool)) (ds : List Nat) (ps : List (Nat × Nat × List Nat)) : Bool :=
  Region.noSelect ops && decide (ord.length + ds.length + tl.length = ops.size) && staticP .any ops (target ops.size ord ds) ps &&
  headB .any ops (target ops.size ord ds) ord (ds.foldl (fun L i => L.setIfInBounds i true) (Array.replicate ops.size false)) && tailB .any ops tl (target ops.size ord ds)
theorem cert_of {ops : Array Oper} {ord tl : List (Nat × Bool)} {ds : List Nat} {ps : List (Nat × Nat × List Nat)} (h : certP ops ord tl ds ps = true) : cert ops ord tl ds = true := by
  unfold certP at h
  unfold cert
  simp only [Bool.and_eq_true] at h ⊢
  exact ⟨⟨⟨h.1.1.1, static_of h.1.1.2⟩, h.1.2⟩, h.2⟩
end Go.Lx
/- What operations read and write, and where they go, by the reference (ref15). -/
namespace Go.Ob
/-- the registers that an operation reads -/
def regsOf (o : Op) : List Int :=
  if o.kind = 2 ∨ o.kind = 10 ∨ o.kind = 11 ∨ o.kind = 13 ∨ o.kind = 16 ∨ o.kind = 17 ∨ o.kind = 18 then [o.b]
  else if o.kind = 3 ∨ o.kind = 4 ∨ o.kind = 5 ∨ o.kind = 6 ∨ o.kind = 7 ∨ o.kind = 8 ∨ o.kind = 9 then [o.b, o.c]
  else if o.kind = 14 ∨ o.kind = 15 then o.list else []
/-- whether a kind of operations writes a register -/
def writesK (k : Int) : Bool := !(decide (k = 12) || decide (k = 13) || decide (k = 17) || decide (k = 18)) && decide (1 ≤ k) && decide (k ≤ 19)
/-- the operation k, if there is one -/
def opAt (l : List Op) (k : Int) : Option Op := if k < 0 then none else l[k.toNat]?
def readsOf (l : List Op) (k : Int) : List Int := match opAt l k with
  | some o => regsOf o
  | none => []
def writesOf (l : List Op) (k : Int) : Int × Bool := match opAt l k with
  | some o => if writesK o.kind = true then (o.a, true) else (0, false)
  | none => (0, false)
def targOf (o : Op) (k : Int) : List Int := if o.kind < 1 ∨ 19 < o.kind ∨ o.kind = 18 then [] else if o.kind = 12 then [o.c] else if o.kind = 13 then [k + 1, o.c] else [k + 1]
def targetsOf (l : List Op) (k : Int) : List Int := match opAt l k with
  | some o => targOf o k
  | none => []
end Go.Ob
namespace Go.Proofs.Ythjfahimfcadnaa
open Go.ChangeShapes Go.WideShapes Go.RowKit

theorem NRow.new (w : World) (l : List Int) (t : TypeId) : NRow (w.heap.size ≤ ·) (w.alloc (.cells (l.map (.int .i64)).toArray t)) (.slice (some ⟨w.heap.size, 0, none⟩) l.length l.length) l :=
  ⟨_, _, rfl, .inr ⟨_, 0, rfl, Nat.le_refl _, fun j u hj => by rw [Nat.zero_add]; exact ((Blk.new w (l.map (.int .i64)) t).cells j).trans hj⟩, Nat.le_refl _⟩

set_option maxRecDepth 100000 in
set_option maxHeartbeats 1600000 in
theorem regs_any {A : Nat → Prop} (o : Ob.Op) (u : Value) (w : World) (hu : NRow A w u o.list) :
    Calls Try.prog 104 #[opVal o u] w fun e w' => ∃ v, e = .returned v ∧ NRow (fun g => A g ∨ w.heap.size ≤ g) w' v (Ob.regsOf o) ∧ Below w.heap.size w w' := by
  obtain ⟨kd, oa, ob, oc, ls, sy⟩ := o
  unfold opVal
  dsimp only at hu ⊢
  obtain ⟨p, c, rfl⟩ := hu.parts
  obtain ⟨n, hn⟩ : ∃ n, ls.length = n := ⟨_, rfl⟩
  rw [hn] at hu ⊢
  obtain ⟨S, hS⟩ : ∃ S : ByteArray, ⟨sy.toArray⟩ = S := ⟨_, rfl⟩
  rw [hS]
  obtain ⟨w1, hw1, B1, hb1⟩ := fresh_blk w [.int .i64 kd, .int .i64 oa, .int .i64 ob, .int .i64 oc, .slice p n c, .string S] 41
  obtain ⟨gb, hgb⟩ : ∃ g, g = w.heap.size := ⟨_, rfl⟩
  rw [← hgb] at B1
  have HU := Lib.hid (hu.keep (agree_below hb1))
  have HB := Lib.hid hb1
  have HC := Lib.hid B1
  have Hw := Lib.hid hw1
  have Hg := Lib.hid hgb
  have Hn := Lib.hid hn
  clear hu hb1 B1 hw1 hgb hn hS
  go_enter Try.func104, Try.ntmps104
  go_upto_region 1 with fail
  rw [Hw.out, ← Hg.out]
  have k0 := HC.out.cells 0
  have k2 := HC.out.cells 2
  have k3 := HC.out.cells 3
  have k4 := HC.out.cells 4
  have kl := HC.out.lt
  simp only [List.getElem?_cons_zero, List.getElem?_cons_succ] at k0 k2 k3 k4
  by_cases h1 : kd = 2 ∨ kd = 10 ∨ kd = 11 ∨ kd = 13 ∨ kd = 16 ∨ kd = 17 ∨ kd = 18
  · have hr : Hid (Ob.regsOf ⟨kd, oa, ob, oc, ls, sy⟩ = [ob]) := by show _ = _; unfold Ob.regsOf; rw [if_pos h1]
    rcases h1 with rfl | rfl | rfl | rfl | rfl | rfl | rfl
    all_goals
      go_wp2_with fail
      go_ret
      exact ⟨_, rfl, by rw [hr.out]; exact (NRow.new w1 [ob] 3).mono fun g hg => .inr (Nat.le_trans HB.out.size hg), HB.out.trans ((ext_alloc (ext_refl w1) _ : Below w1.heap.size w1 _).mono HB.out.size)⟩
  by_cases h2 : kd = 3 ∨ kd = 4 ∨ kd = 5 ∨ kd = 6 ∨ kd = 7 ∨ kd = 8 ∨ kd = 9
  · have hr : Hid (Ob.regsOf ⟨kd, oa, ob, oc, ls, sy⟩ = [ob, oc]) := by show _ = _; unfold Ob.regsOf; rw [if_neg h1, if_pos h2]
    clear h1
    rcases h2 with rfl | rfl | rfl | rfl | rfl | rfl | rfl
    all_goals
      go_wp2_with fail
      go_ret
      exact ⟨_, rfl, by rw [hr.out]; exact (NRow.new w1 [ob, oc] 3).mono fun g hg => .inr (Nat.le_trans HB.out.size hg), HB.out.trans ((ext_alloc (ext_refl w1) _ : Below w1.heap.size w1 _).mono HB.out.size)⟩
  by_cases h3 : kd = 14 ∨ kd = 15
  · have hr : Hid (Ob.regsOf ⟨kd, oa, ob, oc, ls, sy⟩ = ls) := by show _ = _; unfold Ob.regsOf; rw [if_neg h1, if_neg h2, if_pos h3]
    clear h1 h2
    rcases h3 with rfl | rfl
    all_goals
      go_wp2_with fail
      go_ret
      exact ⟨_, rfl, by rw [hr.out]; exact HU.out.mono fun g hg => .inl hg, HB.out⟩
  · have hr : Hid (Ob.regsOf ⟨kd, oa, ob, oc, ls, sy⟩ = []) := by show _ = _; unfold Ob.regsOf; rw [if_neg h1, if_neg h2, if_neg h3]
    have d2 : (kd == 2) = false := beq_eq_false_iff_ne.2 (by omega)
    have d3 : (kd == 3) = false := beq_eq_false_iff_ne.2 (by omega)
    have d4 : (kd == 4) = false := beq_eq_false_iff_ne.2 (by omega)
    have d5 : (kd == 5) = false := beq_eq_false_iff_ne.2 (by omega)
    have d6 : (kd == 6) = false := beq_eq_false_iff_ne.2 (by omega)
    have d7 : (kd == 7) = false := beq_eq_false_iff_ne.2 (by omega)
    have d8 : (kd == 8) = false := beq_eq_false_iff_ne.2 (by omega)
    have d9 : (kd == 9) = false := beq_eq_false_iff_ne.2 (by omega)
    have d10 : (kd == 10) = false := beq_eq_false_iff_ne.2 (by omega)
    have d11 : (kd == 11) = false := beq_eq_false_iff_ne.2 (by omega)
    have d13 : (kd == 13) = false := beq_eq_false_iff_ne.2 (by omega)
    have d14 : (kd == 14) = false := beq_eq_false_iff_ne.2 (by omega)
    have d15 : (kd == 15) = false := beq_eq_false_iff_ne.2 (by omega)
    have d16 : (kd == 16) = false := beq_eq_false_iff_ne.2 (by omega)
    have d17 : (kd == 17) = false := beq_eq_false_iff_ne.2 (by omega)
    have d18 : (kd == 18) = false := beq_eq_false_iff_ne.2 (by omega)
    clear h1 h2 h3
    go_wp2_with fail
    go_ret
    exact ⟨_, rfl, by rw [hr.out]; exact NRow.nil _ _, HB.out⟩

set_option maxRecDepth 100000 in
set_option maxHeartbeats 800000 in
theorem writesK_any (k : Int) (w : World) : Calls Try.prog 105 #[.int .i64 k] w fun e w' => e = .returned (.bool (Ob.writesK k)) ∧ Below w.heap.size w w' := by
  go_enter Try.func105, Try.ntmps105
  by_cases h1 : k = 12 ∨ k = 13 ∨ k = 17 ∨ k = 18
  · have hr : Hid (Ob.writesK k = false) := by show _ = _; unfold Ob.writesK; rcases h1 with rfl | rfl | rfl | rfl <;> rfl
    rcases h1 with rfl | rfl | rfl | rfl
    all_goals
      go_wp2_with fail
      go_ret
      exact ⟨by rw [hr.out]; rfl, ext_refl w⟩
  · have d12 : (k == 12) = false := beq_eq_false_iff_ne.2 (by omega)
    have d13 : (k == 13) = false := beq_eq_false_iff_ne.2 (by omega)
    have d17 : (k == 17) = false := beq_eq_false_iff_ne.2 (by omega)
    have d18 : (k == 18) = false := beq_eq_false_iff_ne.2 (by omega)
    clear h1
    by_cases h2 : 1 ≤ k
    · have d1 : decide (k ≥ 1) = true := decide_eq_true h2
      by_cases h3 : k ≤ 19
      · have d2 : decide (k ≤ 19) = true := decide_eq_true h3
        have hr : Hid (Ob.writesK k = true) := by show _ = _; unfold Ob.writesK; simp only [beq_eq_false_iff_ne] at d12 d13 d17 d18; simp [*]
        clear h2 h3
        go_wp2_with fail
        go_ret
        exact ⟨by rw [hr.out]; rfl, ext_refl w⟩
      · have d2 : decide (k ≤ 19) = false := decide_eq_false h3
        have hr : Hid (Ob.writesK k = false) := by show _ = _; unfold Ob.writesK; simp only [beq_eq_false_iff_ne] at d12 d13 d17 d18; simp [*]
        clear h2 h3
        go_wp2_with fail
        go_ret
        exact ⟨by rw [hr.out]; rfl, ext_refl w⟩
    · have d1 : decide (k ≥ 1) = false := decide_eq_false h2
      have hr : Hid (Ob.writesK k = false) := by show _ = _; unfold Ob.writesK; simp [h2]
      clear h2
      go_wp2_with fail
      go_ret
      exact ⟨by rw [hr.out]; rfl, ext_refl w⟩
end Go.Proofs.Ythjfahimfcadnaa
