import Derived.Test.YthjfahimfcadnaaGkg1
import Derived.Test.YthjfahimfcadnaaLx
/- Slices that are only read, rows of the call's own, and append and copy of them. -/
namespace Go.Proofs.Ythjfahimfcadnaa
open Go.RowKit

/-- the blocks of A are in w' as they were in w -/
def Agree (A : Nat → Prop) (w w' : World) : Prop := ∀ g, A g → g < w.heap.size → w'.heap[g]? = w.heap[g]?
theorem Agree.refl (A : Nat → Prop) (w : World) : Agree A w w := fun _ _ _ => rfl
theorem Agree.mono {A B : Nat → Prop} {w w' : World} (h : Agree B w w') (hab : ∀ g, A g → B g) : Agree A w w' := fun g hg hlt => h g (hab g hg) hlt
theorem Agree.trans {A : Nat → Prop} {a b c : World} (h : Agree A a b) (hs : a.heap.size ≤ b.heap.size) (k : Agree A b c) : Agree A a c :=
  fun g hg hlt => (k g hg (by omega)).trans (h g hg hlt)
theorem agree_below {A : Nat → Prop} {w w' : World} (hb : Below w.heap.size w w') : Agree A w w' := fun g _ hlt => hb.block g hlt
theorem agree_grown {A : Nat → Prop} {w w' : World} {row : Option Nat} (hg : w.grownBy w' row) (h : ∀ k, A k → some k ≠ row) : Agree A w w' := fun g hA hlt => hg.block g hlt (h g hA)

/-- what a slice's place holds: nothing is asked of an empty one -/
def Holds (A : Nat → Prop) (w : World) (p : Option Addr) (cs : List Value) : Prop :=
  cs = [] ∨ ∃ g off, p = some ⟨g, off, none⟩ ∧ A g ∧ ∀ j c, cs[j]? = some c → w.cell? ⟨g, off + j, none⟩ = some c

theorem Holds.nil (A : Nat → Prop) (w : World) (p : Option Addr) : Holds A w p [] := .inl rfl

theorem Holds.keep {A : Nat → Prop} {w w' : World} {p : Option Addr} {cs : List Value} (h : Holds A w p cs) (hk : Agree A w w') : Holds A w' p cs := by
  rcases h with h | ⟨g, off, hp, hA, hc⟩
  · exact .inl h
  · refine .inr ⟨g, off, hp, hA, fun j c hj => ?_⟩
    have h1 := hc j c hj
    have hlt : g < w.heap.size := World.block_lt_of_cell? w _ h1
    rw [World.cell?_of_block (w := w) (hk g hA hlt)]
    exact h1

theorem Holds.mono {A B : Nat → Prop} {w : World} {p : Option Addr} {cs : List Value} (h : Holds A w p cs) (hab : ∀ g, A g → B g) : Holds B w p cs := by
  rcases h with h | ⟨g, off, hp, hA, hc⟩
  · exact .inl h
  · exact .inr ⟨g, off, hp, hab g hA, hc⟩

theorem Holds.at {A : Nat → Prop} {w : World} {p : Option Addr} {cs : List Value} (h : Holds A w p cs) (hne : 0 < cs.length) :
    ∃ g off, p = some ⟨g, off, none⟩ ∧ A g ∧ g < w.heap.size ∧ ∀ j c, cs[j]? = some c → w.cell? ⟨g, off + j, none⟩ = some c := by
  rcases h with h | ⟨g, off, hp, hA, hc⟩
  · rw [h] at hne; simp at hne
  · exact ⟨g, off, hp, hA, World.block_lt_of_cell? w _ (hc 0 cs[0] (by simp [hne])), hc⟩

/-- a slice's part -/
theorem Holds.part {A : Nat → Prop} {w : World} {g off : Nat} {cs : List Value} (h : Holds A w (some ⟨g, off, none⟩) cs) (lo n : Nat) : Holds A w (some ⟨g, off + lo, none⟩) ((cs.drop lo).take n) := by
  rcases h with h | ⟨g', off', hp, hA, hc⟩
  · subst h; exact .inl (by simp)
  · injection hp with hp; injection hp with h1 h2; subst h1 h2
    refine .inr ⟨g, off + lo, rfl, hA, fun j c hj => ?_⟩
    rw [Nat.add_assoc]
    refine hc _ _ ?_
    rw [← hj, List.getElem?_take]
    split
    · rw [List.getElem?_drop]
    · rename_i hlt
      rw [List.getElem?_take, if_neg hlt] at hj; cases hj

theorem Holds.src {P : Program} {A : Nat → Prop} {w : World} {size : Nat} {tx e' : TypeId} (hk : P.underlying tx = some (.slice e')) {p : Option Addr} {n cap : Nat} {cs : List Value} (h : Holds A w p cs) (hl : cs.length = n * size) (hsz : 0 < size)
    (h1 : ∀ u ∈ cs, u.oneCell' = true) : Src P size tx (.slice p n cap) n cs w := by
  by_cases hcs : cs = []
  · subst hcs
    have hn : n = 0 := by
      rcases Nat.eq_zero_or_pos n with h | h
      · exact h
      · have := Nat.mul_pos h hsz; simp at hl; omega
    subst hn
    cases p with
    | none => exact Src.ofNil w hk cap
    | some a => exact Src.ofSlice w hk a 0 cap [] (by simp) (by simp) (by simp)
  · obtain ⟨g, off, rfl, _, _, hc⟩ := h.at (List.length_pos_iff.2 hcs)
    refine Src.ofSlice w hk _ n cap cs hl (fun j u hj => ?_) h1
    rw [Addr.add_lit]
    exact hc j u hj

/-- 's == nil' -/
theorem eq_nil {P : Program} (w : World) (t e : TypeId) (a : Option Addr) (l c : Nat) (h : P.underlying t = some (.slice e)) : (binOp .eql t (.slice a l c) (.slice none 0 0)).run P w = .ok (.bool a.isNone) w := by
  have h1 : (Op.equal t (.slice a l c) (.slice none 0 0)).run P w = .ok a.isNone w := by
    show (Op.equalIn (9999 + 1) t (.slice a l c) (.slice none 0 0)).run P w = _
    generalize 9999 = d
    cases a <;> simp [Op.equalIn, run_underlying h]
  simp only [binOp]
  simp [h1]

/-- 'make' of a row of one-cell elements -/
theorem make_row {P : Program} (t e : TypeId) (z : Value) (bytes : Nat) (ht : P.underlying t = some (.slice e)) (hinfo : (P.info? e).map (fun i => (i.zero, i.size, i.bytes)) = some (some z, 1, bytes)) (hz1 : z.cells = #[z]) (n : Nat) (hb : bytes * n ≤ 281474976710656) (h63 : n ≤ 9223372036854775807) (w : World) :
    (Instr.makeSlice t (.int .i64 (n : Int)) (.int .i64 (n : Int))).run P w = .ok (.slice (some ⟨w.heap.size, 0, none⟩) n n) (w.alloc (.cells (List.replicate n z).toArray e)) := by
  obtain ⟨i, hi, hz, hsize, hby⟩ := info_parts hinfo
  subst hby
  have hb' : (i.bytes : Int) * (n : Int) ≤ 281474976710656 := by
    have h : ((i.bytes * n : Nat) : Int) ≤ 281474976710656 := by omega
    rwa [Int.natCast_mul] at h
  have hr := run_make (P := P) w t e i z ht hi hz .i64 .i64 n n (by omega) (Int.le_refl _) hb' (by omega)
  rw [Int.toNat_natCast, hsize, Nat.mul_one, hz1] at hr
  have hm : madeCells #[z] n = (List.replicate n z).toArray := by
    apply Array.ext
    · simp [madeCells]
    · intro j h1 h2
      simp [madeCells, Nat.mod_one]
  rw [hm] at hr
  exact hr

theorem make_new {P : Program} (t e : TypeId) (z : Value) (bytes : Nat) (ht : P.underlying t = some (.slice e)) (hinfo : (P.info? e).map (fun i => (i.zero, i.size, i.bytes)) = some (some z, 1, bytes)) (hz1 : z.cells = #[z]) (n : Nat) (hb : bytes * n ≤ 281474976710656) (h63 : n ≤ 9223372036854775807) (w : World) :
    ∃ w1, (Instr.makeSlice t (.int .i64 (n : Int)) (.int .i64 (n : Int))).run P w = .ok (.slice (some ⟨w.heap.size, 0, none⟩) n n) w1 ∧ Hid (rowOf w1 w.heap.size (List.replicate n z)) ∧ Below w.heap.size w w1 ∧ w1.heap.size = w.heap.size + 1 := by
  refine ⟨_, make_row t e z bytes ht hinfo hz1 n hb h63 w, ?_, ext_alloc (ext_refl w) _, by simp⟩
  have h := Blk.new w (List.replicate n z) e
  exact ⟨fun j v hj => by rw [Nat.zero_add]; exact (h.cells j).trans hj, fun j _ => h.frozen j⟩

/-- a store into a row -/
theorem rowOf.set {w : World} {g : Nat} {cs : List Value} (h : rowOf w g cs) (j : Nat) (v : Value) (hj : j < cs.length) : rowOf (w.setCell ⟨g, j, none⟩ v) g (cs.set j v) := by
  refine ⟨fun k u hk => ?_, fun k hk => ?_⟩
  · rw [Nat.zero_add]
    by_cases hjk : j = k
    · subst hjk
      rw [List.getElem?_set_self hj] at hk
      rw [World.cell?_setCell_same (u := cs[j]) (h := h.cell (by rw [List.getElem?_eq_getElem hj]))]
      exact hk
    · rw [List.getElem?_set_ne hjk] at hk
      rw [World.cell?_setCell_other (h := fun e => hjk (by injection e))]
      exact h.cell hk
  · rw [World.frozen?_setCell]
    exact h.2 k (by simpa using hk)

theorem rep_at {α : Type} (j n : Nat) (a b : α) (h : j < n) : (List.replicate j a ++ List.replicate (n - j) b)[j]? = some b := by
  rw [List.getElem?_append_right (by simp), List.length_replicate, Nat.sub_self, List.getElem?_replicate, if_pos (by omega)]
theorem rep_set {α : Type} (j n : Nat) (a b : α) (h : j < n) : (List.replicate j a ++ List.replicate (n - j) b).set j a = List.replicate (j + 1) a ++ List.replicate (n - (j + 1)) b := by
  rw [List.set_append, if_neg (by simp), List.length_replicate, Nat.sub_self]
  rw [show n - j = (n - (j + 1)) + 1 by omega, List.replicate_succ (n := n - (j + 1)), List.replicate_succ']
  simp

theorem rowOf.lt {w : World} {g : Nat} {cs : List Value} (h : rowOf w g cs) (hne : 0 < cs.length) : g < w.heap.size :=
  World.block_lt_of_cell? w _ (h.cell (j := 0) (v := cs[0]) (by rw [List.getElem?_eq_getElem hne]))

/-- the element type of a block -/
def tyAt (w : World) (g : Nat) : Option TypeId := (w.shape? g).map (·.1)
theorem tyAt_call {w w' : World} {g : Nat} {t : TypeId} (h : tyAt w g = some t) (hb : Below w.heap.size w w') : tyAt w' g = some t := by
  have hlt : g < w.heap.size := by
    cases hq : w.heap[g]? with
    | none => unfold tyAt World.shape? at h; rw [hq] at h; cases h
    | some o => exact (Array.getElem?_eq_some_iff.1 hq).1
  unfold tyAt World.shape? at *; rw [hb.block g hlt]; exact h
theorem tyAt_keep {A : Nat → Prop} {w w' : World} {g : Nat} {t : TypeId} (h : tyAt w g = some t) (hk : Agree A w w') (hA : A g) : tyAt w' g = some t := by
  have hlt : g < w.heap.size := by
    cases hq : w.heap[g]? with
    | none => unfold tyAt World.shape? at h; rw [hq] at h; cases h
    | some o => exact (Array.getElem?_eq_some_iff.1 hq).1
  unfold tyAt World.shape? at *; rw [hk g hA hlt]; exact h
theorem tyAt_new (w : World) (c : Array Value) (t : TypeId) (f : Nat × Nat) : tyAt (w.alloc (.cells c t f)) w.heap.size = some t := by
  unfold tyAt World.shape?
  rw [show (w.alloc (.cells c t f)).heap[w.heap.size]? = some (.cells c t f) from heap_alloc_new w _]; rfl
theorem tyAt_own {w : World} {base : Nat} {e : TypeId} {size : Nat} {v : Value} {n : Nat} {xs : List Value} (h : w.ownsRow base e size v n xs) {g : Nat} (hg : v.ownBlock = some g) : tyAt w g = some e := by
  rcases h.2 with ⟨hv, _⟩ | ⟨g', cap, cur, hv, hb, hh, r⟩
  · rw [hv] at hg; cases hg
  · rw [hv] at hg; injection hg with hg; subst hg
    unfold tyAt World.shape?; simp only [hh]; rfl
theorem tyAt_ne {w : World} {g g' : Nat} {t t' : TypeId} (h : tyAt w g = some t) (h' : tyAt w g' = some t') (hne : t ≠ t') : g ≠ g' := fun e => by
  subst e; rw [h] at h'; exact hne (Option.some.inj h')
theorem tyAt_set (w : World) (p : Addr) (v : Value) (g : Nat) : tyAt (w.setCell p v) g = tyAt w g := by
  unfold tyAt World.shape? World.setCell
  simp only [Array.getElem?_modify]
  by_cases h : p.block = g
  · subst h
    rw [if_pos rfl]
    cases hq : w.heap[p.block]? with
    | none => rfl
    | some o => cases o <;> simp
  · rw [if_neg h]

/-- a new variable's block, whenever it came -/
def NewBlk (B : Nat) (t : TypeId) (l : List Value) (v : Value) (w : World) : Prop := ∃ g, v = .pointer (some ⟨g, 0, none⟩) ∧ B ≤ g ∧ Blk w g l ∧ tyAt w g = some t
theorem NewBlk.call {B : Nat} {t : TypeId} {l : List Value} {v : Value} {w w' : World} (h : NewBlk B t l v w) (hb : Below w.heap.size w w') : NewBlk B t l v w' := by
  obtain ⟨g, hv, hB, hk, ht⟩ := h; exact ⟨g, hv, hB, hk.call hb, tyAt_call ht hb⟩
theorem new_alloc {P : Program} {a : Act} {o : Oper} {w w0 : World} {l : List Value} {t : TypeId} {z : Value} (ho : o.op = .alloc t) (hz : (P.info? t).map (fun i => (i.zero, z.cells.toList)) = some (some z, l)) (hb : Below w0.heap.size w0 w) :
    ∃ v w', (execOp a.eval o).run P w = .ok (.value v) w' ∧ Below w.heap.size w w' ∧ NewBlk w0.heap.size t l v w' := by
  cases hq : P.info? t with
  | none => rw [hq] at hz; cases hz
  | some i =>
    rw [hq] at hz
    simp only [Option.map_some, Option.some.injEq, Prod.mk.injEq] at hz
    obtain ⟨hz1, hz2⟩ := hz
    have hc : z.cells = l.toArray := by rw [← hz2]
    refine ⟨.pointer (some ⟨w.heap.size, 0, none⟩), w.alloc (.cells l.toArray t), ?_, ext_alloc (ext_refl w) _, w.heap.size, rfl, hb.size, Blk.new w l t, tyAt_new _ _ _ _⟩
    unfold execOp
    simp [ho, Instr.alloc, zeroValue, typeInfo, hq, hz1, newVar, newRow, hc]

/-- stores into a block of known cells -/
theorem Blk.set {w : World} {g : Nat} {l : List Value} (h : Blk w g l) (i : Nat) (v : Value) (hi : i < l.length) : Blk (w.setCell ⟨g, i, none⟩ v) g (l.set i v) := by
  refine ⟨fun k => ?_, fun k => ?_, ?_⟩
  · by_cases hik : i = k
    · subst hik
      rw [List.getElem?_set_self hi]
      exact World.cell?_setCell_same w _ _ (by rw [h.cells i, List.getElem?_eq_getElem hi])
    · rw [List.getElem?_set_ne hik, World.cell?_setCell_other (h := fun e => hik (by injection e))]
      exact h.cells k
  · rw [World.frozen?_setCell]; exact h.frozen k
  · have : (w.setCell ⟨g, i, none⟩ v).heap.size = w.heap.size := by simp [World.setCell]
    rw [this]; exact h.lt
theorem Blk.other {w : World} {g : Nat} {l : List Value} (h : Blk w g l) (p : Addr) (v : Value) (hp : p.block ≠ g) : Blk (w.setCell p v) g l :=
  ⟨fun k => by rw [World.cell?_setCell_other (h := fun e => hp (by rw [e]))]; exact h.cells k, fun k => by rw [World.frozen?_setCell]; exact h.frozen k, by
    have : (w.setCell p v).heap.size = w.heap.size := by simp [World.setCell]
    rw [this]; exact h.lt⟩
theorem Blk.keep {A : Nat → Prop} {w w' : World} {g : Nat} {l : List Value} (h : Blk w g l) (hk : Agree A w w') (hs : w.heap.size ≤ w'.heap.size) (hA : A g) : Blk w' g l := by
  have hb : w'.heap[g]? = w.heap[g]? := hk g hA h.lt
  exact ⟨fun k => by rw [World.cell?_of_block (w := w) hb]; exact h.cells k, fun k => by rw [World.frozen?_of_block (w := w) hb]; exact h.frozen k, Nat.lt_of_lt_of_le h.lt hs⟩
theorem agree_set (w : World) (p : Addr) (v : Value) : Agree (· ≠ p.block) w (w.setCell p v) := fun k hk _ => Below.heap_setCell _ _ _ _ hk

theorem agree_at (w : World) (g off : Nat) (v : Value) : Agree (· ≠ g) w (w.setCell ⟨g, off, none⟩ v) := agree_set w ⟨g, off, none⟩ v

/-- blocks that hold other things are other blocks -/
theorem row_apart {w : World} {g g' : Nat} {l cs : List Value} (h : Blk w g l) (hr : rowOf w g' cs) {c : Value} (hc : cs[0]? = some c) (hn : c ∉ l) : g' ≠ g := by
  intro e
  subst e
  have h1 := hr.cell hc
  rw [h.cells 0] at h1
  exact hn (List.mem_of_getElem? h1)
theorem Holds.apart {A : Nat → Prop} {w : World} {g : Nat} {l cs : List Value} {p : Option Addr} (h : Blk w g l) (hh : Holds A w p cs) (hn : ∀ c ∈ cs, c ∉ l) : Holds (fun k => A k ∧ k ≠ g) w p cs := by
  rcases hh with hh | ⟨k, off, hp, hA, hc⟩
  · exact .inl hh
  · cases cs with
    | nil => exact .inl rfl
    | cons c r =>
      refine .inr ⟨k, off, hp, ⟨hA, fun e => ?_⟩, hc⟩
      subst e
      have h1 := hc 0 c rfl
      rw [h.cells] at h1
      exact hn c (by simp) (List.mem_of_getElem? h1)

/-! a row of the call's own that an append made -/
theorem ownsRow_row {w : World} {base : Nat} {e : TypeId} {size : Nat} {v : Value} {n : Nat} {xs : List Value} (h : w.ownsRow base e size v n xs) (hne : 0 < xs.length) :
    ∃ g cap, v = .slice (some ⟨g, 0, none⟩) n cap ∧ base ≤ g ∧ g < w.heap.size ∧ rowOf w g xs ∧ n ≤ cap := by
  rcases h.2 with ⟨rfl, rfl⟩ | ⟨g, cap, cur, rfl, hb, hh, hn, hm, hc, ht⟩
  · have := h.1; simp at this; rw [this] at hne; simp at hne
  · have hlt := (Array.getElem?_eq_some_iff.1 hh).1
    refine ⟨g, cap, rfl, hb, hlt, ⟨fun j v hj => ?_, fun j hj => ?_⟩, hn⟩
    · rw [Nat.zero_add, cell_of_row w g j cur e (0, 0) hh, ← Array.getElem?_toList]
      rw [← ht, List.getElem?_take] at hj
      split at hj
      · exact hj
      · cases hj
    · simp [World.frozen?, hh]

theorem holds_row {A : Nat → Prop} {w : World} {g : Nat} {cs : List Value} (h : rowOf w g cs) (hA : A g) : Holds A w (some ⟨g, 0, none⟩) cs := .inr ⟨g, 0, rfl, hA, h.1⟩

theorem ownsRow_holds {A : Nat → Prop} {w : World} {base : Nat} {e : TypeId} {size : Nat} {v : Value} {n : Nat} {xs : List Value} (h : w.ownsRow base e size v n xs) (hA : ∀ g, base ≤ g → A g) :
    ∃ p cap, v = .slice p n cap ∧ Holds A w p xs := by
  rcases h.2 with ⟨rfl, rfl⟩ | ⟨g, cap, cur, rfl, hb, hh, hn, hm, hc, ht⟩
  · have := h.1; simp at this; subst this; exact ⟨none, 0, rfl, .inl rfl⟩
  · refine ⟨_, _, rfl, .inr ⟨g, 0, rfl, hA g hb, fun j v hj => ?_⟩⟩
    rw [Nat.zero_add, cell_of_row w g j cur e (0, 0) hh, ← Array.getElem?_toList]
    rw [← ht, List.getElem?_take] at hj
    split at hj
    · exact hj
    · cases hj

theorem ownsRow_below {w w' : World} {base : Nat} {e : TypeId} {size : Nat} {v : Value} {n : Nat} {xs : List Value} (h : w.ownsRow base e size v n xs) (hb : Below w.heap.size w w') : w'.ownsRow base e size v n xs := by
  refine ⟨h.1, ?_⟩
  rcases h.2 with h2 | ⟨g, cap, cur, hv, hg, hh, r⟩
  · exact .inl h2
  · exact .inr ⟨g, cap, cur, hv, hg, by rw [hb.block g (Array.getElem?_eq_some_iff.1 hh).1]; exact hh, r⟩

theorem ownsRow_holds2 {w : World} {base : Nat} {e : TypeId} {size : Nat} {v : Value} {n : Nat} {xs : List Value} (h : w.ownsRow base e size v n xs) :
    ∃ p cap, v = .slice p n cap ∧ Holds (fun g => v.ownBlock = some g ∧ base ≤ g) w p xs := by
  rcases h.2 with ⟨rfl, rfl⟩ | ⟨g, cap, cur, rfl, hb, hh, hn, hm, hc, ht⟩
  · have := h.1; simp at this; subst this; exact ⟨none, 0, rfl, .inl rfl⟩
  · refine ⟨_, _, rfl, .inr ⟨g, 0, rfl, ⟨rfl, hb⟩, fun j v hj => ?_⟩⟩
    rw [Nat.zero_add, cell_of_row w g j cur e (0, 0) hh, ← Array.getElem?_toList]
    rw [← ht, List.getElem?_take] at hj
    split at hj
    · exact hj
    · cases hj

theorem ownsRow_holds3 {w : World} {base : Nat} {e : TypeId} {size : Nat} {v : Value} {n : Nat} {xs : List Value} (h : w.ownsRow base e size v n xs) :
    ∃ p cap, v = .slice p n cap ∧ Holds (fun g => v.ownBlock = some g ∧ base ≤ g) w p xs ∧ n ≤ cap := by
  obtain ⟨p, cap, hv, hh⟩ := ownsRow_holds2 h
  refine ⟨p, cap, hv, hh, ?_⟩
  rcases h.2 with ⟨rfl, rfl⟩ | ⟨g, cap', cur, rfl, hb, hh, hn, _⟩
  · exact Nat.zero_le _
  · simp only [Value.slice.injEq, true_and] at hv
    rw [← hv.2]; exact hn

theorem ownsRow_rowOf {w : World} {base : Nat} {e : TypeId} {size n cap g : Nat} {xs : List Value} (h : w.ownsRow base e size (.slice (some ⟨g, 0, none⟩) n cap) n xs) : rowOf w g xs := by
  rcases h.2 with ⟨hv, _⟩ | ⟨g', cap', cur, hv, hb, hh, hn, hm, hc, ht⟩
  · cases hv
  · simp only [Value.slice.injEq, Option.some.injEq, Addr.mk.injEq, and_true, true_and] at hv
    obtain ⟨rfl, rfl⟩ := hv
    refine ⟨fun j v hj => ?_, fun j hj => ?_⟩
    · rw [Nat.zero_add, cell_of_row w g j cur e (0, 0) hh, ← Array.getElem?_toList]
      rw [← ht, List.getElem?_take] at hj
      split at hj
      · exact hj
      · cases hj
    · simp [World.frozen?, hh]

theorem ownsRow_form {w : World} {base : Nat} {e : TypeId} {size n : Nat} {v : Value} {xs : List Value} (h : w.ownsRow base e size v n xs) : (v = .slice none 0 0 ∧ n = 0) ∨ ∃ g cap, v = .slice (some ⟨g, 0, none⟩) n cap ∧ base ≤ g ∧ g < w.heap.size := by
  rcases h.2 with h | ⟨g, cap, cur, hv, hb, hh, _⟩
  · exact .inl h
  · exact .inr ⟨g, cap, hv, hb, (Array.getElem?_eq_some_iff.1 hh).1⟩

theorem rowOf.keep {A : Nat → Prop} {w w' : World} {g : Nat} {cs : List Value} (h : rowOf w g cs) (hk : Agree A w w') (hA : A g) (hg : g < w.heap.size) : rowOf w' g cs := by
  have hb : w'.heap[g]? = w.heap[g]? := hk g hA hg
  exact ⟨fun j v hj => by rw [World.cell?_of_block (w := w) hb]; exact h.1 j v hj, fun j hj => by rw [World.frozen?_of_block (w := w) hb]; exact h.2 j hj⟩

/-! 'append(s, x...)' -/
theorem run_append_src_at {P : Program} {w : World} (base : Nat) (t tx ty e : TypeId) (i : TypeInfo) (z : Value) (ht : P.underlying t = some (.slice e)) (hi : P.info? e = some i) (hz : i.zero = some z)
    (hzs : z.cells.size = i.size) (hsz : 0 < i.size) {v : Value} {n : Nat} {xs : List Value} (hown : w.ownsRow base e i.size v n xs) {x : Value} {m : Nat} {news : List Value} (hs : Src P i.size tx x m news w)
    (h63 : n + m ≤ maxLen) (hbytes : (n + m) * i.bytes ≤ 140737488355328) (hbase : base ≤ w.heap.size) :
    ∃ v' w', (Builtin.append_ #[t, tx] ty #[v, x]).run P w = .ok v' w' ∧ w'.ownsRow base e i.size v' (n + m) (xs ++ news) ∧ w.grownBy w' v.ownBlock ∧ (v'.ownBlock = v.ownBlock ∨ v'.ownBlock = some w.heap.size) := by
  have hsmall : n + m ≤ 9223372036854775807 := by simp only [maxLen] at h63; omega
  have hl := hs.newsLen
  have hlen : (xs ++ news).length = (n + m) * i.size := by rw [List.length_append, hown.1, hl, Nat.add_mul]
  have grown : ∀ (old : Nat), old < n + m → ∀ (row : Option Nat),
      (w.drew.alloc (.cells ((xs ++ news).toArray ++ Builtin.zeroCells z.cells (grownCap w (n + m) old e - (n + m))) e)).ownsRow base e i.size
        (.slice (some ⟨w.heap.size, 0, none⟩) (n + m) (grownCap w (n + m) old e)) (n + m) (xs ++ news) ∧
      w.grownBy (w.drew.alloc (.cells ((xs ++ news).toArray ++ Builtin.zeroCells z.cells (grownCap w (n + m) old e - (n + m))) e)) row := by
    intro old ho row
    have hge := grownCap_ge w (n + m) old e
    have hcm : grownCap w (n + m) old e ≤ maxLen := grownCap_le_maxLen w (n + m) old e h63
    refine ⟨⟨hlen, .inr ⟨w.heap.size, _, _, rfl, hbase, heap_alloc_new w.drew _, hge, hcm, ?_, ?_⟩⟩, ⟨rfl, rfl, rfl, by simp, fun k hk _ => Below.heap_alloc w.drew _ k hk⟩⟩
    · simp only [Array.size_append, List.size_toArray, size_zeroCells, hzs, hlen, ← Nat.add_mul]
      congr 1
      omega
    · simp only [Array.toList_append]
      rw [← hlen]
      exact List.take_left
  rcases hown.2 with ⟨rfl, rfl⟩ | ⟨g, cap, cur, rfl, hbg, hg, hnc, hcm, hcs, htake⟩
  · have hx : xs = [] := List.eq_nil_of_length_eq_zero (by simpa using hown.1)
    subst hx
    by_cases hm : m = 0
    · subst hm
      have hn : news = [] := List.eq_nil_of_length_eq_zero (by simpa using hl)
      subst hn
      refine ⟨.slice none 0 0, w, ?_, World.ownsRow_nil w base e i.size, ⟨rfl, rfl, rfl, Nat.le_refl _, fun _ _ _ => rfl⟩, .inl rfl⟩
      have hc := hs.cells
      rcases hs.kind with ⟨e', hk⟩ | hk <;> simp [Builtin.append_, run_underlying ht, run_underlying hk, sizeOf, typeInfo, hi, hs.len, hc, storeCells]
    · have hr := run_append_grow_src (P := P) w t tx ty e i z ht hi hz none 0 0 [] (by simpa using run_firstCells_none w.drew i.size 0 0 0) x m news hs (by omega) (by omega) (growslice_fits (by omega) hbytes)
      have hgr := grown 0 (by omega) (Value.ownBlock (.slice none 0 0))
      simp only [Nat.zero_add, List.nil_append] at hgr hr ⊢
      exact ⟨_, _, hr, hgr.1, hgr.2, .inr rfl⟩
  · by_cases hroom : n + m ≤ cap
    · have hfit : n * i.size + news.length ≤ cur.size := by rw [hl, hcs, ← Nat.add_mul]; exact Nat.mul_le_mul_right _ hroom
      have hc : ∀ j, j < news.length → (w.cell? ⟨g, 0 + n * i.size + j, none⟩).isSome = true := fun j hj => by
        rw [cell_of_row w g _ cur e (0, 0) hg, Array.getElem?_eq_getElem (show 0 + n * i.size + j < cur.size by omega)]; rfl
      have hf : ∀ j, j < news.length → w.frozen? ⟨g, 0 + n * i.size + j, none⟩ = false := fun j hj => by simp [World.frozen?, hg]
      have hr := run_append_room_src (P := P) w t tx ty e i ht hi g 0 n cap x m news hs hroom hc hf
      refine ⟨_, _, hr, ?_⟩
      have hst := run_storeCells_at P g (n * i.size) e news 0 cur w hg (by simpa using hfit) hs.one
      have hst2 := run_storeCells_cells (P := P) g (n * i.size) news 0 w (by simpa using hc) (by simpa using hf) hs.one
      simp only [Nat.add_zero] at hst hst2
      rw [hst2] at hst
      injection hst with _ hw
      rw [Nat.zero_add, hw]
      refine ⟨⟨hlen, .inr ⟨g, cap, _, rfl, hbg, setRow_heap w g cur _ e _ hg, hroom, hcm, ?_, ?_⟩⟩, ⟨rfl, rfl, rfl, by simp, fun k _ hk => setRow_other w g k _ (fun e => hk (by simp [Value.ownBlock, e]))⟩, .inl rfl⟩
      · simp only [List.size_toArray, List.length_append, List.length_take, List.length_drop, Array.length_toList]
        omega
      · rw [htake, ← hlen]
        exact List.take_left
    · have holds : ∀ j u, xs[j]? = some u → w.cell? ((⟨g, 0, none⟩ : Addr).add j) = some u := hown.cells (g := g) rfl
      have hr := run_append_grow_src (P := P) w t tx ty e i z ht hi hz (some ⟨g, 0, none⟩) n cap xs (run_firstCells_some w.drew i.size n _ n cap xs hown.1 (by simpa using holds)) x m news hs (by omega) (by omega) (growslice_fits (by omega) hbytes)
      have hgr := grown cap (by omega) (Value.ownBlock (.slice (some ⟨g, 0, none⟩) n cap))
      exact ⟨_, _, hr, hgr.1, hgr.2, .inr rfl⟩

theorem run_append_src {P : Program} {w : World} (base : Nat) (t tx ty e : TypeId) (i : TypeInfo) (z : Value) (ht : P.underlying t = some (.slice e)) (hi : P.info? e = some i) (hz : i.zero = some z)
    (hzs : z.cells.size = i.size) (hsz : 0 < i.size) {v : Value} {n : Nat} {xs : List Value} (hown : w.ownsRow base e i.size v n xs) {x : Value} {m : Nat} {news : List Value} (hs : Src P i.size tx x m news w)
    (h63 : n + m ≤ maxLen) (hbytes : (n + m) * i.bytes ≤ 140737488355328) (hbase : base ≤ w.heap.size) :
    ∃ v' w', (Builtin.append_ #[t, tx] ty #[v, x]).run P w = .ok v' w' ∧ w'.ownsRow base e i.size v' (n + m) (xs ++ news) ∧ w.grownBy w' v.ownBlock := by
  obtain ⟨v', w', h1, h2, h3, _⟩ := run_append_src_at (P := P) base t tx ty e i z ht hi hz hzs hsz hown hs h63 hbytes hbase
  exact ⟨v', w', h1, h2, h3⟩

theorem wp_app_at {P : Program} {o : Oper} {a : Act} {K : Act → World → Prop} {Q : Exit → Act → World → Prop} {w : World} (s x : Operand) (t tx e : TypeId) (z : Value) (size bytes : Nat)
    (ho : o.op = .call { callee := .builtin .append, args := #[s, x], argTypes := #[t, tx] })
    (ht : P.underlying t = some (.slice e)) (hinfo : (P.info? e).map (fun i => (i.zero, i.size, i.bytes)) = some (some z, size, bytes)) (hzs : z.cells.size = size) (hsz : 0 < size)
    (base : Nat) {v : Value} {n : Nat} {xs : List Value} (hown : w.ownsRow base e size v n xs) (hbase : base ≤ w.heap.size) {xv : Value} {m : Nat} {news : List Value} (hs : a.eval s = v) (hx : a.eval x = xv)
    (hsrc : Src P size tx xv m news w) (h63 : n + m ≤ maxLen) (hbytes : (n + m) * bytes ≤ 140737488355328)
    (h : ∀ v' w', w'.ownsRow base e size v' (n + m) (xs ++ news) → w.grownBy w' v.ownBlock → (v'.ownBlock = v.ownBlock ∨ v'.ownBlock = some w.heap.size) → K (a.put o.dst v') w') : o.wp P a w K Q := by
  obtain ⟨i, hi, hz, hsize, hby⟩ := info_parts hinfo
  subst hsize hby
  obtain ⟨v', w', hr, h2, h3, h4⟩ := run_append_src_at (P := P) base t tx o.type e i z ht hi hz hzs hsz hown hsrc h63 hbytes hbase
  unfold Oper.wp execOp
  simp only [ho, resolve, invoke, builtin, Sem.run_bind, Sem.run_pure, Result.andThen_ok, List.map_toArray, List.map_cons, List.map_nil, hs, hx, hr]
  exact h v' w' h2 h3 h4

theorem app_at {P : Program} {ops : Array Oper} {rest : List Oper} {o : Oper} {a : Act} {Q : Exit → Act → World → Prop} {w : World} (s x : Operand) (t tx e : TypeId) (z : Value) (size bytes : Nat)
    (hgd : o.guard = none) (ho : o.op = .call { callee := .builtin .append, args := #[s, x], argTypes := #[t, tx] })
    (ht : P.underlying t = some (.slice e)) (hinfo : (P.info? e).map (fun i => (i.zero, i.size, i.bytes)) = some (some z, size, bytes)) (hzs : z.cells.size = size) (hsz : 0 < size)
    (base : Nat) {v : Value} {n : Nat} {xs : List Value} (hown : w.ownsRow base e size v n xs) (hbase : base ≤ w.heap.size) {xv : Value} {m : Nat} {news : List Value} (hs : a.eval s = v) (hx : a.eval x = xv)
    (hsrc : Src P size tx xv m news w) (h63 : n + m ≤ maxLen) (hbytes : (n + m) * bytes ≤ 140737488355328)
    (h : ∀ v' w', w'.ownsRow base e size v' (n + m) (xs ++ news) → w.grownBy w' v.ownBlock → (v'.ownBlock = v.ownBlock ∨ v'.ownBlock = some w.heap.size) → wpList P ops Q rest (a.put o.dst v') w') : wpList P ops Q (o :: rest) a w :=
  wpList_plain hgd fun _ hK => wp_app_at s x t tx e z size bytes ho ht hinfo hzs hsz base hown hbase hs hx hsrc h63 hbytes fun v' w' h2 h3 h4 => hK _ _ (h v' w' h2 h3 h4)

/-- a store into a row of the call's own -/
theorem ownsRow_set {w : World} {base : Nat} {e : TypeId} {size n cap g : Nat} {xs : List Value} (h : w.ownsRow base e size (.slice (some ⟨g, 0, none⟩) n cap) n xs) (j : Nat) (u : Value) (hj : j < xs.length) :
    (w.setCell ⟨g, j, none⟩ u).ownsRow base e size (.slice (some ⟨g, 0, none⟩) n cap) n (xs.set j u) := by
  refine ⟨by rw [List.length_set]; exact h.1, .inr ?_⟩
  rcases h.2 with ⟨hv, _⟩ | ⟨g', cap', cur, hv, hb, hh, hn, hm, hc, ht⟩
  · cases hv
  · simp only [Value.slice.injEq, Option.some.injEq, Addr.mk.injEq, and_true, true_and] at hv
    obtain ⟨rfl, rfl⟩ := hv
    refine ⟨g, cap, cur.setIfInBounds j u, rfl, hb, ?_, hn, hm, by simpa using hc, ?_⟩
    · have hlt := (Array.getElem?_eq_some_iff.1 hh).1
      unfold World.setCell
      simp only [Array.getElem?_modify, hh, if_true]
      rfl
    · rw [Array.toList_setIfInBounds, ← ht, List.take_set]
theorem ownsRow_other {w : World} {base : Nat} {e : TypeId} {size n : Nat} {v : Value} {xs : List Value} (h : w.ownsRow base e size v n xs) (p : Addr) (u : Value) (hp : v.ownBlock ≠ some p.block) : (w.setCell p u).ownsRow base e size v n xs := by
  refine ⟨h.1, ?_⟩
  rcases h.2 with h2 | ⟨g, cap, cur, hv, hg, hh, r⟩
  · exact .inl h2
  · refine .inr ⟨g, cap, cur, hv, hg, ?_, r⟩
    rw [Below.heap_setCell _ _ _ _ (fun e => hp (by rw [hv, ← e]; rfl))]; exact hh
theorem ownsRow_base {w : World} {base b2 : Nat} {e : TypeId} {size n : Nat} {v : Value} {xs : List Value} (h : w.ownsRow base e size v n xs) (hb : b2 ≤ base) : w.ownsRow b2 e size v n xs := by
  refine ⟨h.1, ?_⟩
  rcases h.2 with h2 | ⟨g, cap, cur, hv, hg, r⟩
  · exact .inl h2
  · exact .inr ⟨g, cap, cur, hv, Nat.le_trans hb hg, r⟩
theorem ownsRow_keep {A : Nat → Prop} {w w' : World} {base : Nat} {e : TypeId} {size n : Nat} {v : Value} {xs : List Value} (h : w.ownsRow base e size v n xs) (hk : Agree A w w') (hA : ∀ g, v.ownBlock = some g → A g) : w'.ownsRow base e size v n xs := by
  refine ⟨h.1, ?_⟩
  rcases h.2 with h2 | ⟨g, cap, cur, hv, hg, hh, r⟩
  · exact .inl h2
  · exact .inr ⟨g, cap, cur, hv, hg, by rw [hk g (hA g (by rw [hv]; rfl)) (Array.getElem?_eq_some_iff.1 hh).1]; exact hh, r⟩

theorem wp_app_src {P : Program} {o : Oper} {a : Act} {K : Act → World → Prop} {Q : Exit → Act → World → Prop} {w : World} (s x : Operand) (t tx e : TypeId) (z : Value) (size bytes : Nat)
    (ho : o.op = .call { callee := .builtin .append, args := #[s, x], argTypes := #[t, tx] })
    (ht : P.underlying t = some (.slice e)) (hinfo : (P.info? e).map (fun i => (i.zero, i.size, i.bytes)) = some (some z, size, bytes)) (hzs : z.cells.size = size) (hsz : 0 < size)
    (base : Nat) {v : Value} {n : Nat} {xs : List Value} (hown : w.ownsRow base e size v n xs) (hbase : base ≤ w.heap.size) {xv : Value} {m : Nat} {news : List Value} (hs : a.eval s = v) (hx : a.eval x = xv)
    (hsrc : Src P size tx xv m news w) (h63 : n + m ≤ maxLen) (hbytes : (n + m) * bytes ≤ 140737488355328)
    (h : ∀ v' w', w'.ownsRow base e size v' (n + m) (xs ++ news) → w.grownBy w' v.ownBlock → K (a.put o.dst v') w') : o.wp P a w K Q := by
  obtain ⟨i, hi, hz, hsize, hby⟩ := info_parts hinfo
  subst hsize hby
  obtain ⟨v', w', hr, h2, h3⟩ := run_append_src (P := P) base t tx o.type e i z ht hi hz hzs hsz hown hsrc h63 hbytes hbase
  unfold Oper.wp execOp
  simp only [ho, resolve, invoke, builtin, Sem.run_bind, Sem.run_pure, Result.andThen_ok, List.map_toArray, List.map_cons, List.map_nil, hs, hx, hr]
  exact h v' w' h2 h3

theorem app_src {P : Program} {ops : Array Oper} {rest : List Oper} {o : Oper} {a : Act} {Q : Exit → Act → World → Prop} {w : World} (s x : Operand) (t tx e : TypeId) (z : Value) (size bytes : Nat)
    (hgd : o.guard = none) (ho : o.op = .call { callee := .builtin .append, args := #[s, x], argTypes := #[t, tx] })
    (ht : P.underlying t = some (.slice e)) (hinfo : (P.info? e).map (fun i => (i.zero, i.size, i.bytes)) = some (some z, size, bytes)) (hzs : z.cells.size = size) (hsz : 0 < size)
    (base : Nat) {v : Value} {n : Nat} {xs : List Value} (hown : w.ownsRow base e size v n xs) (hbase : base ≤ w.heap.size) {xv : Value} {m : Nat} {news : List Value} (hs : a.eval s = v) (hx : a.eval x = xv)
    (hsrc : Src P size tx xv m news w) (h63 : n + m ≤ maxLen) (hbytes : (n + m) * bytes ≤ 140737488355328)
    (h : ∀ v' w', w'.ownsRow base e size v' (n + m) (xs ++ news) → w.grownBy w' v.ownBlock → wpList P ops Q rest (a.put o.dst v') w') : wpList P ops Q (o :: rest) a w :=
  wpList_plain hgd fun _ hK => wp_app_src s x t tx e z size bytes ho ht hinfo hzs hsz base hown hbase hs hx hsrc h63 hbytes fun v' w' h2 h3 => hK _ _ (h v' w' h2 h3)

/-- an empty row that a literal made -/
theorem ownsRow_lit (w : World) (e : TypeId) (size : Nat) : (w.alloc (.cells #[] e)).ownsRow w.heap.size e size (.slice (some ⟨w.heap.size, 0, none⟩) 0 0) 0 [] :=
  ⟨by simp, .inr ⟨w.heap.size, 0, #[], rfl, Nat.le_refl _, heap_alloc_new w _, Nat.le_refl _, by simp [maxLen], by simp, by simp⟩⟩

/-! 'copy(b, x)' of one row to another -/
theorem agree_setCells {A : Nat → Prop} {w : World} {g off : Nat} (cs : List Value) (h : ¬ A g) : Agree A w (w.setCells g off cs) := by
  have : ∀ (cs : List Value) (o : Nat) (w : World) (k : Nat), k ≠ g → (w.setCells g o cs).heap[k]? = w.heap[k]? := by
    intro cs
    induction cs with
    | nil => intro o w k _; rfl
    | cons v r ih =>
      intro o w k hk
      rw [World.setCells, ih _ _ _ hk]
      exact Below.heap_setCell _ _ _ _ hk
  exact fun k hA _ => this cs off w k (fun e => h (e ▸ hA))

theorem rowOf_setCells {w : World} {g : Nat} {L cs : List Value} (hrow : rowOf w g L) (hfit : cs.length ≤ L.length) : rowOf (w.setCells g 0 cs) g (cs ++ L.drop cs.length) := by
  have hthere : ∀ j, j < cs.length → (w.cell? ⟨g, 0 + j, none⟩).isSome = true := fun j hj => by
    rw [Nat.zero_add, hrow.cell (v := L[j]) (by rw [List.getElem?_eq_getElem (by omega)])]; rfl
  refine ⟨fun j v hj => ?_, fun j hj => ?_⟩
  · rw [Nat.zero_add]
    by_cases h1 : j < cs.length
    · have := World.cell?_setCells_in g cs 0 w hthere j h1
      rw [Nat.zero_add] at this
      rw [this, ← hj, List.getElem?_append_left h1, List.getElem?_eq_getElem h1]
    · rw [World.cell?_setCells_out _ _ _ _ _ (fun _ _ => .inr (by show 0 + _ ≤ j; omega))]
      refine hrow.cell ?_
      rw [← hj, List.getElem?_append_right (by omega), List.getElem?_drop]
      congr 1
      omega
  · rw [World.frozen?_setCells]
    refine hrow.2 j ?_
    simp at hj; omega

/-- 'copy(b, x)' -/
theorem copy_rows {P : Program} {w : World} (dT sT ty elem : TypeId) (hu : P.underlying dT = some (.slice elem)) (hsz : (P.info? elem).map (·.size) = some 1)
    {A : Nat → Prop} {g dLen dCap : Nat} {L : List Value} (hrow : rowOf w g L) (hL : dLen = L.length) {p : Option Addr} {n cap : Nat} {cs : List Value} (hsrc : Holds A w p cs) (hn : cs.length = n) (hle : n ≤ dLen) (h1 : ∀ v ∈ cs, v.oneCell' = true) :
    ∃ w', (Builtin.copy_ #[dT, sT] ty #[.slice (some ⟨g, 0, none⟩) dLen dCap, .slice p n cap]).run P w = .ok (.int .i64 n) w' ∧ rowOf w' g (cs ++ L.drop n) ∧ Below g w w' ∧ w'.heap.size = w.heap.size ∧ Agree (· ≠ g) w w' := by
  subst hn hL
  by_cases hcs : cs = []
  · subst hcs
    refine ⟨w, run_copy_none w dT sT ty elem _ p _ dCap _ cap hu hsz (by simp), by simpa using hrow, Below.refl _ _, rfl, Agree.refl _ _⟩
  · obtain ⟨g2, off, rfl, _, _, hc⟩ := hsrc.at (List.length_pos_iff.2 hcs)
    have hthere : ∀ j, j < cs.length → (w.cell? ⟨g, 0 + j, none⟩).isSome = true := fun j hj => by
      rw [Nat.zero_add, hrow.cell (v := L[j]) (by rw [List.getElem?_eq_getElem (by omega)])]; rfl
    refine ⟨_, run_copy_cells w dT sT ty elem g 0 _ dCap _ _ cap cs hu hsz ?_ (fun j v hj => by rw [Addr.add_lit]; exact hc j v hj) hthere (fun j hj => by rw [Nat.zero_add]; exact hrow.2 j (by omega)) h1, rowOf_setCells hrow hle, below_setCellsL (Nat.le_refl _) _ _ _ (Below.refl _ _), size_setCellsL _ _ _ _, agree_setCells cs (by simp)⟩
    show cs.length = min cs.length L.length
    omega

theorem bytes_one (bs : List UInt8) : ∀ v ∈ bs.map byteVal, v.oneCell' = true := fun v hv => by
  obtain ⟨b, _, rfl⟩ := List.mem_map.1 hv; rfl

/-- a slice of bytes -/
def BRow0 (A : Nat → Prop) (w : World) (v : Value) (bs : List UInt8) : Prop := ∃ p cap, v = .slice p bs.length cap ∧ Holds A w p (bs.map byteVal)
def BRow (A : Nat → Prop) (w : World) (v : Value) (bs : List UInt8) : Prop := ∃ p cap, v = .slice p bs.length cap ∧ Holds A w p (bs.map byteVal) ∧ bs.length ≤ cap
theorem BRow.keep {A : Nat → Prop} {w w' : World} {v : Value} {bs : List UInt8} (h : BRow A w v bs) (hk : Agree A w w') : BRow A w' v bs := by
  obtain ⟨p, cap, hv, hh, hc⟩ := h; exact ⟨p, cap, hv, hh.keep hk, hc⟩
theorem BRow.mono {A B : Nat → Prop} {w : World} {v : Value} {bs : List UInt8} (h : BRow A w v bs) (hab : ∀ g, A g → B g) : BRow B w v bs := by
  obtain ⟨p, cap, hv, hh, hc⟩ := h; exact ⟨p, cap, hv, hh.mono hab, hc⟩

theorem brow_row {A : Nat → Prop} {w : World} {g n cap : Nat} {bs : List UInt8} (h : rowOf w g (bs.map byteVal)) (hA : A g) (hn : bs.length = n) (hc : n ≤ cap) : BRow A w (.slice (some ⟨g, 0, none⟩) n cap) bs := by
  subst hn; exact ⟨_, _, rfl, holds_row h hA, hc⟩

/-- 'string(b)' of any slice of bytes -/
theorem conv_bytes {P : Program} {A : Nat → Prop} {w : World} {src dst e : TypeId} (hs : P.underlying src = some (.slice e)) (he : P.underlying e = some (.int .u8)) (hd : P.underlying dst = some .string) {p : Option Addr} {n cap : Nat} {bs : List UInt8}
    (h : Holds A w p (bs.map byteVal)) (hn : bs.length = n) : (convert src dst (.slice p n cap)).run P w = .ok (.string ⟨bs.toArray⟩) w := by
  subst hn
  by_cases hb : bs = []
  · subst hb
    cases p with
    | none => rw [show ([] : List UInt8).length = 0 from rfl, run_convert_bytes_nil w src e hs he _ _ dst hd]; rfl
    | some a => exact run_convert_bytes_back w src dst e a cap [] hs he hd (by simp)
  · obtain ⟨g, off, rfl, _, _, hc⟩ := h.at (by simpa using List.length_pos_iff.2 hb)
    refine run_convert_bytes_back w src dst e _ cap bs hs he hd (fun j hj => ?_)
    rw [Addr.add_lit]
    exact hc j _ (by simp [byteVal, hj])

theorem conv_bytes_held {P : Program} {A : Nat → Prop} {w : World} {src dst e : TypeId} (hs : P.underlying src = some (.slice e)) (he : P.underlying e = some (.int .u8)) (hd : P.underlying dst = some .string) {p : Option Addr} {n cap : Nat} {bs : List UInt8}
    (h : Holds A w p (bs.map byteVal)) (hn : bs.length = n) : ∀ w', Below w.heap.size w w' → (convert src dst (.slice p n cap)).run P w' = .ok (.string ⟨bs.toArray⟩) w' :=
  fun _ hw => conv_bytes hs he hd (h.keep (agree_below hw)) hn

end Go.Proofs.Ythjfahimfcadnaa
