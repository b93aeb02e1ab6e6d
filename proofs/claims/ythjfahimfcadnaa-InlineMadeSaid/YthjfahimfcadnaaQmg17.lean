import Derived.Test.YthjfahimfcadnaaQmg16
import Derived.Test.YthjfahimfcadnaaQmg3
import Derived.Test.YthjfahimfcadnaaQmg4
import Derived.Test.YthjfahimfcadnaaLx
/- Operations in a row of the call's own whose lists lie in blocks with A; an operation and a word added to a piece (inline.put's function). -/
namespace Go.Proofs.Ythjfahimfcadnaa
open Go.ChangeShapes Go.WideShapes Go.RowKit

/-- the blocks with P stay -/
structure Sep (P : Nat → Prop) (w w' : World) : Prop where
  os : w'.os = w.os
  tape : w'.tape = w.tape
  output : w'.output = w.output
  size : w.heap.size ≤ w'.heap.size
  block : ∀ k, k < w.heap.size → P k → w'.heap[k]? = w.heap[k]?
theorem Sep.refl (P : Nat → Prop) (w : World) : Sep P w w := ⟨rfl, rfl, rfl, Nat.le_refl _, fun _ _ _ => rfl⟩
theorem Sep.trans {P : Nat → Prop} {a b c : World} (h : Sep P a b) (k : Sep P b c) : Sep P a c :=
  ⟨k.os.trans h.os, k.tape.trans h.tape, k.output.trans h.output, Nat.le_trans h.size k.size, fun g hg hP => (k.block g (Nat.lt_of_lt_of_le hg h.size) hP).trans (h.block g hg hP)⟩
/-- what comes after may also change what was made since -/
theorem Sep.then {P Q : Nat → Prop} {a b c : World} (h : Sep P a b) (k : Sep Q b c) (hPQ : ∀ g, g < a.heap.size → P g → Q g) : Sep P a c :=
  ⟨k.os.trans h.os, k.tape.trans h.tape, k.output.trans h.output, Nat.le_trans h.size k.size, fun g hg hP => (k.block g (Nat.lt_of_lt_of_le hg h.size) (hPQ g hg hP)).trans (h.block g hg hP)⟩
theorem Sep.of {P : Nat → Prop} {w w' : World} (h : Below w.heap.size w w') : Sep P w w' := ⟨h.os, h.tape, h.output, h.size, fun k hk _ => h.block k hk⟩
theorem Sep.grown {P : Nat → Prop} {w w' : World} {row : Option Nat} (h : w.grownBy w' row) (hP : ∀ g, g < w.heap.size → P g → some g ≠ row) : Sep P w w' := ⟨h.os, h.tape, h.output, h.size, fun k hk hp => h.block k hk (hP k hk hp)⟩
theorem Sep.set {P : Nat → Prop} (w : World) (p : Addr) (v : Value) (hp : ¬ P p.block) : Sep P w (w.setCell p v) :=
  ⟨rfl, rfl, rfl, by simp [World.setCell], fun k _ hk => Below.heap_setCell _ _ _ _ fun e => hp (by rw [← e]; exact hk)⟩
theorem Sep.agree {P : Nat → Prop} {w w' : World} (h : Sep P w w') : Agree P w w' := fun g hP hlt => h.block g hlt hP
theorem Sep.below {P : Nat → Prop} {w w' : World} (h : Sep P w w') {B : Nat} (hB : B ≤ w.heap.size) (hP : ∀ g, g < B → P g) : Below B w w' := ⟨h.os, h.tape, h.output, h.size, fun k hk => h.block k (by omega) (hP k hk)⟩
theorem Sep.mono {P Q : Nat → Prop} {w w' : World} (h : Sep P w w') (hQ : ∀ g, g < w.heap.size → Q g → P g) : Sep Q w w' := ⟨h.os, h.tape, h.output, h.size, fun k hk hq => h.block k hk (hQ k hk hq)⟩
/-- rows of different types lie apart -/
theorem own_apart {w : World} {b1 b2 : Nat} {e1 e2 : TypeId} {s1 s2 n1 n2 : Nat} {v1 v2 : Value} {x1 x2 : List Value} (h1 : w.ownsRow b1 e1 s1 v1 n1 x1) (h2 : w.ownsRow b2 e2 s2 v2 n2 x2) (he : e1 ≠ e2) : ∀ g, v1.ownBlock = some g → v2.ownBlock ≠ some g := by
  intro g e e'
  rcases h1.2 with ⟨rfl, _⟩ | ⟨g1, c1, q1, rfl, _, hh1, _⟩
  · cases e
  · rcases h2.2 with ⟨rfl, _⟩ | ⟨g2, c2, q2, rfl, _, hh2, _⟩
    · cases e'
    · injection e with e; injection e' with e'
      subst e; subst e'
      rw [hh1] at hh2
      injection hh2 with hh2
      injection hh2 with _ h
      exact he h
/-- operations in a row of the call's own; their lists in blocks with A -/
def OpsIn (A : Nat → Prop) (w : World) (base : Nat) (v : Value) (l : List Ob.Op) : Prop :=
  ∃ cs, w.ownsRow base 41 6 v l.length cs ∧ ∀ (i : Nat) (o : Ob.Op), l[i]? = some o → (cs : List Value)[i * 6]? = some (.int .i64 o.kind) ∧ cs[i * 6 + 1]? = some (.int .i64 o.a) ∧ cs[i * 6 + 2]? = some (.int .i64 o.b) ∧ cs[i * 6 + 3]? = some (.int .i64 o.c) ∧ (∃ u : Value, cs[i * 6 + 4]? = some u ∧ NRow (fun g => A g ∧ some g ≠ v.ownBlock) w u o.list) ∧ cs[i * 6 + 5]? = some (.string ⟨o.sym.toArray⟩)
theorem OpsIn.nil (A : Nat → Prop) (w : World) (base : Nat) : OpsIn A w base (.slice none 0 0) [] := ⟨[], World.ownsRow_nil _ _ _ _, fun i o h => by simp at h⟩
theorem OpsIn.own {A : Nat → Prop} {w : World} {base : Nat} {v : Value} {l : List Ob.Op} (h : OpsIn A w base v l) : ∀ g, v.ownBlock = some g → base ≤ g ∧ g < w.heap.size := by
  obtain ⟨cs, h1, _⟩ := h
  exact fun g e => h1.lt g e
theorem OpsIn.keep {A B : Nat → Prop} {w w' : World} {base : Nat} {v : Value} {l : List Ob.Op} (h : OpsIn A w base v l) (hk : Agree B w w') (hv : ∀ g, v.ownBlock = some g → B g) (hA : ∀ g, A g → B g) : OpsIn A w' base v l := by
  obtain ⟨cs, h1, h2⟩ := h
  exact ⟨cs, ownsRow_keep h1 hk hv, fun i o hi => by
    obtain ⟨e0, e1, e2, e3, ⟨u, hu, hn⟩, e5⟩ := h2 i o hi
    exact ⟨e0, e1, e2, e3, ⟨u, hu, hn.keep (hk.mono fun g hg => hA g hg.1)⟩, e5⟩⟩
theorem OpsIn.call {A : Nat → Prop} {w w' : World} {base : Nat} {v : Value} {l : List Ob.Op} (h : OpsIn A w base v l) (hb : Below w.heap.size w w') : OpsIn A w' base v l :=
  h.keep (B := fun _ => True) (agree_below hb) (fun _ _ => trivial) fun _ _ => trivial
theorem OpsIn.mono {A B : Nat → Prop} {w : World} {base : Nat} {v : Value} {l : List Ob.Op} (h : OpsIn A w base v l) (hA : ∀ g, A g → B g) : OpsIn B w base v l := by
  obtain ⟨cs, h1, h2⟩ := h
  exact ⟨cs, h1, fun i o hi => by
    obtain ⟨e0, e1, e2, e3, ⟨u, hu, hn⟩, e5⟩ := h2 i o hi
    exact ⟨e0, e1, e2, e3, ⟨u, hu, hn.mono fun g hg => ⟨hA g hg.1, hg.2⟩⟩, e5⟩⟩
theorem OpsIn.lt {A : Nat → Prop} {w : World} {base : Nat} {v : Value} {l : List Ob.Op} (h : OpsIn A w base v l) : OpsIn (fun g => A g ∧ g < w.heap.size) w base v l := by
  obtain ⟨cs, h1, h2⟩ := h
  exact ⟨cs, h1, fun i o hi => by
    obtain ⟨e0, e1, e2, e3, ⟨u, hu, hn⟩, e5⟩ := h2 i o hi
    exact ⟨e0, e1, e2, e3, ⟨u, hu, hn.lt.mono fun g hg => ⟨⟨hg.1.1, hg.2⟩, hg.1.2⟩⟩, e5⟩⟩
theorem OpsIn.at {A : Nat → Prop} {w : World} {base : Nat} {v : Value} {l : List Ob.Op} (h : OpsIn A w base v l) (hA : ∀ g, A g → base ≤ g) : OpsAt (base ≤ ·) w v l := by
  obtain ⟨cs, h1, h2⟩ := h
  obtain ⟨p, c, hv, hh, hc⟩ := ownsRow_holds3 h1
  exact ⟨p, c, cs, hv, hh.mono fun g hg => hg.2, h1.1, hc, fun i o hi => by
    obtain ⟨e0, e1, e2, e3, ⟨u, hu, hn⟩, e5⟩ := h2 i o hi
    exact ⟨e0, e1, e2, e3, ⟨u, hu, hn.mono fun g hg => hA g hg.1⟩, e5⟩⟩
theorem OpsIn.out {w : World} {base : Nat} {v : Value} {l : List Ob.Op} (h : OpsIn (base ≤ ·) w base v l) : OpsOwn w base v l := h
theorem OpsIn.push {A : Nat → Prop} {w w' : World} {base : Nat} {v v' u : Value} {l : List Ob.Op} {o : Ob.Op} {cs : List Value} (h1 : w.ownsRow base 41 6 v l.length cs)
    (h2 : ∀ (i : Nat) (o : Ob.Op), l[i]? = some o → (cs : List Value)[i * 6]? = some (.int .i64 o.kind) ∧ cs[i * 6 + 1]? = some (.int .i64 o.a) ∧ cs[i * 6 + 2]? = some (.int .i64 o.b) ∧ cs[i * 6 + 3]? = some (.int .i64 o.c) ∧ (∃ u : Value, cs[i * 6 + 4]? = some u ∧ NRow (fun g => A g ∧ some g ≠ v.ownBlock) w u o.list) ∧ cs[i * 6 + 5]? = some (.string ⟨o.sym.toArray⟩))
    (ho : w'.ownsRow base 41 6 v' (l.length + 1) (cs ++ [.int .i64 o.kind, .int .i64 o.a, .int .i64 o.b, .int .i64 o.c, u, .string ⟨o.sym.toArray⟩])) (hg : w.grownBy w' v.ownBlock) (hw : v'.ownBlock = v.ownBlock ∨ v'.ownBlock = some w.heap.size) (hu : NRow (fun g => A g ∧ some g ≠ v.ownBlock) w u o.list) : OpsIn A w' base v' (l ++ [o]) := by
  have hl : cs.length = l.length * 6 := h1.1
  have hk : ∀ {u : Value} {x : List Int}, NRow (fun g => A g ∧ some g ≠ v.ownBlock) w u x → NRow (fun g => A g ∧ some g ≠ v'.ownBlock) w' u x := fun {u x} h =>
    (h.lt.keep (agree_grown hg fun b hb => hb.1.2)).mono fun b hb => ⟨hb.1.1, by
      rcases hw with e | e
      · rw [e]; exact hb.1.2
      · rw [e]; intro e2; injection e2 with e2; have := hb.2; omega⟩
  refine ⟨_, by rw [List.length_append]; exact ho, fun i y hi => ?_⟩
  by_cases hik : i < l.length
  · rw [List.getElem?_append_left hik] at hi
    obtain ⟨e0, e1, e2, e3, ⟨u, hu, hn⟩, e5⟩ := h2 i y hi
    rw [List.getElem?_append_left (by omega), List.getElem?_append_left (by omega), List.getElem?_append_left (by omega), List.getElem?_append_left (by omega), List.getElem?_append_left (by omega), List.getElem?_append_left (by omega)]
    exact ⟨e0, e1, e2, e3, ⟨u, hu, hk hn⟩, e5⟩
  · rw [List.getElem?_append_right (by omega)] at hi
    have hik2 : i - l.length = 0 := by
      have := (List.getElem?_eq_some_iff.1 hi).1
      simp at this; omega
    rw [hik2] at hi
    simp only [List.getElem?_cons_zero, Option.some.injEq] at hi
    subst hi
    have hi6 : i * 6 = cs.length := by omega
    rw [hi6, List.getElem?_append_right (by omega), List.getElem?_append_right (by omega), List.getElem?_append_right (by omega), List.getElem?_append_right (by omega), List.getElem?_append_right (by omega), List.getElem?_append_right (by omega), Nat.sub_self, show cs.length + 1 - cs.length = 1 by omega, show cs.length + 2 - cs.length = 2 by omega, show cs.length + 3 - cs.length = 3 by omega, show cs.length + 4 - cs.length = 4 by omega, show cs.length + 5 - cs.length = 5 by omega]
    exact ⟨rfl, rfl, rfl, rfl, ⟨u, rfl, hk hu⟩, rfl⟩
/-- an operation appended whose block was made some time before -/
theorem wp_app_opB {A : Nat → Prop} {o : Oper} {ac : Act} {K : Act → World → Prop} {Q : Exit → Act → World → Prop} {w : World} (s x : Operand)
    (ho : o.op = .call { callee := .builtin .append, args := #[s, x], argTypes := #[22, 22] })
    (base : Nat) {v : Value} {L : List Ob.Op} (hO : OpsIn A w base v L) (hbase : base ≤ w.heap.size) (hL : L.length ≤ 1000000000) {g : Nat} {kd a b c : Int} {u : Value} {list : List Int} (sy : List UInt8) {S : ByteArray} (hS : ⟨sy.toArray⟩ = S) (hB : Blk w g [.int .i64 kd, .int .i64 a, .int .i64 b, .int .i64 c, u, .string S])
    (hu : NRow (fun g => A g ∧ some g ≠ v.ownBlock) w u list) (hs : ac.eval s = v) (hx : ac.eval x = .slice (some ⟨g, 0, none⟩) 1 1)
    (h : ∀ v' w', OpsIn A w' base v' (L ++ [⟨kd, a, b, c, list, sy⟩]) → w.grownBy w' v.ownBlock → (v'.ownBlock = v.ownBlock ∨ v'.ownBlock = some w.heap.size) → K (ac.put o.dst v') w') :
    o.wp Try.prog ac w K Q := by
  have hsrc : Src Try.prog 6 22 (.slice (some ⟨g, 0, none⟩) 1 1) 1 [.int .i64 kd, .int .i64 a, .int .i64 b, .int .i64 c, u, .string S] w := by
    refine Src.ofSlice w (e' := 41) Try.underlying22 _ 1 1 _ rfl (fun j u hj => by rw [Addr.add_lit, Nat.zero_add]; exact (hB.cells j).trans hj) (fun x hx => ?_)
    simp only [List.mem_cons, List.not_mem_nil, or_false] at hx
    rcases hx with h | h | h | h | h | h <;> (rw [h]; first | rfl | exact hu.one)
  obtain ⟨cs, ho2, h2⟩ := hO
  refine wp_app_at s x 22 22 41 (.agg #[.int .i64 0, .int .i64 0, .int .i64 0, .int .i64 0, .slice none 0 0, .string ⟨#[]⟩]) 6 72 ho Try.underlying22 (by kernel_rfl) rfl (by decide) base ho2 hbase hs hx hsrc (by unfold maxLen; omega) (by omega) fun v' w' k1 k2 k3 => ?_
  refine h v' w' ?_ k2 k3
  subst hS
  exact OpsIn.push (o := ⟨kd, a, b, c, list, sy⟩) ho2 h2 k1 k2 k3 hu
def BoolsOwn (w : World) (base : Nat) (v : Value) (l : List Bool) : Prop := w.ownsRow base 4 1 v l.length (l.map .bool)
theorem BoolsOwn.nil (w : World) (base : Nat) : BoolsOwn w base (.slice none 0 0) [] := World.ownsRow_nil _ _ _ _
theorem BoolsOwn.lt {w : World} {base : Nat} {v : Value} {l : List Bool} (h : BoolsOwn w base v l) : ∀ g, v.ownBlock = some g → base ≤ g ∧ g < w.heap.size := fun g e => World.ownsRow.lt h g e
theorem BoolsOwn.keep {A : Nat → Prop} {w w' : World} {base : Nat} {v : Value} {l : List Bool} (h : BoolsOwn w base v l) (hk : Agree A w w') (hA : ∀ g, v.ownBlock = some g → A g) : BoolsOwn w' base v l := ownsRow_keep h hk hA
theorem BoolsOwn.call {w w' : World} {base : Nat} {v : Value} {l : List Bool} (h : BoolsOwn w base v l) (hb : Below w.heap.size w w') : BoolsOwn w' base v l := ownsRow_below h hb
theorem wp_app_boolB {o : Oper} {ac : Act} {K : Act → World → Prop} {Q : Exit → Act → World → Prop} {w : World} (s x : Operand)
    (ho : o.op = .call { callee := .builtin .append, args := #[s, x], argTypes := #[99, 99] })
    (base : Nat) {v : Value} {L : List Bool} (hO : BoolsOwn w base v L) (hbase : base ≤ w.heap.size) (hL : L.length ≤ 1000000000) {g : Nat} {b : Bool} (hB : Blk w g [.bool b]) (hs : ac.eval s = v) (hx : ac.eval x = .slice (some ⟨g, 0, none⟩) 1 1)
    (h : ∀ v' w', BoolsOwn w' base v' (L ++ [b]) → w.grownBy w' v.ownBlock → (v'.ownBlock = v.ownBlock ∨ v'.ownBlock = some w.heap.size) → K (ac.put o.dst v') w') :
    o.wp Try.prog ac w K Q := by
  have hsrc : Src Try.prog 1 99 (.slice (some ⟨g, 0, none⟩) 1 1) 1 [.bool b] w :=
    Src.ofSlice w (e' := 4) Try.underlying99 _ 1 1 _ rfl (fun j u hj => by rw [Addr.add_lit, Nat.zero_add]; exact (hB.cells j).trans hj) (fun x hx => by rw [List.mem_singleton.1 hx]; rfl)
  refine wp_app_at s x 99 99 4 (.bool false) 1 1 ho Try.underlying99 (by kernel_rfl) rfl (by decide) base hO hbase hs hx hsrc (by unfold maxLen; omega) (by omega) fun v' w' k1 k2 k3 => h v' w' ?_ k2 k3
  unfold BoolsOwn
  rw [List.length_append, List.map_append]
  exact k1
end Go.Proofs.Ythjfahimfcadnaa
/- Operations copied and changed one by one: what OddCode stands on. -/
namespace Go.Proofs.Ythjfahimfcadnaa
open Go.ChangeShapes Go.WideShapes Go.RowKit

theorem OpsAt.ltO {A : Nat → Prop} {w : World} {v : Value} {l : List Ob.Op} (h : OpsAt A w v l) : OpsAt (fun g => A g ∧ g < w.heap.size) w v l := by
  obtain ⟨p, cap, cs, hv, hh, hl, hc, hr⟩ := h
  refine ⟨p, cap, cs, hv, ?_, hl, hc, fun i o hi => by obtain ⟨e0, e1, e2, e3, ⟨u, hu, hn⟩, e5⟩ := hr i o hi; exact ⟨e0, e1, e2, e3, ⟨u, hu, hn.lt⟩, e5⟩⟩
  by_cases hne : 0 < cs.length
  · obtain ⟨g, off, hp, hA, hlt, hcell⟩ := hh.at hne
    exact .inr ⟨g, off, hp, ⟨hA, hlt⟩, hcell⟩
  · exact .inl (List.eq_nil_of_length_eq_zero (by omega))
/-- 's[:h]' of elements of any size -/
theorem slice_to3 {P : Program} (w : World) (t e size bytes : Nat) (z : Value) (ht : P.underlying t = some (.slice e)) (he : P.elem t = e) (hs : (P.info? e).map (fun i => (i.zero, i.size, i.bytes)) = some (some z, size, bytes)) (g off n c h : Nat) (hc : h ≤ c) :
    (Instr.sliceAt t (.slice (some ⟨g, off, none⟩) n c) none (some (.int .i64 (h : Int))) none).run P w = .ok (.slice (some ⟨g, off, none⟩) h c) w := by
  have ht2 : P.underlying t = some (.slice (P.elem t)) := by rw [he]; exact ht
  obtain ⟨i, hi, hz, hsize, hby⟩ := info_parts hs
  rw [run_sliceAt_slice w t _ _ _ _ ht2, run_slice_h w t _ n c ht2 .i64 h (by omega) (by omega), he]
  have h2 : (sizeOf e).run P w = .ok size w := by simp [sizeOf, typeInfo, hi, hsize]
  rw [h2]
  simp only [Result.andThen, sliced, Int.toNat_natCast]
  have : (if c = 0 then some (⟨g, off, none⟩ : Addr) else (some (⟨g, off, none⟩ : Addr)).map (·.add (0 * size))) = some ⟨g, off, none⟩ := by
    split
    · rfl
    · simp [Addr.add]
  rw [this]
  rfl
theorem wf_small {n : Int} (h0 : -1 ≤ n) (h1 : n ≤ 1000) : Ob.wf n := ⟨by omega, by omega⟩
/-- operations copied into a row of the call's own -/
theorem ops_copied {A : Nat → Prop} {w : World} {p : Option Addr} {n cap : Nat} {ops : List Ob.Op} (h : OpsAt A w (.slice p n cap) ops) :
    ∃ cs, Src Try.prog 6 22 (.slice p n cap) n cs w ∧ ∀ (v' : Value) (w' : World), w'.ownsRow w.heap.size 41 6 v' n cs → Agree (· < w.heap.size) w w' → OpsIn (fun g => A g ∧ g < w.heap.size) w' w.heap.size v' ops := by
  obtain ⟨p', cap', cs, hv, hh, hl, hc, hr⟩ := h
  simp only [Value.slice.injEq] at hv
  obtain ⟨rfl, rfl, rfl⟩ := hv
  refine ⟨cs, Holds.src (e' := 41) Try.underlying22 hh hl (by decide) fun c hcm => ?_, fun v' w' ho hk => ⟨cs, ho, fun i o hi => ?_⟩⟩
  · obtain ⟨q, hq6⟩ := List.getElem?_of_mem hcm
    have hq := (List.getElem?_eq_some_iff.1 hq6).1
    have hi : q / 6 < ops.length := by omega
    obtain ⟨e0, e1, e2, e3, ⟨u, e4, hu⟩, e5⟩ := hr (q / 6) ops[q / 6] (List.getElem?_eq_getElem hi)
    have h6 : q % 6 = 0 ∨ q % 6 = 1 ∨ q % 6 = 2 ∨ q % 6 = 3 ∨ q % 6 = 4 ∨ q % 6 = 5 := by omega
    rcases h6 with h | h | h | h | h | h
    · rw [show q = q / 6 * 6 by omega, e0] at hq6; cases hq6; rfl
    · rw [show q = q / 6 * 6 + 1 by omega, e1] at hq6; cases hq6; rfl
    · rw [show q = q / 6 * 6 + 2 by omega, e2] at hq6; cases hq6; rfl
    · rw [show q = q / 6 * 6 + 3 by omega, e3] at hq6; cases hq6; rfl
    · rw [show q = q / 6 * 6 + 4 by omega, e4] at hq6; cases hq6; exact hu.one
    · rw [show q = q / 6 * 6 + 5 by omega, e5] at hq6; cases hq6; rfl
  · obtain ⟨e0, e1, e2, e3, ⟨u, e4, hu⟩, e5⟩ := hr i o hi
    exact ⟨e0, e1, e2, e3, ⟨u, e4, (hu.lt.keep (hk.mono fun g hg => hg.2)).mono fun g hg => ⟨hg, fun e => by have := (ho.lt g e.symm).1; have := hg.2; omega⟩⟩, e5⟩
/-- one cell of an operation stored anew -/
theorem OpsIn.put1 {A : Nat → Prop} {w : World} {base g n cap : Nat} {l : List Ob.Op} {o o' : Ob.Op} (h : OpsIn A w base (.slice (some ⟨g, 0, none⟩) n cap) l) {i : Nat} (hi : l[i]? = some o) (t : Nat) (ht : t < 6) (x : Value)
    (hf : ∀ u, NRow (fun b => A b ∧ some b ≠ (Value.slice (some ⟨g, 0, none⟩) n cap).ownBlock) w u o.list → ∃ u', ([.int .i64 o.kind, .int .i64 o.a, .int .i64 o.b, .int .i64 o.c, u, .string ⟨o.sym.toArray⟩] : List Value).set t x = [.int .i64 o'.kind, .int .i64 o'.a, .int .i64 o'.b, .int .i64 o'.c, u', .string ⟨o'.sym.toArray⟩] ∧ NRow (fun b => A b ∧ some b ≠ (Value.slice (some ⟨g, 0, none⟩) n cap).ownBlock) w u' o'.list) :
    OpsIn A (w.setCell ⟨g, i * 6 + t, none⟩ x) base (.slice (some ⟨g, 0, none⟩) n cap) (l.set i o') := by
  obtain ⟨cs, h1, h2⟩ := h
  have hn : n = l.length := by
    rcases h1.2 with ⟨hv, _⟩ | ⟨g', cap', cur, hv, _⟩
    · cases hv
    · simp only [Value.slice.injEq] at hv; exact hv.2.1
  subst hn
  have hl : cs.length = l.length * 6 := h1.1
  have hil := (List.getElem?_eq_some_iff.1 hi).1
  have o1 := ownsRow_set h1 (i * 6 + t) x (by omega)
  have hag : Agree (· ≠ g) w (w.setCell ⟨g, i * 6 + t, none⟩ x) := agree_at w g _ x
  have hkn : ∀ {u : Value} {y : List Int}, NRow (fun b => A b ∧ some b ≠ (Value.slice (some ⟨g, 0, none⟩) l.length cap).ownBlock) w u y → NRow (fun b => A b ∧ some b ≠ (Value.slice (some ⟨g, 0, none⟩) l.length cap).ownBlock) (w.setCell ⟨g, i * 6 + t, none⟩ x) u y := fun hu =>
    hu.keep (hag.mono fun b hb e => hb.2 (by rw [e]; rfl))
  refine ⟨_, by rw [List.length_set]; exact o1, fun q y hy => ?_⟩
  by_cases hqi : q = i
  · subst hqi
    rw [List.getElem?_set_self hil] at hy
    cases hy
    obtain ⟨e0, e1, e2, e3, ⟨u, e4, hu⟩, e5⟩ := h2 q o hi
    obtain ⟨u', hset, hu'⟩ := hf u hu
    have key : ∀ j, j < 6 → (cs.set (q * 6 + t) x)[q * 6 + j]? = ([.int .i64 o'.kind, .int .i64 o'.a, .int .i64 o'.b, .int .i64 o'.c, u', .string ⟨o'.sym.toArray⟩] : List Value)[j]? := fun j hj => by
      rw [← hset]
      by_cases hjt : j = t
      · subst hjt
        rw [List.getElem?_set_self (by omega), List.getElem?_set_self (by simpa using hj)]
      · rw [List.getElem?_set_ne (by omega), List.getElem?_set_ne (by omega)]
        match j, hj with
        | 0, _ => exact e0
        | 1, _ => exact e1
        | 2, _ => exact e2
        | 3, _ => exact e3
        | 4, _ => exact e4
        | 5, _ => exact e5
    exact ⟨key 0 (by decide), key 1 (by decide), key 2 (by decide), key 3 (by decide), ⟨u', key 4 (by decide), hkn hu'⟩, key 5 (by decide)⟩
  · rw [List.getElem?_set_ne (by omega)] at hy
    obtain ⟨e0, e1, e2, e3, ⟨u, e4, hu⟩, e5⟩ := h2 q y hy
    have no : ∀ j, j < 6 → (cs.set (i * 6 + t) x)[q * 6 + j]? = cs[q * 6 + j]? := fun j hj => List.getElem?_set_ne (by omega)
    exact ⟨(no 0 (by decide)).trans e0, (no 1 (by decide)).trans e1, (no 2 (by decide)).trans e2, (no 3 (by decide)).trans e3, ⟨u, (no 4 (by decide)).trans e4, hkn hu⟩, (no 5 (by decide)).trans e5⟩
/-- the cells of an operation in a row of the call's own -/
theorem OpsIn.at1 {A : Nat → Prop} {w : World} {base g n cap : Nat} {l : List Ob.Op} {o : Ob.Op} (h : OpsIn A w base (.slice (some ⟨g, 0, none⟩) n cap) l) {i : Nat} (hi : l[i]? = some o) :
    ∃ u, w.cell? ⟨g, i * 6, none⟩ = some (.int .i64 o.kind) ∧ w.cell? ⟨g, i * 6 + 1, none⟩ = some (.int .i64 o.a) ∧ w.cell? ⟨g, i * 6 + 2, none⟩ = some (.int .i64 o.b) ∧ w.cell? ⟨g, i * 6 + 3, none⟩ = some (.int .i64 o.c) ∧ w.cell? ⟨g, i * 6 + 4, none⟩ = some u ∧ NRow (fun b => A b ∧ some b ≠ (Value.slice (some ⟨g, 0, none⟩) n cap).ownBlock) w u o.list ∧
      (∀ t, t < 6 → w.frozen? ⟨g, i * 6 + t, none⟩ = false) ∧ g < w.heap.size ∧ base ≤ g := by
  obtain ⟨cs, h1, h2⟩ := h
  have hl : cs.length = l.length * 6 := h1.1
  have hil := (List.getElem?_eq_some_iff.1 hi).1
  obtain ⟨g', cap', e, hb, hg, hr, _⟩ := ownsRow_row h1 (by omega)
  simp only [Value.slice.injEq, Option.some.injEq, Addr.mk.injEq, and_true] at e
  obtain ⟨rfl, _, _⟩ := e
  obtain ⟨e0, e1, e2, e3, ⟨u, e4, hu⟩, e5⟩ := h2 i o hi
  exact ⟨u, hr.cell e0, hr.cell e1, hr.cell e2, hr.cell e3, hr.cell e4, hu, fun t ht => by
    have := hr.2 (i * 6 + t) (by omega)
    simpa using this, hg, hb⟩
/-- a row cut short is still a row that can be read -/
theorem OpsIn.cut {A : Nat → Prop} {w : World} {base g n cap : Nat} {l : List Ob.Op} (h : OpsIn A w base (.slice (some ⟨g, 0, none⟩) n cap) l) {k : Nat} (hk : k ≤ l.length) : OpsAt (fun b => A b ∨ base ≤ b) w (.slice (some ⟨g, 0, none⟩) k cap) (l.take k) := by
  obtain ⟨cs, h1, h2⟩ := h
  obtain ⟨p, c, hv, hh, hc⟩ := ownsRow_holds3 h1
  simp only [Value.slice.injEq] at hv
  obtain ⟨rfl, rfl, rfl⟩ := hv
  have hl : cs.length = l.length * 6 := h1.1
  have hlk : (l.take k).length = k := by rw [List.length_take]; omega
  refine ⟨some ⟨g, 0, none⟩, cap, cs.take (k * 6), by rw [hlk], ?_, by rw [hlk, List.length_take]; omega, by omega, fun i o hi => ?_⟩
  · have := (hh.part 0 (k * 6)).mono (B := fun b => A b ∨ base ≤ b) fun b hb => .inr hb.2
    simpa using this
  · have hik : i < k := by have := (List.getElem?_eq_some_iff.1 hi).1; omega
    rw [List.getElem?_take_of_lt hik] at hi
    obtain ⟨e0, e1, e2, e3, ⟨u, e4, hu⟩, e5⟩ := h2 i o hi
    have tk : ∀ j, j < 6 → (cs.take (k * 6))[i * 6 + j]? = cs[i * 6 + j]? := fun j hj => List.getElem?_take_of_lt (by omega)
    exact ⟨(tk 0 (by decide)).trans e0, (tk 1 (by decide)).trans e1, (tk 2 (by decide)).trans e2, (tk 3 (by decide)).trans e3, ⟨u, (tk 4 (by decide)).trans e4, hu.mono fun b hb => .inl hb.1⟩, (tk 5 (by decide)).trans e5⟩
theorem OpsIn.all' {A : Nat → Prop} {w : World} {base : Nat} {v : Value} {l : List Ob.Op} (h : OpsIn A w base v l) : OpsAt (fun b => A b ∨ base ≤ b) w v l := by
  obtain ⟨cs, h1, h2⟩ := h
  obtain ⟨p, c, hv, hh, hc⟩ := ownsRow_holds3 h1
  exact ⟨p, c, cs, hv, hh.mono fun g hg => .inr hg.2, h1.1, hc, fun i o hi => by
    obtain ⟨e0, e1, e2, e3, ⟨u, hu, hn⟩, e5⟩ := h2 i o hi
    exact ⟨e0, e1, e2, e3, ⟨u, hu, hn.mono fun g hg => .inl hg.1⟩, e5⟩⟩
end Go.Proofs.Ythjfahimfcadnaa
/- Dice of recompilemade: numbers that are given out one after the other. -/
namespace Go.Proofs.Ythjfahimfcadnaa
open Go.ChangeShapes Go.WideShapes Go.RowKit

/-- a slice of ints -/
def IntsAt (A : Nat → Prop) (w : World) (tv : Value) (ts : List Int) : Prop := ∃ p cap, tv = .slice p ts.length cap ∧ Holds A w p (ts.map (.int .i64)) ∧ ts.length ≤ 400 ∧ ∀ n ∈ ts, (Lit.int .i64 n).wf = true
theorem IntsAt.keep {A : Nat → Prop} {w w' : World} {tv : Value} {ts : List Int} (h : IntsAt A w tv ts) (hk : Agree A w w') : IntsAt A w' tv ts := by
  obtain ⟨p, cap, hv, hh, r⟩ := h; exact ⟨p, cap, hv, hh.keep hk, r⟩
theorem IntsAt.mono {A B : Nat → Prop} {w : World} {tv : Value} {ts : List Int} (h : IntsAt A w tv ts) (hk : ∀ g, A g → B g) : IntsAt B w tv ts := by
  obtain ⟨p, cap, hv, hh, r⟩ := h; exact ⟨p, cap, hv, hh.mono hk, r⟩

/-- dice in block gd -/
def DiceAt (gd : Nat) (tv : Value) (ts : List Int) (w : World) : Prop := ∃ a : Nat, a ≤ ts.length ∧ Blk w gd [tv, .int .i64 a]
theorem DiceAt.lt {gd : Nat} {tv : Value} {ts : List Int} {w : World} (h : DiceAt gd tv ts w) : gd < w.heap.size := by obtain ⟨a, _, hb⟩ := h; exact hb.lt

/-- only the dice have changed, and are dice yet; memory may have been made -/
structure DR (gd : Nat) (tv : Value) (ts : List Int) (w w' : World) : Prop where
  os : w'.os = w.os
  tape : w'.tape = w.tape
  output : w'.output = w.output
  size : w.heap.size ≤ w'.heap.size
  block : ∀ k, k ≠ gd → k < w.heap.size → w'.heap[k]? = w.heap[k]?
  dice : DiceAt gd tv ts w → DiceAt gd tv ts w'

theorem DR.refl {gd : Nat} {tv : Value} {ts : List Int} (w : World) : DR gd tv ts w w := ⟨rfl, rfl, rfl, Nat.le_refl _, fun _ _ _ => rfl, id⟩
theorem DR.trans {gd : Nat} {tv : Value} {ts : List Int} {a b c : World} (h : DR gd tv ts a b) (k : DR gd tv ts b c) : DR gd tv ts a c :=
  ⟨k.os.trans h.os, k.tape.trans h.tape, k.output.trans h.output, Nat.le_trans h.size k.size, fun g hg hlt => (k.block g hg (Nat.lt_of_lt_of_le hlt h.size)).trans (h.block g hg hlt), fun hd => k.dice (h.dice hd)⟩
theorem DR.agree {gd : Nat} {tv : Value} {ts : List Int} {w w' : World} (h : DR gd tv ts w w') : Agree (· ≠ gd) w w' := fun g hg hlt => h.block g hg hlt
theorem DR.of_below {gd : Nat} {tv : Value} {ts : List Int} {w w' : World} (h : Below w.heap.size w w') : DR gd tv ts w w' :=
  ⟨h.os, h.tape, h.output, h.size, fun g _ hlt => h.block g hlt, fun ⟨a, ha, hb⟩ => ⟨a, ha, hb.call h⟩⟩
theorem DR.below {gd : Nat} {tv : Value} {ts : List Int} {w w' : World} (h : DR gd tv ts w w') (hg : gd < w.heap.size) {B : Nat} (hB : B ≤ gd) : Below B w w' :=
  ⟨h.os, h.tape, h.output, h.size, fun k hk => h.block k (by omega) (by omega)⟩
theorem dr_steps (gd : Nat) (tv : Value) (ts : List Int) : Lx.Steps (DR gd tv ts) :=
  ⟨fun w => DR.refl w, fun h k => h.trans k, fun w => DR.of_below (Below.refl _ w).drew⟩
theorem DR.set {gd : Nat} {tv : Value} {ts : List Int} {w : World} (p : Addr) (v : Value) (hp : p.block ≠ gd) {w0 : World} (h : DR gd tv ts w0 w) (hnew : w0.heap.size ≤ p.block) : DR gd tv ts w0 (w.setCell p v) := by
  refine ⟨h.os, h.tape, h.output, by simpa [World.setCell] using h.size, fun k hk hlt => ?_, fun hd => ?_⟩
  · rw [Below.heap_setCell _ _ _ _ (by omega)]; exact h.block k hk hlt
  · obtain ⟨a, ha, hb⟩ := h.dice hd
    exact ⟨a, ha, hb.other p v hp⟩

theorem DR.next {gd : Nat} {tv : Value} {ts : List Int} {w : World} {a : Nat} (h : Blk w gd [tv, .int .i64 a]) (ha : a + 1 ≤ ts.length) : DR gd tv ts w (w.setCell ⟨gd, 1, none⟩ (.int .i64 ((a : Int) + 1))) := by
  refine ⟨rfl, rfl, rfl, by simp [World.setCell], fun k hk hlt => Below.heap_setCell _ _ _ _ hk, fun _ => ⟨a + 1, ha, ?_⟩⟩
  have := h.set 1 (.int .i64 ((a : Int) + 1)) (by simp)
  simpa using this

theorem DR.of_any {gd : Nat} {tv : Value} {ts : List Int} {a b c : World} (h : DR gd tv ts a b) (k : DR gd tv ts b c) : DR gd tv ts a c := h.trans k

/-- what a region with dice keeps -/
def DS (gd : Nat) (tv : Value) (ts : List Int) (w w' : World) : Prop :=
  (∀ b o, b ≠ gd → b < w.heap.size → w'.cell? ⟨b, o, none⟩ = w.cell? ⟨b, o, none⟩) ∧ (∀ b o, b ≠ gd → b < w.heap.size → w'.frozen? ⟨b, o, none⟩ = w.frozen? ⟨b, o, none⟩) ∧ DR gd tv ts w w'
theorem DS.of {gd : Nat} {tv : Value} {ts : List Int} {w w' : World} (h : DR gd tv ts w w') : DS gd tv ts w w' :=
  ⟨fun b o hb hlt => World.cell?_of_block (w := w) (h.block b hb hlt), fun b o hb hlt => World.frozen?_of_block (w := w) (h.block b hb hlt), h⟩
theorem DS.step {gd : Nat} {tv : Value} {ts : List Int} {w w1 w2 : World} (h : DS gd tv ts w w1) (k : DR gd tv ts w1 w2) : DS gd tv ts w w2 := DS.of (h.2.2.trans k)

theorem mod_below (n m : Int) (w : World) (hn : (Lit.int .i64 n).wf = true) (h0 : 1 ≤ m) (h1 : m ≤ 4611686018427387903) :
    Calls Try.prog 23 #[.int .i64 n, .int .i64 m] w fun e w' => e = .returned (.int .i64 (n % m)) ∧ Below w.heap.size w w' :=
  (mmod_any n m w hn h0 h1).mono fun e w' ⟨he, hw⟩ => ⟨he, by rw [← hw]; exact Below.refl _ _⟩

set_option maxRecDepth 100000 in
set_option maxHeartbeats 800000 in
theorem next_any (gd : Nat) (tv : Value) (ts : List Int) (n : Int) (w : World) (hd : DiceAt gd tv ts w) (ht : IntsAt (· ≠ gd) w tv ts) (h1 : 1 ≤ n) (h2 : n ≤ 4611686018427387903) :
    Calls Try.prog 20 #[.pointer (some ⟨gd, 0, none⟩), .int .i64 n] w fun e w' => ∃ k : Int, e = .returned (.int .i64 k) ∧ 0 ≤ k ∧ k < n ∧ DR gd tv ts w w' := by
  obtain ⟨a, ha, hb⟩ := hd
  obtain ⟨p, cap, rfl, hh, hl, hwf⟩ := ht
  obtain ⟨l, hl2⟩ : ∃ l, ts.length = l := ⟨_, rfl⟩
  rw [hl2] at ha hl hb
  rw [hl2]
  have Hl := Lib.hid hl2
  have Hh := Lib.hid hh
  have Hwf := Lib.hid hwf
  have HB := Lib.hid hb
  have H2 := Lib.hid h2
  have H1 := Lib.hid h1
  clear hl2 hh hwf h2
  have c0 := hb.cells 0
  have c1 := hb.cells 1
  have f1 := hb.frozen 1
  have z := hb.lt
  simp only [List.getElem?_cons_zero, List.getElem?_cons_succ] at c0 c1
  clear hb
  by_cases hal : a < l
  · have hd : decide (l ≤ a) = false := by simp; omega
    have ha400 : a < 400 := by omega
    have hat : a < ts.length := by rw [Hl.out]; exact hal
    obtain ⟨g, off, rfl, hA, hg, hc⟩ := Hh.out.at (by rw [List.length_map, Hl.out]; omega)
    have hca : w.cell? ⟨g, off + a, none⟩ = some (.int .i64 ts[a]) := hc a _ (by rw [List.getElem?_map, List.getElem?_eq_getElem hat]; rfl)
    have hw := Hwf.out _ (List.getElem_mem hat)
    obtain ⟨x, hx⟩ : ∃ x, ts[a] = x := ⟨_, rfl⟩
    rw [hx] at hca hw
    clear hx hc h1
    have Hw := Lib.hid hw
    clear hw
    go_enter Try.func20, Try.ntmps20
    go_upto_region 1 with fail
    refine Lx.region Lx.below_steps [(0, true), (1, true), (2, true), (3, true), (4, true), (5, true), (6, true), (7, true), (8, true)] [(9, false)] (fun w' => (∀ b o, b < w.heap.size → w'.cell? ⟨b, o, none⟩ = w.cell? ⟨b, o, none⟩) ∧ (∀ b o, b < w.heap.size → w'.frozen? ⟨b, o, none⟩ = w.frozen? ⟨b, o, none⟩) ∧ Below w.heap.size w w') (by kernel_rfl) (by kernel_rfl) (fun _ _ _ _ _ h => h) (fun _ h => held_below h) (fun _ _ h hb => held_call h hb) ?_; intro xa hbxa; replace hbxa : Below w.heap.size w xa := hbxa; simp only [Lx.pick, List.filterMap_cons, List.filterMap_nil, List.getElem?_cons_succ, List.getElem?_cons_zero, List.map_cons, List.map_nil]; have hSxa := held_below hbxa
    repeat (first | (refine Lx.takeY ?_ (by rfl) ?_ (by assumption) ?_; rotate_left; (focus (intro w' hSw; (try dsimp only at hSw); go_simp; (try with_reducible rfl))); simp only [Act.put, List.setIfInBounds_toArray, List.set_cons_zero, List.set_cons_succ]) | (refine Lx.takeN (by rfl) (by assumption) ?_; simp only [Act.put, List.setIfInBounds_toArray, List.set_cons_zero, List.set_cons_succ]))
    refine Lx.tail ?_
    have c0a := cell_keep hbxa c0
    have c1a := cell_keep hbxa c1
    have f1a : xa.frozen? ⟨gd, 1, none⟩ = false := by rw [hbxa.frozen (p := ⟨gd, 1, none⟩) z]; exact f1
    have za : gd < xa.heap.size := Nat.lt_of_lt_of_le z hbxa.size
    have hcaa := cell_keep hbxa hca
    have HBa := Lib.hid (HB.out.call hbxa)
    have Hca := Lib.hid hcaa
    have Hba := Lib.hid hbxa
    clear c0 c1 f1 hca hSxa hbxa
    go_upto_region 4 with fail
    clear c0a c1a f1a za hcaa
    have hst := DR.next (ts := ts) HBa.out (by rw [Hl.out]; exact hal)
    have hbs := HBa.out.set 1 (.int .i64 ((a : Int) + 1)) (by simp)
    have hcs := HBa.out.lt
    have hca2 : (xa.setCell ⟨gd, 1, none⟩ (.int .i64 ((a : Int) + 1))).cell? ⟨g, off + a, none⟩ = some (.int .i64 x) := by
      rw [World.cell?_setCell_other (h := fun e => by injection e with e1; exact hA e1.symm)]; exact Hca.out
    simp only [List.set_cons_zero, List.set_cons_succ] at hbs
    have hsz : (xa.setCell ⟨gd, 1, none⟩ (.int .i64 ((a : Int) + 1))).heap.size = xa.heap.size := by simp [World.setCell]
    generalize xa.setCell ⟨gd, 1, none⟩ (.int .i64 ((a : Int) + 1)) = wb at *
    have c0 := hbs.cells 0
    have c1 := hbs.cells 1
    have zb := hbs.lt
    have zg : g < wb.heap.size := by rw [hsz]; exact Nat.lt_of_lt_of_le hg Hba.out.size
    have Hst := Lib.hid hst
    simp only [List.getElem?_cons_zero, List.getElem?_cons_succ] at c0 c1
    have hwr : IntKind.i64.wrap (a : Int) = (a : Int) := by rw [IntKind.wrap_i64]; omega
    have hwr0 : (0 : Int) ≤ (a : Int) := by omega
    clear hst hbs hcs hsz
    refine Lx.region Lx.below_steps [(0, true), (1, true), (2, true), (3, true), (4, true), (5, true), (6, true), (7, true), (8, true), (9, true), (10, true), (11, true), (12, false)] [(13, false)] (fun w' => (∀ b o, b < wb.heap.size → w'.cell? ⟨b, o, none⟩ = wb.cell? ⟨b, o, none⟩) ∧ (∀ b o, b < wb.heap.size → w'.frozen? ⟨b, o, none⟩ = wb.frozen? ⟨b, o, none⟩) ∧ Below wb.heap.size wb w') (by kernel_rfl) (by kernel_rfl) (fun _ _ _ _ _ h => h) (fun _ h => held_below h) (fun _ _ h hb => held_call h hb) ?_; intro xb hbxb; replace hbxb : Below wb.heap.size wb xb := hbxb; simp only [Lx.pick, List.filterMap_cons, List.filterMap_nil, List.getElem?_cons_succ, List.getElem?_cons_zero, List.map_cons, List.map_nil]; have hSxb := held_below hbxb
    repeat (first | (refine Lx.takeY ?_ (by rfl) ?_ (by assumption) ?_; rotate_left; (focus (intro w' hSw; (try dsimp only at hSw); go_simp; (try with_reducible rfl))); simp only [Act.put, List.setIfInBounds_toArray, List.set_cons_zero, List.set_cons_succ]) | (refine Lx.takeN (by rfl) (by assumption) ?_; simp only [Act.put, List.setIfInBounds_toArray, List.set_cons_zero, List.set_cons_succ]))
    clear hwr hwr0
    refine Lx.go ?_; intro K hK; go_simp; go_at_call 23; refine (mod_below x n _ Hw.out H1.out H2.out).mono ?_; rintro e w0xc ⟨rfl, hb0xc⟩; refine hK _ _ hb0xc ?_; clear hK K; intro wxc hbxc; replace hbxc : Below w0xc.heap.size w0xc wxc := hbxc; have hSxc := held_call (held_call hSxb hb0xc) hbxc; try simp only [Act.put, List.setIfInBounds_toArray, List.set_cons_zero, List.set_cons_succ]
    have hall := ext_trans hbxb (ext_trans hb0xc hbxc)
    have HD := Lib.hid (((DR.of_below Hba.out).trans Hst.out).trans (DR.of_below hall))
    clear hall hSxb hSxc hb0xc hbxc hbxb c0 c1 zb zg hca2
    refine Lx.tail ?_
    go_wp2_with fail
    go_ret
    have hn := H1.out
    exact ⟨_, rfl, Int.emod_nonneg _ (by omega), Int.emod_lt_of_pos _ (by omega), HD.out⟩
  · have hd : decide (l ≤ a) = true := by simp; omega
    go_enter Try.func20, Try.ntmps20
    go_upto_region 1 with fail
    refine Lx.region Lx.below_steps [(0, true), (1, true), (2, true), (3, true), (4, true), (5, true), (6, true), (7, true), (8, true)] [(9, false)] (fun w' => (∀ b o, b < w.heap.size → w'.cell? ⟨b, o, none⟩ = w.cell? ⟨b, o, none⟩) ∧ (∀ b o, b < w.heap.size → w'.frozen? ⟨b, o, none⟩ = w.frozen? ⟨b, o, none⟩) ∧ Below w.heap.size w w') (by kernel_rfl) (by kernel_rfl) (fun _ _ _ _ _ h => h) (fun _ h => held_below h) (fun _ _ h hb => held_call h hb) ?_; intro xa hbxa; replace hbxa : Below w.heap.size w xa := hbxa; simp only [Lx.pick, List.filterMap_cons, List.filterMap_nil, List.getElem?_cons_succ, List.getElem?_cons_zero, List.map_cons, List.map_nil]; have hSxa := held_below hbxa
    repeat (first | (refine Lx.takeY ?_ (by rfl) ?_ (by assumption) ?_; rotate_left; (focus (intro w' hSw; (try dsimp only at hSw); go_simp; (try with_reducible rfl))); simp only [Act.put, List.setIfInBounds_toArray, List.set_cons_zero, List.set_cons_succ]) | (refine Lx.takeN (by rfl) (by assumption) ?_; simp only [Act.put, List.setIfInBounds_toArray, List.set_cons_zero, List.set_cons_succ]))
    have HD := Lib.hid (DR.of_below (gd := gd) (tv := .slice p l cap) (ts := ts) hbxa)
    clear hSxa hbxa c0 c1 f1
    refine Lx.tail ?_
    go_wp2_with fail
    go_ret
    have hn := H1.out
    exact ⟨_, rfl, Int.le_refl _, by omega, HD.out⟩

theorem roll_any (tv : Value) (ts : List Int) (w : World) (ht : ∃ p cap, tv = .slice p ts.length cap) :
    Calls Try.prog 18 #[tv] w fun e w' => ∃ gd, e = .returned (.pointer (some ⟨gd, 0, none⟩)) ∧ Below w.heap.size w w' ∧ w.heap.size ≤ gd ∧ DiceAt gd tv ts w' := by
  obtain ⟨p, cap, rfl⟩ := ht
  go_enter Try.func18, Try.ntmps18
  go_wp2_with fail
  go_ret
  exact ⟨_, rfl, ext_alloc (ext_refl w) _, Nat.le_refl _, 0, Nat.zero_le _, Blk.new w [_, _] _⟩

theorem light_any (tv : Value) (n : Nat) (w : World) (ht : ∃ p cap, tv = .slice p n cap) :
    Calls Try.prog 17 #[tv] w fun e w' => e = .returned (.bool (decide (n ≤ 400))) ∧ w = w' := by
  obtain ⟨p, cap, rfl⟩ := ht
  go_enter Try.func17, Try.ntmps17
  go_wp2_with fail
  go_ret
  exact ⟨ret_bool (by rw [Bool.eq_iff_iff]; simp; omega), rfl⟩
end Go.Proofs.Ythjfahimfcadnaa
