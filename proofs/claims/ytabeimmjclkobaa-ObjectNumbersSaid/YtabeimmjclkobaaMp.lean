/- Maps with keys that are strings, whatever their values: what lies at each key. -/
import Derived.Maps.OwnSet
import Derived.Maps.OwnOps
import Derived.Test.YtabeimmjclkobaaRcP
import Derived.Test.YtabeimmjclkobaaSl
namespace Go.Proofs.Ytabeimmjclkobaa
open Go.ChangeShapes Go.WideShapes Go.RowKit Go.Maps

/-- a value reads as itself -/
def exactR (v : Value) : Option (DataW Value × List MemPlace) := some (.held v, [])
/-- a map with at most n entries: what lies at each key -/
def VMap (P : Program) (k : TypeId) (w : World) (b n : Nat) (f : Rc.Str → Option Value) : Prop :=
  ∃ D, w.ownsMap P k exactR b n D ∧ ∀ s, (∀ v, f s = some v → Maps.has D (.string s) = true ∧ ∀ z, D.atKey (.string s) z = .held v) ∧ (f s = none → Maps.has D (.string s) = false)

variable {P : Program} {k e t : TypeId} {w w' : World} {b n : Nat} {f : Rc.Str → Option Value}

theorem VMap.made (w : World) (P : Program) (k : TypeId) : VMap P k (w.alloc (.map #[] 0)) w.heap.size 0 fun _ => none :=
  ⟨_, World.ownsMap_made w P k exactR, fun s => ⟨fun v h => (by cases h), fun _ => rfl⟩⟩
theorem VMap.lt (h : VMap P k w b n f) : b < w.heap.size := by obtain ⟨D, h, _⟩ := h; exact h.lt
theorem VMap.mono (h : VMap P k w b n f) {m : Nat} (hm : n ≤ m) : VMap P k w b m f := by obtain ⟨D, h, k⟩ := h; exact ⟨D, h.mono hm, k⟩
theorem VMap.kept {row : Option Nat} (h : VMap P k w b n f) (hg : w.grownBy w' row) (hne : some b ≠ row) : VMap P k w' b n f := by
  obtain ⟨D, h, k⟩ := h; exact ⟨D, h.kept hg hne, k⟩
theorem VMap.keep {A : Nat → Prop} (h : VMap P k w b n f) (hk : Agree A w w') (_ : w.heap.size ≤ w'.heap.size) (hA : A b) : VMap P k w' b n f := by
  have hlt := h.lt
  obtain ⟨D, ⟨es, clock, hb, r⟩, k⟩ := h
  exact ⟨D, ⟨es, clock, (hk b hA hlt).trans hb, r⟩, k⟩
theorem VMap.call (h : VMap P k w b n f) (hb : Below w.heap.size w w') : VMap P k w' b n f := h.keep (A := fun g => g < w.heap.size) (agree_below hb) hb.size h.lt

/-- m[s], without ok -/
theorem VMap.look (h : VMap P k w b n f) (hk : P.underlying k = some .string) (ht : P.underlying t = some (.map k e)) {z : Value} (hz : (zeroValue e).run P w = .ok z w) {s : ByteArray} (hs : s.size ≤ maxLen) :
    (Instr.lookup t (.map (some b)) (.string s) false).run P w = .ok ((f s.data.toList).getD z) w := by
  obtain ⟨D, h, hf⟩ := h
  obtain ⟨v, ps, hrun, hv⟩ := h.lookup (string_keyed hk) ht hz (zd := .held z) (zp := []) rfl (WideMaps.keyOf_string_mk hk hs)
  rw [hrun]
  obtain ⟨h1, h2⟩ := hf s.data.toList
  simp only [exactR, Option.some.injEq, Prod.mk.injEq] at hv
  cases hfs : f s.data.toList with
  | none =>
    rw [atKey_of_not_has (h2 hfs)] at hv
    have := hv.1
    injection this with this
    rw [this]; rfl
  | some u =>
    rw [(h1 u hfs).2] at hv
    have := hv.1
    injection this with this
    rw [this]; rfl
/-- m[s], with ok -/
theorem VMap.look_ok (h : VMap P k w b n f) (hk : P.underlying k = some .string) (ht : P.underlying t = some (.map k e)) {z : Value} (hz : (zeroValue e).run P w = .ok z w) {s : ByteArray} (hs : s.size ≤ maxLen) :
    (Instr.lookup t (.map (some b)) (.string s) true).run P w = .ok (.tuple #[(f s.data.toList).getD z, .bool (f s.data.toList).isSome]) w := by
  obtain ⟨D, h, hf⟩ := h
  obtain ⟨v, ps, hrun, hv⟩ := h.look_ok (string_keyed hk) ht hz (zd := .held z) (zp := []) rfl (WideMaps.keyOf_string_mk hk hs)
  rw [hrun]
  obtain ⟨h1, h2⟩ := hf s.data.toList
  simp only [exactR, Option.some.injEq, Prod.mk.injEq] at hv
  cases hfs : f s.data.toList with
  | none =>
    rw [atKey_of_not_has (h2 hfs)] at hv
    have := hv.1
    injection this with this
    rw [this, h2 hfs]; rfl
  | some u =>
    rw [(h1 u hfs).2] at hv
    have := hv.1
    injection this with this
    rw [this, (h1 u hfs).1]; rfl
def upd (f : Rc.Str → Option Value) (s : Rc.Str) (v : Value) : Rc.Str → Option Value := fun x => if x = s then some v else f x
theorem lit_string_ne {a b : Rc.Str} (h : a ≠ b) : (Lit.string a) ≠ .string b := fun e => h (by injection e)
theorem isKey_string (s : Rc.Str) : WideAt.IsKeyLit (.string s) := by trivial
/-- m[s] = v -/
theorem VMap.update (h : VMap P k w b n f) (hk : P.underlying k = some .string) (ht : P.underlying t = some (.map k e)) (hn : n < maxLen) {s : ByteArray} (hs : s.size ≤ maxLen) (v : Value) :
    ∃ w', (Instr.mapUpdate t (.map (some b)) (.string s) v).run P w = .ok () w' ∧ VMap P k w' b (n + 1) (upd f s.data.toList v) ∧ w.grownBy w' (some b) := by
  obtain ⟨D, h, hf⟩ := h
  obtain ⟨w', hrun, hown, hg⟩ := h.update (string_keyed hk) ht hn (WideMaps.keyOf_string_mk hk hs) (val := v) (d := .held v) (ps := []) rfl
  have hm := h.isMap
  refine ⟨w', hrun, ⟨_, hown, fun x => ?_⟩, hg⟩
  obtain ⟨h1, h2⟩ := hf x
  unfold upd
  by_cases hx : x = s.data.toList
  · subst hx
    rw [if_pos rfl]
    refine ⟨fun u hu => ?_, fun hu => (by cases hu)⟩
    injection hu with hu
    subst hu
    exact ⟨has_put_same hm (isKey_string _) _, fun z => atKey_put_same hm (isKey_string _) _ _⟩
  · rw [if_neg hx, has_put_other (lit_string_ne hx)]
    refine ⟨fun u hu => ⟨(h1 u hu).1, fun z => ?_⟩, h2⟩
    rw [atKey_put_other (lit_string_ne hx)]
    exact (h1 u hu).2 z
/-- the same at the operation -/
theorem wpList_update {ops : Array Oper} {rest : List Oper} {o : Oper} {a : Act} {Q : Exit → Act → World → Prop}
    (hg : o.guard = none) (m x v : Operand) (t : TypeId) (hop : o.op = Op.mapUpdate t m x v) (hk : P.underlying k = some .string) (ht : P.underlying t = some (.map k e)) (hm : a.eval m = .map (some b))
    (h : VMap P k w b n f) (hn : n < maxLen) {s : ByteArray} {val : Value} (hx : a.eval x = .string s) (hv : a.eval v = val) (hs : s.size ≤ maxLen)
    (hK : ∀ w', VMap P k w' b (n + 1) (upd f s.data.toList val) → w.grownBy w' (some b) → wpList P ops Q rest (a.put o.dst undef) w') : wpList P ops Q (o :: rest) a w := by
  refine wpList_plain hg fun K' hK' => ?_
  obtain ⟨w', hrun, r1, r2⟩ := h.update hk ht hn hs val
  unfold Oper.wp
  simp [execOp, hop, hm, hx, hv, hrun, Result.andThen]
  exact hK' _ _ (hK w' r1 r2)
/-- the keys, sorted -/
theorem VMap.keys {D : DataW Value} (h : w.ownsMap P k exactR b n D) (hk : P.underlying k = some .string) (hf : ∀ s, (∀ v, f s = some v → Maps.has D (.string s) = true ∧ ∀ z, D.atKey (.string s) z = .held v) ∧ (f s = none → Maps.has D (.string s) = false)) {ss l : List Rc.Str} (hp : ss.Perm (strKeys D)) (hl : ∀ s, s ∈ l ↔ (f s).isSome = true) : ss.mergeSort leB = Rc.norm l := by
  obtain ⟨es, rfl, hks⟩ := h.keysOf
  have hks2 : ∀ p ∈ es, ∃ x, p.1 = Lit.string x := fun p hp => by
    obtain ⟨kv, hkv⟩ := hks p hp
    obtain ⟨x, _, hx, _⟩ := Maps.keyOf_str hk hkv
    exact ⟨x, hx⟩
  obtain ⟨es2, he, hpw⟩ := h.tidy (string_keyed hk)
  injection he with he
  subst he
  have hmem : ∀ s, s ∈ strKeys (DataW.map es) ↔ Maps.has (.map es) (.string s) = true := by
    intro s
    rw [has_eq, List.any_eq_true]
    show s ∈ es.map (fun p => strOf p.1) ↔ _
    rw [List.mem_map]
    constructor
    · rintro ⟨p, hp, rfl⟩
      obtain ⟨x, hx⟩ := hks2 p hp
      refine ⟨p, hp, ?_⟩
      rw [hx]
      exact WideAt.sameKey_self (isKey_string x)
    · rintro ⟨p, hp, hs⟩
      refine ⟨p, hp, ?_⟩
      rw [WideAt.sameKey_eq hs]; rfl
  have hnd : (strKeys (DataW.map es)).Nodup := by
    show (es.map fun p => strOf p.1).Nodup
    refine List.pairwise_map.2 (hpw.imp_of_mem fun {p q} hp' hq' hne e => hne ?_)
    obtain ⟨x, hx⟩ := hks2 p hp'
    obtain ⟨y, hy⟩ := hks2 q hq'
    rw [hx, hy] at e ⊢
    exact congrArg _ e
  refine Rc.norm_of (hp.nodup_iff.2 hnd) fun x => ?_
  rw [hp.mem_iff, hmem, hl]
  obtain ⟨h1, h2⟩ := hf x
  cases hfx : f x with
  | none => simp [h2 hfx]
  | some v => simp [(h1 v hfx).1]
end Go.Proofs.Ytabeimmjclkobaa
