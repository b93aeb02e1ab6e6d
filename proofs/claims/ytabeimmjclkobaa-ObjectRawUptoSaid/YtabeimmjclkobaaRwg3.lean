import Derived.Maps.OwnSet
import Derived.Maps.OwnOps
import Derived.Test.YtabeimmjclkobaaRwg0
import Derived.Test.YtabeimmjclkobaaRwg2
import Derived.Shelf.SlIter.Nil
import Derived.Shelf.SortM.Plain
import Derived.Shelf.SortM.SortNone
/- Maps with keys that are strings, whatever their values: what lies at each key. -/
namespace Go.Proofs.Ytabeimmjclkobaa
open Go.ChangeShapes Go.WideShapes Go.RowKit Go.Maps

/-- a value reads as itself -/
def exactR (v : Value) : Option (DataW Value × List MemPlace) := some (.held v, [])
/-- a map with at most n entries: what lies at each key -/
def VMap (P : Program) (k : TypeId) (w : World) (b n : Nat) (f : Rc.Str → Option Value) : Prop :=
  ∃ D, w.ownsMap P k exactR b n D ∧ ∀ s, (∀ v, f s = some v → Maps.has D (.string s) = true ∧ ∀ z, D.atKey (.string s) z = .held v) ∧ (f s = none → Maps.has D (.string s) = false)

variable {P : Program} {k e t : TypeId} {w w' : World} {b n : Nat} {f : Rc.Str → Option Value}

theorem VMap.made (w : World) (P : Program) (k : TypeId) : VMap P k (w.alloc (.map #[] 0)) w.heap.size 0 fun _ => none :=
  ⟨_, World.ownsMap_made w P k exactR, fun s => ⟨fun v h => (by cases h), fun _ => rfl⟩⟩
theorem VMap.lt (h : VMap P k w b n f) : b < w.heap.size := by obtain ⟨D, h, _⟩ := h; exact h.lt
theorem VMap.mono (h : VMap P k w b n f) {m : Nat} (hm : n ≤ m) : VMap P k w b m f := by obtain ⟨D, h, k⟩ := h; exact ⟨D, h.mono hm, k⟩
theorem VMap.kept {row : Option Nat} (h : VMap P k w b n f) (hg : w.grownBy w' row) (hne : some b ≠ row) : VMap P k w' b n f := by
  obtain ⟨D, h, k⟩ := h; exact ⟨D, h.kept hg hne, k⟩
theorem VMap.keep {A : Nat → Prop} (h : VMap P k w b n f) (hk : Agree A w w') (_ : w.heap.size ≤ w'.heap.size) (hA : A b) : VMap P k w' b n f := by
  have hlt := h.lt
  obtain ⟨D, ⟨es, clock, hb, r⟩, k⟩ := h
  exact ⟨D, ⟨es, clock, (hk b hA hlt).trans hb, r⟩, k⟩
theorem VMap.call (h : VMap P k w b n f) (hb : Below w.heap.size w w') : VMap P k w' b n f := h.keep (A := fun g => g < w.heap.size) (agree_below hb) hb.size h.lt

/-- m[s], without ok -/
theorem VMap.look (h : VMap P k w b n f) (hk : P.underlying k = some .string) (ht : P.underlying t = some (.map k e)) {z : Value} (hz : (zeroValue e).run P w = .ok z w) {s : ByteArray} (hs : s.size ≤ maxLen) :
    (Instr.lookup t (.map (some b)) (.string s) false).run P w = .ok ((f s.data.toList).getD z) w := by
  obtain ⟨D, h, hf⟩ := h
  obtain ⟨v, ps, hrun, hv⟩ := h.lookup (string_keyed hk) ht hz (zd := .held z) (zp := []) rfl (WideMaps.keyOf_string_mk hk hs)
  rw [hrun]
  obtain ⟨h1, h2⟩ := hf s.data.toList
  simp only [exactR, Option.some.injEq, Prod.mk.injEq] at hv
  cases hfs : f s.data.toList with
  | none =>
    rw [atKey_of_not_has (h2 hfs)] at hv
    have := hv.1
    injection this with this
    rw [this]; rfl
  | some u =>
    rw [(h1 u hfs).2] at hv
    have := hv.1
    injection this with this
    rw [this]; rfl
/-- m[s], with ok -/
theorem VMap.look_ok (h : VMap P k w b n f) (hk : P.underlying k = some .string) (ht : P.underlying t = some (.map k e)) {z : Value} (hz : (zeroValue e).run P w = .ok z w) {s : ByteArray} (hs : s.size ≤ maxLen) :
    (Instr.lookup t (.map (some b)) (.string s) true).run P w = .ok (.tuple #[(f s.data.toList).getD z, .bool (f s.data.toList).isSome]) w := by
  obtain ⟨D, h, hf⟩ := h
  obtain ⟨v, ps, hrun, hv⟩ := h.look_ok (string_keyed hk) ht hz (zd := .held z) (zp := []) rfl (WideMaps.keyOf_string_mk hk hs)
  rw [hrun]
  obtain ⟨h1, h2⟩ := hf s.data.toList
  simp only [exactR, Option.some.injEq, Prod.mk.injEq] at hv
  cases hfs : f s.data.toList with
  | none =>
    rw [atKey_of_not_has (h2 hfs)] at hv
    have := hv.1
    injection this with this
    rw [this, h2 hfs]; rfl
  | some u =>
    rw [(h1 u hfs).2] at hv
    have := hv.1
    injection this with this
    rw [this, (h1 u hfs).1]; rfl
def upd (f : Rc.Str → Option Value) (s : Rc.Str) (v : Value) : Rc.Str → Option Value := fun x => if x = s then some v else f x
theorem lit_string_ne {a b : Rc.Str} (h : a ≠ b) : (Lit.string a) ≠ .string b := fun e => h (by injection e)
theorem isKey_string (s : Rc.Str) : WideAt.IsKeyLit (.string s) := by trivial
/-- m[s] = v -/
theorem VMap.update (h : VMap P k w b n f) (hk : P.underlying k = some .string) (ht : P.underlying t = some (.map k e)) (hn : n < maxLen) {s : ByteArray} (hs : s.size ≤ maxLen) (v : Value) :
    ∃ w', (Instr.mapUpdate t (.map (some b)) (.string s) v).run P w = .ok () w' ∧ VMap P k w' b (n + 1) (upd f s.data.toList v) ∧ w.grownBy w' (some b) := by
  obtain ⟨D, h, hf⟩ := h
  obtain ⟨w', hrun, hown, hg⟩ := h.update (string_keyed hk) ht hn (WideMaps.keyOf_string_mk hk hs) (val := v) (d := .held v) (ps := []) rfl
  have hm := h.isMap
  refine ⟨w', hrun, ⟨_, hown, fun x => ?_⟩, hg⟩
  obtain ⟨h1, h2⟩ := hf x
  unfold upd
  by_cases hx : x = s.data.toList
  · subst hx
    rw [if_pos rfl]
    refine ⟨fun u hu => ?_, fun hu => (by cases hu)⟩
    injection hu with hu
    subst hu
    exact ⟨has_put_same hm (isKey_string _) _, fun z => atKey_put_same hm (isKey_string _) _ _⟩
  · rw [if_neg hx, has_put_other (lit_string_ne hx)]
    refine ⟨fun u hu => ⟨(h1 u hu).1, fun z => ?_⟩, h2⟩
    rw [atKey_put_other (lit_string_ne hx)]
    exact (h1 u hu).2 z
/-- the same at the operation -/
theorem wpList_update {ops : Array Oper} {rest : List Oper} {o : Oper} {a : Act} {Q : Exit → Act → World → Prop}
    (hg : o.guard = none) (m x v : Operand) (t : TypeId) (hop : o.op = Op.mapUpdate t m x v) (hk : P.underlying k = some .string) (ht : P.underlying t = some (.map k e)) (hm : a.eval m = .map (some b))
    (h : VMap P k w b n f) (hn : n < maxLen) {s : ByteArray} {val : Value} (hx : a.eval x = .string s) (hv : a.eval v = val) (hs : s.size ≤ maxLen)
    (hK : ∀ w', VMap P k w' b (n + 1) (upd f s.data.toList val) → w.grownBy w' (some b) → wpList P ops Q rest (a.put o.dst undef) w') : wpList P ops Q (o :: rest) a w := by
  refine wpList_plain hg fun K' hK' => ?_
  obtain ⟨w', hrun, r1, r2⟩ := h.update hk ht hn hs val
  unfold Oper.wp
  simp [execOp, hop, hm, hx, hv, hrun, Result.andThen]
  exact hK' _ _ (hK w' r1 r2)
/-- the keys, sorted -/
theorem VMap.keys {D : DataW Value} (h : w.ownsMap P k exactR b n D) (hk : P.underlying k = some .string) (hf : ∀ s, (∀ v, f s = some v → Maps.has D (.string s) = true ∧ ∀ z, D.atKey (.string s) z = .held v) ∧ (f s = none → Maps.has D (.string s) = false)) {ss l : List Rc.Str} (hp : ss.Perm (strKeys D)) (hl : ∀ s, s ∈ l ↔ (f s).isSome = true) : ss.mergeSort leB = Rc.norm l := by
  obtain ⟨es, rfl, hks⟩ := h.keysOf
  have hks2 : ∀ p ∈ es, ∃ x, p.1 = Lit.string x := fun p hp => by
    obtain ⟨kv, hkv⟩ := hks p hp
    obtain ⟨x, _, hx, _⟩ := Maps.keyOf_str hk hkv
    exact ⟨x, hx⟩
  obtain ⟨es2, he, hpw⟩ := h.tidy (string_keyed hk)
  injection he with he
  subst he
  have hmem : ∀ s, s ∈ strKeys (DataW.map es) ↔ Maps.has (.map es) (.string s) = true := by
    intro s
    rw [has_eq, List.any_eq_true]
    show s ∈ es.map (fun p => strOf p.1) ↔ _
    rw [List.mem_map]
    constructor
    · rintro ⟨p, hp, rfl⟩
      obtain ⟨x, hx⟩ := hks2 p hp
      refine ⟨p, hp, ?_⟩
      rw [hx]
      exact WideAt.sameKey_self (isKey_string x)
    · rintro ⟨p, hp, hs⟩
      refine ⟨p, hp, ?_⟩
      rw [WideAt.sameKey_eq hs]; rfl
  have hnd : (strKeys (DataW.map es)).Nodup := by
    show (es.map fun p => strOf p.1).Nodup
    refine List.pairwise_map.2 (hpw.imp_of_mem fun {p q} hp' hq' hne e => hne ?_)
    obtain ⟨x, hx⟩ := hks2 p hp'
    obtain ⟨y, hy⟩ := hks2 q hq'
    rw [hx, hy] at e ⊢
    exact congrArg _ e
  refine Rc.norm_of (hp.nodup_iff.2 hnd) fun x => ?_
  rw [hp.mem_iff, hmem, hl]
  obtain ⟨h1, h2⟩ := hf x
  cases hfx : f x with
  | none => simp [h2 hfx]
  | some v => simp [(h1 v hfx).1]
end Go.Proofs.Ytabeimmjclkobaa
/- Slices of strings. -/
namespace Go.Proofs.Ytabeimmjclkobaa
open Go.ChangeShapes Go.WideShapes Go.RowKit

def strVal (l : List UInt8) : Value := .string ⟨l.toArray⟩
/-- a slice of strings, only read -/
def SRow (A : Nat → Prop) (w : World) (v : Value) (l : List (List UInt8)) : Prop := ∃ p cap, v = .slice p l.length cap ∧ Holds A w p (l.map strVal) ∧ l.length ≤ cap
theorem SRow.keep {A : Nat → Prop} {w w' : World} {v : Value} {l : List (List UInt8)} (h : SRow A w v l) (hk : Agree A w w') : SRow A w' v l := by
  obtain ⟨p, cap, hv, hh, hc⟩ := h; exact ⟨p, cap, hv, hh.keep hk, hc⟩
theorem SRow.lt {A : Nat → Prop} {w : World} {v : Value} {l : List (List UInt8)} (h : SRow A w v l) : SRow (fun g => A g ∧ g < w.heap.size) w v l := by
  obtain ⟨p, cap, hv, hh, hc⟩ := h
  refine ⟨p, cap, hv, ?_, hc⟩
  by_cases hne : 0 < (l.map strVal).length
  · obtain ⟨g, off, hp, hA, hlt, hcell⟩ := hh.at hne
    exact .inr ⟨g, off, hp, ⟨hA, hlt⟩, hcell⟩
  · exact .inl (List.eq_nil_of_length_eq_zero (by omega))
theorem SRow.mono {A B : Nat → Prop} {w : World} {v : Value} {l : List (List UInt8)} (h : SRow A w v l) (hk : ∀ g, A g → B g) : SRow B w v l := by
  obtain ⟨p, cap, hv, hh, hc⟩ := h; exact ⟨p, cap, hv, hh.mono hk, hc⟩
theorem SRow.nil (A : Nat → Prop) (w : World) : SRow A w (.slice none 0 0) [] := ⟨none, 0, rfl, .inl rfl, Nat.le_refl _⟩
theorem SRow.of_own {w : World} {base n : Nat} {e : TypeId} {v : Value} {l : List (List UInt8)} (h : w.ownsRow base e 1 v n (l.map strVal)) (hn : l.length = n) : SRow (base ≤ ·) w v l := by
  obtain ⟨p, cap, hv, hh, hc⟩ := ownsRow_holds3 h
  exact ⟨p, cap, by rw [hv, hn], hh.mono fun g hg => hg.2, by rw [hn]; exact hc⟩
theorem strVal_data (s : ByteArray) : strVal s.data.toList = .string s := rfl
theorem strVal_mk (l : List UInt8) : (⟨l.toArray⟩ : ByteArray).data.toList = l := by simp
theorem strVal_inj {a b : List UInt8} (h : strVal a = strVal b) : a = b := by simpa [strVal] using h
/-- the string that lies at a place -/
theorem SRow.at {A : Nat → Prop} {w : World} {p : Option Addr} {n cap : Nat} {l : List (List UInt8)} (h : SRow A w (.slice p n cap) l) {k : Nat} (hk : k < n) :
    ∃ g o, p = some ⟨g, o, none⟩ ∧ A g ∧ g < w.heap.size ∧ n = l.length ∧ ∀ j x, l[j]? = some x → w.cell? ⟨g, o + j, none⟩ = some (strVal x) := by
  obtain ⟨p', cap', hv, hh, _⟩ := h
  simp only [Value.slice.injEq] at hv
  obtain ⟨rfl, rfl, _⟩ := hv
  obtain ⟨g, o, rfl, hA, hg, hc⟩ := hh.at (by rw [List.length_map]; omega)
  exact ⟨g, o, rfl, hA, hg, rfl, fun j x hj => hc j _ (by rw [List.getElem?_map, hj]; rfl)⟩
theorem SRow.parts {A : Nat → Prop} {w : World} {v : Value} {l : List (List UInt8)} (h : SRow A w v l) : ∃ p cap, v = .slice p l.length cap := by
  obtain ⟨p, cap, hv, _⟩ := h; exact ⟨p, cap, hv⟩
end Go.Proofs.Ytabeimmjclkobaa
/- The library's slices.Sorted(maps.Keys(m)) at this seat's program: laid by the kit's programs (lay-iter, lay-plain); behind them the same in this house's words. -/
namespace Go.Proofs
open Go.RowKit Go.Maps Go.Sort Go.Shelf

def Try.keys52_ren : Go.Shelf.Ren := ⟨fun | 7 => 52 | 10 => 74 | n => n, fun | 23 => 102 | 26 => 9 | 3 => 4 | 28 => 105 | 0 => 0 | 27 => 104 | 33 => 50 | 4 => 4 | n => n, fun | n => n⟩
theorem Try.keys52 : Go.Proofs.SlLaysZ.n7 Try.prog Try.keys52_ren := {
  mixed := by kernel_rfl
  f7 := ⟨Try.f52.name, by decide, Try.func52.trans (congrArg some (by kernel_rfl))⟩
  f10 := ⟨Try.f74.name, by decide, Try.func74.trans (congrArg some (by kernel_rfl))⟩
  t0 := Try.underlying0
  a0 := Try.isAgg0
  z0 := Try.sizeOf0
  v0 := Try.zeroValue0
  t4 := Try.underlying4
  a4 := Try.isAgg4
  z4 := Try.sizeOf4
  v4 := Try.zeroValue4
  t23 := Try.underlying102
  a23 := Try.isAgg102
  z23 := Try.sizeOf102
  v23 := Try.zeroValue102
  t26 := Try.underlying9
  a26 := Try.isAgg9
  z26 := Try.sizeOf9
  v26 := Try.zeroValue9
  t27 := Try.underlying104
  a27 := Try.isAgg104
  z27 := Try.sizeOf104
  v27 := Try.zeroValue104
  t28 := Try.underlying105
  a28 := Try.isAgg105
  z28 := Try.sizeOf105
  v28 := Try.zeroValue105
  t33 := Try.underlying50
  a33 := Try.isAgg50
  z33 := Try.sizeOf50
  v33 := Try.zeroValue50 }
def Try.sorted51_ren : Go.Shelf.Ren := ⟨fun | 6 => 51 | 8 => 72 | 9 => 73 | 11 => 83 | 13 => 85 | 12 => 84 | 23 => 95 | 24 => 96 | 14 => 86 | 15 => 87 | 16 => 88 | 17 => 89 | 18 => 90 | 19 => 91 | 20 => 92 | 21 => 93 | 22 => 94 | 25 => 97 | 26 => 98 | 27 => 99 | 28 => 100 | 29 => 101 | 30 => 102 | 31 => 103 | n => n, fun | 26 => 9 | 28 => 105 | 24 => 36 | 0 => 0 | 3 => 3 | 37 => 24 | 48 => 144 | 50 => 66 | 4 => 4 | 40 => 138 | 39 => 137 | 45 => 92 | 5 => 5 | 9 => 9 | 51 => 146 | 55 => 150 | 57 => 152 | 58 => 153 | 33 => 50 | n => n, fun | n => n⟩
theorem Try.sorted51 : Go.Proofs.SlLaysZ.n6 Try.prog Try.sorted51_ren := {
  mixed := by kernel_rfl
  f6 := ⟨Try.f51.name, by decide, Try.func51.trans (congrArg some (by kernel_rfl))⟩
  f8 := ⟨Try.f72.name, by decide, Try.func72.trans (congrArg some (by kernel_rfl))⟩
  f11 := ⟨Try.f83.name, by decide, Try.func83.trans (congrArg some (by kernel_rfl))⟩
  t0 := Try.underlying0
  a0 := Try.isAgg0
  z0 := Try.sizeOf0
  v0 := Try.zeroValue0
  t24 := Try.underlying36
  a24 := Try.isAgg36
  z24 := Try.sizeOf36
  v24 := Try.zeroValue36
  t26 := Try.underlying9
  a26 := Try.isAgg9
  z26 := Try.sizeOf9
  v26 := Try.zeroValue9
  t28 := Try.underlying105
  a28 := Try.isAgg105
  z28 := Try.sizeOf105
  v28 := Try.zeroValue105
  i26 := by kernel_rfl }
def Try.sort73_ren : Go.Shelf.Ren := ⟨fun | 6 => 73 | 8 => 85 | 9 => 84 | 19 => 95 | 20 => 96 | 21 => 86 | 22 => 87 | 23 => 88 | 24 => 89 | 25 => 90 | 26 => 91 | 27 => 92 | 28 => 93 | 29 => 94 | 36 => 97 | 31 => 98 | 32 => 99 | 37 => 100 | 38 => 101 | 39 => 102 | 41 => 103 | n => n, fun | 27 => 36 | 29 => 9 | 3 => 3 | 32 => 24 | 26 => 36 | 0 => 0 | 44 => 144 | 46 => 66 | 4 => 4 | 36 => 138 | 35 => 137 | 41 => 92 | 5 => 5 | 9 => 9 | 53 => 146 | 57 => 150 | 63 => 152 | 64 => 153 | n => n, fun | n => n⟩
theorem Try.sort73 : Go.Proofs.SlLaysM.n6 Try.prog Try.sort73_ren := {
  mixed := by kernel_rfl
  f6 := ⟨Try.f73.name, by decide, Try.func73.trans (congrArg some (by kernel_rfl))⟩
  f8 := Try.func85.trans (congrArg some (by kernel_rfl))
  f9 := ⟨Try.f84.name, by decide, Try.func84.trans (congrArg some (by kernel_rfl))⟩
  f19 := Try.func95.trans (congrArg some (by kernel_rfl))
  f20 := Try.func96.trans (congrArg some (by kernel_rfl))
  f21 := ⟨Try.f86.name, by decide, Try.func86.trans (congrArg some (by kernel_rfl))⟩
  f22 := ⟨Try.f87.name, by decide, Try.func87.trans (congrArg some (by kernel_rfl))⟩
  f23 := ⟨Try.f88.name, by decide, Try.func88.trans (congrArg some (by kernel_rfl))⟩
  f24 := ⟨Try.f89.name, by decide, Try.func89.trans (congrArg some (by kernel_rfl))⟩
  f25 := ⟨Try.f90.name, by decide, Try.func90.trans (congrArg some (by kernel_rfl))⟩
  f26 := ⟨Try.f91.name, by decide, Try.func91.trans (congrArg some (by kernel_rfl))⟩
  f27 := ⟨Try.f92.name, by decide, Try.func92.trans (congrArg some (by kernel_rfl))⟩
  f28 := ⟨Try.f93.name, by decide, Try.func93.trans (congrArg some (by kernel_rfl))⟩
  f29 := ⟨Try.f94.name, by decide, Try.func94.trans (congrArg some (by kernel_rfl))⟩
  f31 := Try.func98.trans (congrArg some (by kernel_rfl))
  f32 := Try.func99.trans (congrArg some (by kernel_rfl))
  f36 := ⟨Try.f97.name, by decide, Try.func97.trans (congrArg some (by kernel_rfl))⟩
  f37 := ⟨Try.f100.name, by decide, Try.func100.trans (congrArg some (by kernel_rfl))⟩
  f38 := ⟨Try.f101.name, by decide, Try.func101.trans (congrArg some (by kernel_rfl))⟩
  f39 := ⟨Try.f102.name, by decide, Try.func102.trans (congrArg some (by kernel_rfl))⟩
  f41 := ⟨Try.f103.name, by decide, Try.func103.trans (congrArg some (by kernel_rfl))⟩
  t0 := Try.underlying0
  a0 := Try.isAgg0
  z0 := Try.sizeOf0
  v0 := Try.zeroValue0
  t3 := Try.underlying3
  a3 := Try.isAgg3
  z3 := Try.sizeOf3
  v3 := Try.zeroValue3
  t4 := Try.underlying4
  a4 := Try.isAgg4
  z4 := Try.sizeOf4
  v4 := Try.zeroValue4
  t5 := Try.underlying5
  a5 := Try.isAgg5
  z5 := Try.sizeOf5
  v5 := Try.zeroValue5
  t9 := Try.underlying9
  a9 := Try.isAgg9
  z9 := Try.sizeOf9
  v9 := Try.zeroValue9
  t26 := Try.underlying36
  a26 := Try.isAgg36
  z26 := Try.sizeOf36
  v26 := Try.zeroValue36
  t27 := Try.underlying36
  a27 := Try.isAgg36
  z27 := Try.sizeOf36
  v27 := Try.zeroValue36
  t29 := Try.underlying9
  a29 := Try.isAgg9
  z29 := Try.sizeOf9
  v29 := Try.zeroValue9
  t32 := Try.underlying24
  a32 := Try.isAgg24
  z32 := Try.sizeOf24
  v32 := Try.zeroValue24
  t35 := Try.underlying137
  a35 := Try.isAgg137
  z35 := Try.sizeOf137
  v35 := Try.zeroValue137
  t36 := Try.underlying138
  a36 := Try.isAgg138
  z36 := Try.sizeOf138
  v36 := Try.zeroValue138
  t41 := Try.underlying92
  a41 := Try.isAgg92
  z41 := Try.sizeOf92
  v41 := Try.zeroValue92
  t44 := Try.underlying144
  a44 := Try.isAgg144
  z44 := Try.sizeOf144
  v44 := Try.zeroValue144
  t46 := Try.underlying66
  a46 := Try.isAgg66
  z46 := Try.sizeOf66
  v46 := Try.zeroValue66
  t53 := Try.underlying146
  a53 := Try.isAgg146
  z53 := Try.sizeOf146
  v53 := Try.zeroValue146
  t57 := Try.underlying150
  a57 := Try.isAgg150
  z57 := Try.sizeOf150
  v57 := Try.zeroValue150
  t63 := Try.underlying152
  a63 := Try.isAgg152
  z63 := Try.sizeOf152
  v63 := Try.zeroValue152
  t64 := Try.underlying153
  a64 := Try.isAgg153
  z64 := Try.sizeOf153
  v64 := Try.zeroValue153 }

theorem Try.sorts51 (m : Nat) : AnyZ.SortsIn Try.prog Try.sorted51_ren Fence.wide m :=
  ⟨fun blk off cap ss W hH hblk hsz => callsIn_wide.2 (AnyM.slices_Sort_string Try.sort73 blk off cap ss W hH hblk hsz),
   fun p cap W => callsIn_wide.2 (AnyM.slices_Sort_string_none Try.sort73 p cap W)⟩

theorem Try.maps_Keys_52 (mb : Option Nat) (W : World) : CallsIn Fence.wide 5 Try.prog 52 #[.map mb] W fun e w' => e = .returned (.func (.func 74) #[] #[.pointer (some ⟨W.heap.size, 0, none⟩)]) ∧ w' = W.alloc (.cells #[.map mb] 102) :=
  AnyZ.keys_in Try.keys52 Fence.wide 5 trivial rfl mb W

set_option maxHeartbeats 4000000 in
theorem Try.slices_Sorted_keys_51_52 {H : Type} (b nn : Nat) (D0 : DataW H) (R : Value → Option (DataW H × List MemPlace)) (w : World) (hown : w.ownsMap Try.prog 9 R b nn D0) (hmax : Maps.size D0 ≤ maxLen) (hbytes : Maps.size D0 * 16 ≤ 140737488355328) :
    CallsIn Fence.wide 5 Try.prog 51 #[.func (.func 74) #[] #[.pointer (some ⟨w.heap.size, 0, none⟩)]] (w.alloc (.cells #[.map (some b)] 102)) fun e w' => ∃ (v : Value) (ss : List (List UInt8)), e = .returned v ∧ ss.Perm (strKeys D0) ∧
      w'.ownsRow (w.alloc (.cells #[.map (some b)] 102)).heap.size 9 1 v ss.length ((ss.mergeSort (fun x y => decide (x ≤ y))).map encStr) ∧ (v = .slice none 0 0 ↔ ss = []) ∧ Below (w.alloc (.cells #[.map (some b)] 102)).heap.size (w.alloc (.cells #[.map (some b)] 102)) w' := by
  have hbl := hown.lt
  have hseq : SeqGives Fence.wide 2 Try.prog 74 #[.pointer (some ⟨w.heap.size, 0, none⟩)] encStr (fun ss => ss.Perm (strKeys D0)) (Maps.size D0) (w.alloc (.cells #[.map (some b)] 102)) :=
    AnyZ.keys_gives (ρ := Try.keys52_ren) { Try.keys52 with } Fence.wide _ trivial rfl (by omega) w.heap.size b nn D0 _ (by simp) (by simp) (by
      obtain ⟨es, clock, hb, Ft, hs, hD⟩ := hown
      exact ⟨es, clock, (Below.heap_alloc _ _ b hbl).trans hb, Ft, hs, hD⟩)
  exact AnyZ.sorted_in Try.sorted51 Fence.wide 5 trivial trivial trivial trivial rfl (by omega) (Try.sorts51 _) (enters_of Try.func73 (by kernel_rfl) rfl) 74 #[.pointer (some ⟨w.heap.size, 0, none⟩)] trivial (enters_of Try.func74 (by kernel_rfl) rfl) _ _ hmax hbytes _ hseq
end Go.Proofs
namespace Go.Proofs.Ytabeimmjclkobaa
open Go.ChangeShapes Go.WideShapes Go.RowKit Go.Maps

theorem keys_any (mb : Option Nat) (W : World) : Calls Try.prog 52 #[.map mb] W fun e w' => e = .returned (.func (.func 74) #[] #[.pointer (some ⟨W.heap.size, 0, none⟩)]) ∧ w' = W.alloc (.cells #[.map mb] 102) :=
  callsIn_wide.1 (Try.maps_Keys_52 mb W)
theorem encStr_eq (x : List UInt8) : encStr x = strVal x := rfl
/-- the keys of a map, sorted -/
theorem sorted_any (b n : Nat) (f : Rc.Str → Option Value) (l : List Rc.Str) (w : World) (h : VMap Try.prog 9 w b n f) (hn : n ≤ 8796093022208) (hl : ∀ s, s ∈ l ↔ (f s).isSome = true) :
    Calls Try.prog 51 #[.func (.func 74) #[] #[.pointer (some ⟨w.heap.size, 0, none⟩)]] (w.alloc (.cells #[.map (some b)] 102)) fun e w' => ∃ v, e = .returned v ∧
      w'.ownsRow (w.heap.size + 1) 9 1 v (Rc.norm l).length ((Rc.norm l).map strVal) ∧ Below (w.alloc (.cells #[.map (some b)] 102)).heap.size (w.alloc (.cells #[.map (some b)] 102)) w' := by
  obtain ⟨D, hown, hf⟩ := h
  have hs := hown.size_le
  refine (callsIn_wide.1 (Try.slices_Sorted_keys_51_52 b n D exactR w hown (by unfold maxLen; omega) (by omega))).mono ?_
  rintro e w' ⟨v, ss, rfl, hp, hrow, _, hb⟩
  have hk := VMap.keys hown Try.underlying9 hf hp hl
  have hlen : ss.length = (Rc.norm l).length := by rw [← hk, List.length_mergeSort]
  refine ⟨v, rfl, ?_, hb⟩
  rw [show (w.alloc (.cells #[.map (some b)] 102)).heap.size = w.heap.size + 1 by simp] at hrow
  rw [← hlen, ← hk]
  exact hrow
end Go.Proofs.Ytabeimmjclkobaa
/- Reach, plainly: from nothing on, until nothing changes. -/
namespace Go.Rc
open Go

/-- what is known of a symbol: what is known of the first face that has its name -/
def atSym (l : List Face) (out : List (List Str)) (s : Str) : List Str := match l.findIdx? (fun f => decide (f.mod = s)) with
  | some j => out.getD j []
  | none => []
def val (l : List Face) (out : List (List Str)) (own : List Str) : List Str := norm (own ++ own.flatMap (atSym l out))
theorem nodup_norm (l : List Str) : (norm l).Nodup := (List.mergeSort_perm _ leB).nodup_iff.2 (nodup_eraseDups _ l (Nat.le_refl _))
theorem norm_norm (l : List Str) : norm (norm l) = norm l := norm_eq fun _ => mem_norm
theorem norm_nil : norm [] = [] := by simp [norm]
theorem mem_val {l : List Face} {out : List (List Str)} {own : List Str} {x : Str} : x ∈ val l out own ↔ x ∈ own ∨ ∃ s ∈ own, x ∈ atSym l out s := by
  unfold val
  rw [mem_norm, List.mem_append, List.mem_flatMap]
theorem ownOf_idx {l : List Face} {s : Str} {j : Nat} (h : l.findIdx? (fun f => decide (f.mod = s)) = some j) : ∃ f, l[j]? = some f ∧ f.mod = s ∧ ownOf l s = f.own := by
  induction l generalizing j with
  | nil => cases h
  | cons g l ih =>
    by_cases hg : g.mod = s
    · rw [List.findIdx?_cons, if_pos (by simpa using hg)] at h
      injection h with h
      subst h
      refine ⟨g, rfl, hg, ?_⟩
      unfold ownOf
      rw [List.find?_cons_of_pos (by simpa using hg)]
    · rw [List.findIdx?_cons, if_neg (by simpa using hg)] at h
      obtain ⟨k, hk, rfl⟩ := Option.map_eq_some_iff.1 h
      obtain ⟨f, h1, h2, h3⟩ := ih hk
      refine ⟨f, h1, h2, ?_⟩
      unfold ownOf at h3 ⊢
      rw [List.find?_cons_of_neg (by simpa using hg)]
      exact h3
theorem ownOf_none {l : List Face} {s : Str} (h : l.findIdx? (fun f => decide (f.mod = s)) = none) : ownOf l s = [] := by
  unfold ownOf
  rw [List.find?_eq_none.2 fun f hf => by have := (List.findIdx?_eq_none_iff.1 h) f hf; simpa using this]

/-- what is known between two steps -/
structure Fix (l : List Face) (out : List (List Str)) : Prop where
  len : out.length = l.length
  norm : ∀ (i : Nat) (x : List Str), out[i]? = some x → Rc.norm x = x
  sound : ∀ (i : Nat) (f : Face) (x : List Str), l[i]? = some f → out[i]? = some x → ∀ s ∈ x, Rch l f.own s
  grows : ∀ (i : Nat) (f : Face) (x : List Str), l[i]? = some f → out[i]? = some x → ∀ s ∈ x, s ∈ val l out f.own
theorem Fix.start (l : List Face) : Fix l (List.replicate l.length []) := by
  refine ⟨by simp, fun i x h => ?_, fun i f x _ h => ?_, fun i f x _ h => ?_⟩ <;>
  · rw [List.getElem?_replicate] at h
    split at h
    · injection h with h
      subst h
      first | exact norm_nil | simp
    · cases h
theorem atSym_sound {l : List Face} {out : List (List Str)} (h : Fix l out) {s x : Str} (hx : x ∈ atSym l out s) : Rch l (ownOf l s) x := by
  unfold atSym at hx
  split at hx
  · rename_i j hj
    obtain ⟨f, h1, _, h3⟩ := ownOf_idx hj
    rw [List.getD_eq_getElem?_getD] at hx
    cases ho : out[j]? with
    | none => rw [ho] at hx; cases hx
    | some y => rw [ho] at hx; rw [h3]; exact h.sound j f y h1 ho x hx
  · cases hx
theorem atSym_set {l : List Face} {out : List (List Str)} {i : Nat} {y z : List Str} (hi : out[i]? = some y) (hs : ∀ s ∈ y, s ∈ z) {s x : Str} (hx : x ∈ atSym l out s) : x ∈ atSym l (out.set i z) s := by
  unfold atSym at hx ⊢
  split at hx
  · rename_i j hj
    show x ∈ (out.set i z).getD j []
    rw [List.getD_eq_getElem?_getD] at hx ⊢
    by_cases hij : i = j
    · subst hij
      rw [List.getElem?_set_self (List.getElem?_eq_some_iff.1 hi).1]
      rw [hi] at hx
      exact hs x hx
    · rw [List.getElem?_set_ne hij]
      exact hx
  · cases hx
theorem val_sound {l : List Face} {out : List (List Str)} (h : Fix l out) {own : List Str} {x : Str} (hx : x ∈ val l out own) : Rch l own x := by
  rcases mem_val.1 hx with k | ⟨s, hs, k⟩
  · exact .base k
  · exact Rch.trans (fun t ht => .step (.base hs) ht) (atSym_sound h k)
/-- a step -/
theorem Fix.step {l : List Face} {out : List (List Str)} (h : Fix l out) {i : Nat} {f : Face} {y : List Str} (hf : l[i]? = some f) (hy : out[i]? = some y) : Fix l (out.set i (val l out f.own)) := by
  have hlt := (List.getElem?_eq_some_iff.1 hy).1
  have hgrow := h.grows i f y hf hy
  have hmono : ∀ own x, x ∈ val l out own → x ∈ val l (out.set i (val l out f.own)) own := by
    intro own x hx
    rcases mem_val.1 hx with k | ⟨s, hs, k⟩
    · exact mem_val.2 (.inl k)
    · exact mem_val.2 (.inr ⟨s, hs, atSym_set hy hgrow k⟩)
  refine ⟨by rw [List.length_set]; exact h.len, fun j x hj => ?_, fun j g x hg hj s hs => ?_, fun j g x hg hj s hs => ?_⟩
  · by_cases hij : i = j
    · subst hij
      rw [List.getElem?_set_self hlt] at hj
      injection hj with hj
      subst hj
      exact norm_norm _
    · rw [List.getElem?_set_ne hij] at hj
      exact h.norm j x hj
  · by_cases hij : i = j
    · subst hij
      rw [List.getElem?_set_self hlt] at hj
      injection hj with hj
      subst hj
      rw [hf] at hg
      injection hg with hg
      subst hg
      exact val_sound h hs
    · rw [List.getElem?_set_ne hij] at hj
      exact h.sound j g x hg hj s hs
  · by_cases hij : i = j
    · subst hij
      rw [List.getElem?_set_self hlt] at hj
      injection hj with hj
      subst hj
      rw [hf] at hg
      injection hg with hg
      subst hg
      exact hmono _ s hs
    · rw [List.getElem?_set_ne hij] at hj
      exact hmono _ s (h.grows j g x hg hj s hs)
def Rn (l : List Face) : Nat → List Str → Str → Prop
  | 0, own, x => x ∈ own
  | n + 1, own, x => ∃ s ∈ own, Rn l n (ownOf l s) x
theorem Rn.snoc {l : List Face} {s t : Str} (ht : t ∈ ownOf l s) : ∀ {n : Nat} {own : List Str}, Rn l n own s → Rn l (n + 1) own t
  | 0, _, h => ⟨s, h, ht⟩
  | _ + 1, _, ⟨u, hu, h⟩ => ⟨u, hu, Rn.snoc ht h⟩
theorem Rn.of {l : List Face} {own : List Str} {x : Str} (h : Rch l own x) : ∃ n, Rn l n own x := by
  induction h with
  | base h => exact ⟨0, h⟩
  | step _ ht ih => obtain ⟨n, hn⟩ := ih; exact ⟨n + 1, hn.snoc ht⟩
/-- when nothing changes, all that is reached is there -/
theorem Fix.done {l : List Face} {out : List (List Str)} (h : Fix l out) (hs : ∀ (i : Nat) (f : Face) (x : List Str), l[i]? = some f → out[i]? = some x → val l out f.own = x) {i : Nat} {f : Face} {x : List Str} (hf : l[i]? = some f) (hx : out[i]? = some x) (s : Str) : s ∈ x ↔ Rch l f.own s := by
  refine ⟨h.sound i f x hf hx s, fun k => ?_⟩
  obtain ⟨n, hn⟩ := Rn.of k
  clear k
  induction n generalizing i f x with
  | zero => rw [← hs i f x hf hx]; exact mem_val.2 (.inl hn)
  | succ n ih =>
    obtain ⟨u, hu, hn⟩ := hn
    rw [← hs i f x hf hx]
    refine mem_val.2 (.inr ⟨u, hu, ?_⟩)
    unfold atSym
    cases hj : l.findIdx? (fun f => decide (f.mod = u)) with
    | none =>
      rw [ownOf_none hj] at hn
      cases n with
      | zero => cases hn
      | succ n => obtain ⟨_, h1, _⟩ := hn; cases h1
    | some j =>
      obtain ⟨g, h1, _, h3⟩ := ownOf_idx hj
      rw [h3] at hn
      have hlt : j < out.length := by rw [h.len]; exact (List.getElem?_eq_some_iff.1 h1).1
      show s ∈ out.getD j []
      rw [List.getD_eq_getElem?_getD, List.getElem?_eq_getElem hlt]
      exact ih h1 (List.getElem?_eq_getElem hlt) hn
theorem Fix.eq {l : List Face} {out : List (List Str)} (h : Fix l out) (hs : ∀ (i : Nat) (f : Face) (x : List Str), l[i]? = some f → out[i]? = some x → val l out f.own = x) {i : Nat} {f : Face} {x found : List Str} (hf : l[i]? = some f) (hx : out[i]? = some x) (hk : ∀ s, s ∈ found ↔ Rch l f.own s) : x = Rc.norm found := by
  rw [← h.norm i x hx]
  exact norm_eq fun s => by rw [h.done hs hf hx, hk]
theorem nodup_length {a : List Str} : ∀ {b : List Str}, a.Nodup → (∀ s ∈ a, s ∈ b) → a.length ≤ b.length := by
  induction a with
  | nil => intro b _ _; exact Nat.zero_le _
  | cons x a ih =>
    intro b hn hs
    obtain ⟨hx, hn⟩ := List.nodup_cons.1 hn
    have hxb := hs x (by simp)
    have := ih (b := b.erase x) hn fun s h => (List.mem_erase_of_ne (a := s) (b := x) (fun e => hx (by rw [← e]; exact h))).2 (hs s (by simp [h]))
    rw [List.length_erase_of_mem hxb] at this
    have hpos : 0 < b.length := List.length_pos_of_mem hxb
    simp only [List.length_cons]
    omega
theorem norm_less {y v : List Str} (hy : norm y = y) (hv : norm v = v) (hs : ∀ s ∈ y, s ∈ v) (hne : v ≠ y) : y.length < v.length := by
  have hny : y.Nodup := by rw [← hy]; exact nodup_norm y
  have hnv : v.Nodup := by rw [← hv]; exact nodup_norm v
  refine Nat.lt_of_not_le fun hle => hne ?_
  rw [← hy, ← hv]
  refine norm_eq fun s => ⟨fun h => ?_, hs s⟩
  apply Classical.byContradiction
  intro hn
  have h1 := nodup_length (b := v.erase s) hny fun t ht => (List.mem_erase_of_ne (a := t) (b := s) (fun e => hn (by rw [← e]; exact ht))).2 (hs t ht)
  rw [List.length_erase_of_mem h] at h1
  have hpos : 0 < v.length := List.length_pos_of_mem h
  omega
/-- how long it takes at most -/
def left (l : List Face) (out : List (List Str)) : Nat := out.length * (l.flatMap (·.own)).length - (out.map List.length).sum
theorem Fix.bound {l : List Face} {out : List (List Str)} (h : Fix l out) {i : Nat} {x : List Str} (hx : out[i]? = some x) : x.length ≤ (l.flatMap (·.own)).length := by
  have hlt : i < l.length := by rw [← h.len]; exact (List.getElem?_eq_some_iff.1 hx).1
  have hn : x.Nodup := by rw [← h.norm i x hx]; exact nodup_norm x
  refine nodup_length hn fun s hs => ?_
  have := (h.sound i l[i] x (List.getElem?_eq_getElem hlt) hx s hs).sub
  unfold univ at this
  rcases List.mem_append.1 this with k | k
  · exact List.mem_flatMap.2 ⟨l[i], List.getElem_mem hlt, k⟩
  · exact k
theorem sum_le {B : Nat} : ∀ {ns : List Nat}, (∀ n ∈ ns, n ≤ B) → ns.sum ≤ ns.length * B
  | [], _ => Nat.zero_le _
  | n :: ns, h => by
    have := sum_le (ns := ns) fun m hm => h m (by simp [hm])
    have h1 := h n (by simp)
    rw [List.sum_cons, List.length_cons, Nat.add_mul]
    omega
theorem sum_set : ∀ {ns : List Nat} {i y v : Nat}, ns[i]? = some y → (ns.set i v).sum + y = ns.sum + v
  | n :: ns, 0, y, v, h => by
    injection h with h
    subst h
    rw [List.set_cons_zero, List.sum_cons, List.sum_cons]; omega
  | n :: ns, i + 1, y, v, h => by
    have := sum_set (ns := ns) (i := i) (v := v) h
    rw [List.set_cons_succ, List.sum_cons, List.sum_cons]; omega
theorem Fix.less {l : List Face} {out : List (List Str)} (h : Fix l out) {i : Nat} {f : Face} {y : List Str} (hf : l[i]? = some f) (hy : out[i]? = some y) (hne : val l out f.own ≠ y) : left l (out.set i (val l out f.own)) < left l out := by
  have h2 := h.step hf hy
  have hl := norm_less (h.norm i y hy) (norm_norm _) (h.grows i f y hf hy) hne
  have b1 : ((out.set i (val l out f.own)).map List.length).sum ≤ out.length * (l.flatMap (·.own)).length := by
    have := sum_le (B := (l.flatMap (·.own)).length) (ns := (out.set i (val l out f.own)).map List.length) fun n hn => by
      obtain ⟨x, hx, rfl⟩ := List.mem_map.1 hn
      obtain ⟨j, hj, rfl⟩ := List.mem_iff_getElem.1 hx
      exact h2.bound (List.getElem?_eq_getElem hj)
    simpa using this
  have hs := sum_set (ns := out.map List.length) (i := i) (y := y.length) (v := (val l out f.own).length) (by rw [List.getElem?_map, hy]; rfl)
  rw [List.map_set] at b1
  unfold left
  rw [List.length_set, List.map_set]
  have hl2 : y.length < (val l out f.own).length := hl
  omega
end Go.Rc
/- Reach, plainly: a string is put into an ascending list, once. -/
namespace Go.Rc
open Go

theorem norm_pairwise (l : List Str) : (norm l).Pairwise (fun a b => leB a b = true) := by
  have tr : ∀ a b c : Str, leB a b = true → leB b c = true → leB a c = true := fun a b c h1 h2 => by simp only [leB, decide_eq_true_eq] at *; exact List.le_trans h1 h2
  have tot : ∀ a b : Str, (leB a b || leB b a) = true := fun a b => by simp only [leB, Bool.or_eq_true, decide_eq_true_eq]; exact List.le_total a b
  exact List.pairwise_mergeSort tr tot _
theorem norm_sorted {x l : List Str} (h : x.Pairwise (fun a b => leB a b = true)) (hn : x.Nodup) (hm : ∀ s, s ∈ x ↔ s ∈ l) : x = norm l := by
  refine List.Perm.eq_of_pairwise (le := fun a b => leB a b = true) (fun a b _ _ h1 h2 => ?_) h (norm_pairwise l) ((List.perm_ext_iff_of_nodup hn (nodup_norm l)).2 fun s => by rw [hm, mem_norm])
  simp only [leB, decide_eq_true_eq] at h1 h2
  exact List.le_antisymm h1 h2

/-- where the first string stands that is not less -/
def pos (s : Str) : List Str → Nat
  | [] => 0
  | x :: l => if x < s then pos s l + 1 else 0
def putL (l : List Str) (s : Str) : List Str := if l[pos s l]? = some s then l else l.take (pos s l) ++ [s] ++ l.drop (pos s l)
theorem pos_le (s : Str) : ∀ l : List Str, pos s l ≤ l.length
  | [] => Nat.le_refl _
  | x :: l => by
    unfold pos
    split
    · have := pos_le s l; simp only [List.length_cons]; omega
    · exact Nat.zero_le _
theorem pos_before (s : Str) : ∀ {l : List Str} {x : Str}, x ∈ l.take (pos s l) → x < s
  | [], x, h => by simp at h
  | y :: l, x, h => by
    unfold pos at h
    split at h
    · rename_i hy
      rw [List.take_succ_cons] at h
      rcases List.mem_cons.1 h with rfl | h
      · exact hy
      · exact pos_before s h
    · simp at h
theorem pos_at (s : Str) : ∀ {l : List Str} {x : Str}, l[pos s l]? = some x → ¬ x < s
  | [], x, h => by simp at h
  | y :: l, x, h => by
    unfold pos at h
    split at h
    · exact pos_at s (l := l) (by simpa using h)
    · rename_i hy
      simp only [List.getElem?_cons_zero, Option.some.injEq] at h
      rw [← h]; exact hy
theorem put_law {l : List Str} (h : norm l = l) (s : Str) : putL l s = norm (l ++ [s]) := by
  have hp : l.Pairwise (fun a b => leB a b = true) := by rw [← h]; exact norm_pairwise l
  have hn : l.Nodup := by rw [← h]; exact nodup_norm l
  unfold putL
  split
  · rename_i hs
    refine norm_sorted hp hn fun t => ?_
    rw [List.mem_append, List.mem_singleton]
    exact ⟨.inl, fun k => k.elim id fun e => by rw [e]; exact List.mem_of_getElem? hs⟩
  · rename_i hs
    obtain ⟨A, hA⟩ : ∃ A, l.take (pos s l) = A := ⟨_, rfl⟩
    obtain ⟨B, hB⟩ : ∃ B, l.drop (pos s l) = B := ⟨_, rfl⟩
    have hl : l = A ++ B := by rw [← hA, ← hB, List.take_append_drop]
    have hAs : ∀ x ∈ A, x < s := fun x hx => pos_before s (by rw [hA]; exact hx)
    have hB0 : ∀ b C, B = b :: C → ¬ b < s ∧ b ≠ s := by
      intro b C e
      have h0 : l[pos s l]? = some b := by
        have := List.getElem?_drop (xs := l) (i := pos s l) (j := 0)
        rw [hB, e] at this
        simpa using this.symm
      exact ⟨pos_at s h0, fun e2 => hs (by rw [h0, e2])⟩
    rw [hl] at hp hn
    obtain ⟨hpA, hpB, hpAB⟩ := List.pairwise_append.1 hp
    obtain ⟨hnA, hnB, hnAB⟩ := List.nodup_append.1 hn
    have hsB : ∀ b ∈ B, leB s b = true ∧ b ≠ s := by
      intro b hb
      cases hBB : B with
      | nil => rw [hBB] at hb; cases hb
      | cons b0 C =>
        obtain ⟨h1, h2⟩ := hB0 b0 C hBB
        rw [hBB] at hb hpB
        have hsb0 : leB s b0 = true := by simp only [leB, decide_eq_true_eq]; exact List.not_lt.1 h1
        rcases List.mem_cons.1 hb with rfl | hb
        · exact ⟨hsb0, h2⟩
        · have hbb := (List.pairwise_cons.1 hpB).1 b hb
          simp only [leB, decide_eq_true_eq] at hsb0 hbb ⊢
          refine ⟨List.le_trans hsb0 hbb, fun e => ?_⟩
          rw [e] at hbb
          exact h2 (List.le_antisymm hbb hsb0)
    rw [hA, hB]
    refine norm_sorted ?_ ?_ fun t => ?_
    · rw [List.append_assoc]
      refine List.pairwise_append.2 ⟨hpA, ?_, ?_⟩
      · exact List.pairwise_cons.2 ⟨fun b hb => (hsB b hb).1, hpB⟩
      · intro a ha b hb
        rcases List.mem_cons.1 hb with rfl | hb
        · simp only [leB, decide_eq_true_eq]; exact List.le_of_lt (hAs a ha)
        · exact hpAB a ha b hb
    · rw [List.append_assoc]
      refine List.nodup_append.2 ⟨hnA, ?_, ?_⟩
      · exact List.nodup_cons.2 ⟨fun hb => (hsB s hb).2 rfl, hnB⟩
      · intro a ha b hb
        rcases List.mem_cons.1 hb with rfl | hb
        · intro e
          rw [e] at ha
          exact List.lt_irrefl _ (hAs _ ha)
        · exact hnAB a ha b hb
    · rw [hl]
      simp only [List.mem_append, List.mem_singleton]
      constructor
      · rintro ((k | k) | k)
        · exact .inl (.inl k)
        · exact .inr k
        · exact .inl (.inr k)
      · rintro ((k | k) | k)
        · exact .inl (.inl k)
        · exact .inr k
        · exact .inl (.inr k)
theorem norm_snoc (l : List Str) (s : Str) : norm (norm l ++ [s]) = norm (l ++ [s]) := norm_eq fun t => by rw [List.mem_append, mem_norm, List.mem_append]
end Go.Rc
/- Sets of strings as maps. -/
namespace Go.Proofs.Ytabeimmjclkobaa
open Go.ChangeShapes Go.WideShapes Go.RowKit Go.Maps

theorem Holds.lt {A : Nat → Prop} {w : World} {p : Option Addr} {cs : List Value} (h : Holds A w p cs) : Holds (fun g => A g ∧ g < w.heap.size) w p cs := by
  by_cases hne : 0 < cs.length
  · obtain ⟨g, off, hp, hA, hlt, hc⟩ := h.at hne
    exact .inr ⟨g, off, hp, ⟨hA, hlt⟩, hc⟩
  · exact .inl (List.eq_nil_of_length_eq_zero (by omega))
/-- a set of strings -/
def setF (L : List Rc.Str) : Rc.Str → Option Value := fun s => if s ∈ L then some (.bool true) else none
theorem setF_nil : setF [] = fun _ => none := by funext s; simp [setF]
theorem setF_some (L : List Rc.Str) (s : Rc.Str) : s ∈ L ↔ (setF L s).isSome = true := by unfold setF; split <;> simp [*]
theorem setF_snoc (L : List Rc.Str) (s : Rc.Str) : upd (setF L) s (.bool true) = setF (L ++ [s]) := by
  funext t
  unfold upd setF
  by_cases h : t = s <;> by_cases h2 : t ∈ L <;> simp [h, h2]
theorem setF_get (L : List Rc.Str) (s : Rc.Str) : (setF L s).getD (.bool false) = .bool (decide (s ∈ L)) := by
  unfold setF; split <;> simp [*]
theorem strs_one (l : List (List UInt8)) : ∀ u ∈ l.map strVal, u.oneCell' = true := by
  intro u hu
  obtain ⟨x, _, rfl⟩ := List.mem_map.1 hu
  rfl

theorem ownsRow_lower {w : World} {b b' : Nat} {e : TypeId} {size n : Nat} {v : Value} {xs : List Value} (h : w.ownsRow b e size v n xs) (hb : b' ≤ b) : w.ownsRow b' e size v n xs :=
  ⟨h.1, h.2.imp id fun ⟨g, cap, cur, h1, h2, h3⟩ => ⟨g, cap, cur, h1, Nat.le_trans hb h2, h3⟩⟩
theorem fresh_map (w : World) (P : Program) (k : TypeId) : ∃ w1, w.alloc (.map #[] 0) = w1 ∧ VMap P k w1 w.heap.size 0 (setF []) ∧ Below w.heap.size w w1 ∧ w1.heap.size = w.heap.size + 1 :=
  ⟨_, rfl, by rw [setF_nil]; exact VMap.made w P k, ext_alloc (ext_refl w) _, by simp⟩
end Go.Proofs.Ytabeimmjclkobaa
