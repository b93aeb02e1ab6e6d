/- Objects: lists of numbers, plain objects. -/
import Derived.Test.YtabeimmjclkobaaOb
namespace Go.Ob
structure Op where
  kind : Int
  a : Int
  b : Int
  c : Int
  list : List Int
  sym : List UInt8
structure Plc where
  slots : Int
  at_ : List Int
  params : Int
  regs : Int
  ops : List Op
def lst (l : List Int) : List UInt8 := num l.length ++ l.flatMap num
def opB (o : Op) : List UInt8 := num o.kind ++ num o.a ++ num o.b ++ num o.c ++ lst o.list ++ num o.sym.length ++ o.sym
def objB (p : Plc) : List UInt8 := [79] ++ num p.slots ++ lst p.at_ ++ num p.regs ++ num p.ops.length ++ p.ops.flatMap opB
def wf (n : Int) : Prop := -9223372036854775808 ≤ n ∧ n ≤ 9223372036854775807
theorem nums_len : ∀ {l : List Int}, (∀ n ∈ l, wf n) → (l.flatMap num).length ≤ 10 * l.length
  | [], _ => by simp
  | n :: l, h => by
    have h1 := nums_len fun m hm => h m (List.mem_cons_of_mem _ hm)
    have h2 := h n List.mem_cons_self
    have h3 := num_len h2.1 h2.2
    rw [List.flatMap_cons, List.length_append, List.length_cons]
    omega
theorem flat_snoc {α : Type} {l : List α} {k : Nat} {x : α} (f : α → List UInt8) (h : l[k]? = some x) : (l.take (k + 1)).flatMap f = (l.take k).flatMap f ++ f x := by
  obtain ⟨h1, h2⟩ := List.getElem?_eq_some_iff.1 h
  rw [List.take_succ_eq_append_getElem h1, h2, List.flatMap_append]
  simp
end Go.Ob
namespace Go.Proofs.Ytabeimmjclkobaa
open Go.ChangeShapes Go.WideShapes Go.RowKit

theorem wf_of {n : Int} (h : Ob.wf n) : (Lit.int .i64 n).wf = true := by
  have h0 := h.1
  have h1 := h.2
  simp [Lit.wf, IntKind.min, IntKind.max, IntKind.bits, IntKind.signed]
  omega
theorem wf_nat {n : Nat} (h : n ≤ 9223372036854775807) : Ob.wf n := ⟨by omega, by omega⟩

/-- a slice of ints that is only read -/
def NRow (A : Nat → Prop) (w : World) (v : Value) (l : List Int) : Prop :=
  ∃ p cap, v = .slice p l.length cap ∧ Holds A w p (l.map (.int .i64)) ∧ l.length ≤ cap
theorem NRow.keep {A : Nat → Prop} {w w' : World} {v : Value} {l : List Int} (h : NRow A w v l) (hk : Agree A w w') : NRow A w' v l := by
  obtain ⟨p, cap, hv, hh, hc⟩ := h; exact ⟨p, cap, hv, hh.keep hk, hc⟩
theorem NRow.mono {A B : Nat → Prop} {w : World} {v : Value} {l : List Int} (h : NRow A w v l) (hk : ∀ g, A g → B g) : NRow B w v l := by
  obtain ⟨p, cap, hv, hh, hc⟩ := h; exact ⟨p, cap, hv, hh.mono hk, hc⟩
theorem NRow.parts {A : Nat → Prop} {w : World} {v : Value} {l : List Int} (h : NRow A w v l) : ∃ p cap, v = .slice p l.length cap := by
  obtain ⟨p, cap, hv, _⟩ := h; exact ⟨p, cap, hv⟩
theorem NRow.nil (A : Nat → Prop) (w : World) : NRow A w (.slice none 0 0) [] := ⟨none, 0, rfl, .inl rfl, Nat.le_refl _⟩
theorem NRow.lt {A : Nat → Prop} {w : World} {v : Value} {l : List Int} (h : NRow A w v l) : NRow (fun g => A g ∧ g < w.heap.size) w v l := by
  obtain ⟨p, cap, hv, hh, hc⟩ := h
  refine ⟨p, cap, hv, ?_, hc⟩
  by_cases hne : 0 < (l.map (Value.int .i64)).length
  · obtain ⟨g, off, hp, hA, hlt, hcell⟩ := hh.at hne
    exact .inr ⟨g, off, hp, ⟨hA, hlt⟩, hcell⟩
  · exact .inl (List.eq_nil_of_length_eq_zero (by omega))
theorem NRow.at {A : Nat → Prop} {w : World} {p : Option Addr} {n cap : Nat} {l : List Int} (h : NRow A w (.slice p n cap) l) {k : Nat} {z : Int} (hz : l[k]? = some z) :
    ∃ g o, p = some ⟨g, o, none⟩ ∧ A g ∧ g < w.heap.size ∧ w.cell? ⟨g, o + k, none⟩ = some (.int .i64 z) := by
  obtain ⟨p', cap', hv, hh, _⟩ := h
  simp only [Value.slice.injEq] at hv
  obtain ⟨rfl, rfl, _⟩ := hv
  have hlt := (List.getElem?_eq_some_iff.1 hz).1
  obtain ⟨g, o, rfl, hA, hg, hc⟩ := hh.at (by rw [List.length_map]; omega)
  exact ⟨g, o, rfl, hA, hg, hc k _ (by rw [List.getElem?_map, hz]; rfl)⟩

set_option maxRecDepth 100000 in
set_option maxHeartbeats 800000 in
theorem list_any {A : Nat → Prop} (base : Nat) (v lv : Value) (bs : List UInt8) (zs : List Int) (w : World) (ho : w.ownsRow base 5 1 v bs.length (bs.map byteVal)) (hb : base ≤ w.heap.size) (hl : bs.length + 10 * zs.length + 10 ≤ 1000000000) (hz : ∀ z ∈ zs, Ob.wf z) (hr : NRow A w lv zs) (hA : ∀ g, A g → some g ≠ v.ownBlock) :
    Calls Try.prog 39 #[v, lv] w fun e w' => ∃ v', e = .returned v' ∧ w'.ownsRow base 5 1 v' (bs ++ Ob.lst zs).length ((bs ++ Ob.lst zs).map byteVal) ∧ Grew w w' v v' := by
  obtain ⟨p, c, rfl⟩ := hr.parts
  obtain ⟨n, hn⟩ : ∃ n, zs.length = n := ⟨_, rfl⟩
  rw [hn] at hr hl ⊢
  have hnw : (Lit.int .i64 (n : Int)).wf = true := wf_of (wf_nat (by omega))
  have H1 := Lib.hid (appended_any base v bs (n : Int) w ho hb (by omega) hnw)
  have hlen := Ob.num_len (n := (n : Int)) (by omega) (by omega)
  have Hn := Lib.hid hn
  have HR := Lib.hid hr
  have Hz := Lib.hid hz
  have HA := Lib.hid hA
  have Hlen := Lib.hid hlen
  have hvo : ∀ k, v.ownBlock = some k → base ≤ k := fun k hk => (ho.lt k hk).1
  clear hr hz hA hn ho hlen hnw
  go_enter Try.func39, Try.ntmps39
  go_wp2_with fail
  refine H1.out.mono ?_
  rintro e w2 ⟨v2, rfl, ho2, hg2⟩
  have HO2 := Lib.hid ho2
  have HG2 := Lib.hid hg2
  clear H1 ho2 hg2
  go_upto_region 3 with fail
  go_loopw [0, 13] (fun v0 i wr => ∃ k : Nat, i = .int .i64 k ∧ k ≤ n ∧ Hid (wr.ownsRow base 5 1 v0 (bs ++ Ob.num n ++ (zs.take k).flatMap Ob.num).length ((bs ++ Ob.num n ++ (zs.take k).flatMap Ob.num).map byteVal)) ∧ Hid (Grew w wr v v0)) (fun _ i _ => n - (intOf i).toNat)
  case atStart => exact ⟨0, rfl, Nat.zero_le _, by rw [List.take_zero, List.flatMap_nil, List.append_nil]; exact HO2, HG2⟩
  case round =>
    obtain ⟨k, rfl, hk, hO, hG⟩ := hrel
    clear HO2 HG2
    generalize wr = wk at *
    by_cases hlt : k < n
    · have hd : decide ((k : Int) < (n : Int)) = true := decide_eq_true (by omega)
      have hkl : k < zs.length := by rw [Hn.out]; exact hlt
      obtain ⟨z, hzz⟩ : ∃ z, zs[k] = z := ⟨_, rfl⟩
      have hzk : zs[k]? = some z := by rw [← hzz]; exact List.getElem?_eq_getElem hkl
      obtain ⟨ga, oa, rfl, hAg, hga, hc⟩ := HR.out.at hzk
      have hne := HA.out ga hAg
      have hga2 : ga < wk.heap.size := Nat.lt_of_lt_of_le hga hG.out.size
      have hcell : wk.cell? ⟨ga, oa + k, none⟩ = some (.int .i64 z) := by
        rw [World.cell?_of_block (w := w) (hG.out.block ga hga hne)]; exact hc
      have hzw := Hz.out z (List.mem_of_getElem? hzk)
      have hsn := Ob.flat_snoc Ob.num hzk
      have hbl : (bs ++ Ob.num n ++ (zs.take k).flatMap Ob.num).length ≤ 1000000000 := by
        have h1 := Ob.nums_len (l := zs.take k) fun m hm => Hz.out m (List.mem_of_mem_take hm)
        have h2 := Hlen.out
        rw [List.length_take] at h1
        rw [List.length_append, List.length_append]
        omega
      have H2 := Lib.hid (appended_any base u0 _ z wk hO.out (Nat.le_trans hb hG.out.size) hbl (wf_of hzw))
      have Hsn := Lib.hid hsn
      clear hzz hzk hc hne hzw hsn hbl hkl
      go_wp2_with fail
      refine H2.out.mono ?_
      rintro e w3 ⟨v3, rfl, ho3, hg3⟩
      rw [List.append_assoc, ← Hsn.out] at ho3
      have HO3 := Lib.hid ho3
      have HG3 := Lib.hid (hG.out.trans hg3)
      clear H2 ho3 hg3 hcell hga2
      go_wp2_with fail
      go_roundw
      case rel => exact ⟨k + 1, val_int (by omega), hlt, HO3, HG3⟩
      case measure => simp [intOf]; omega
    · have hd : decide ((k : Int) < (n : Int)) = false := decide_eq_false (by omega)
      have HOe : Hid (wk.ownsRow base 5 1 u0 (bs ++ Ob.lst zs).length ((bs ++ Ob.lst zs).map byteVal)) := by
        have h1 := hO.out
        rw [List.take_of_length_le (by rw [Hn.out]; omega)] at h1
        unfold Ob.lst
        rw [Hn.out, ← List.append_assoc]
        exact h1
      go_wp2_with fail
      go_ret
      exact ⟨u0, rfl, HOe.out, hG.out⟩
end Go.Proofs.Ytabeimmjclkobaa
