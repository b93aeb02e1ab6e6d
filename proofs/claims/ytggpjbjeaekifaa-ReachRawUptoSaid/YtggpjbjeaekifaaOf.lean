/- Dice of recompilemade: one of some strings. -/
import Derived.Test.YtggpjbjeaekifaaDn
import Derived.Test.YtggpjbjeaekifaaSr
namespace Go.Proofs.Ytggpjbjeaekifaa
open Go.ChangeShapes Go.WideShapes Go.RowKit

theorem DiceAt.keep {A : Nat → Prop} {gd : Nat} {tv : Value} {ts : List Int} {w w' : World} (h : DiceAt gd tv ts w) (hk : Agree A w w') (hs : w.heap.size ≤ w'.heap.size) (hA : A gd) : DiceAt gd tv ts w' := by
  obtain ⟨a, ha, hb⟩ := h; exact ⟨a, ha, hb.keep hk hs hA⟩
theorem DiceAt.call {gd : Nat} {tv : Value} {ts : List Int} {w w' : World} (h : DiceAt gd tv ts w) (hb : Below w.heap.size w w') : DiceAt gd tv ts w' := by
  obtain ⟨a, ha, h⟩ := h; exact ⟨a, ha, h.call hb⟩
theorem NewBlk.dr {gd : Nat} {tv : Value} {ts : List Int} {B : Nat} {t : TypeId} {l : List Value} {v : Value} {w w' : World} (h1 : gd < B) (h : NewBlk B t l v w) (hp : DR gd tv ts w w') : NewBlk B t l v w' := by
  obtain ⟨g, hv, hB, hk, ht⟩ := h
  have hA : g ≠ gd := by omega
  exact ⟨g, hv, hB, hk.keep hp.agree hp.size hA, tyAt_keep ht hp.agree hA⟩
theorem new_alloc_dr {P : Program} {gd : Nat} {tv : Value} {ts : List Int} {a : Act} {o : Oper} {w w0 : World} {l : List Value} {t : TypeId} {z : Value} (ho : o.op = .alloc t) (hz : (P.info? t).map (fun i => (i.zero, z.cells.toList)) = some (some z, l)) (hs : w0.heap.size ≤ w.heap.size) :
    ∃ v w', (execOp a.eval o).run P w = .ok (.value v) w' ∧ DR gd tv ts w w' ∧ NewBlk w0.heap.size t l v w' := by
  obtain ⟨v, w', h1, h2, g, h3, h4, h5⟩ := new_alloc (P := P) (a := a) (o := o) (w := w) (w0 := w) ho hz (Below.refl _ _)
  exact ⟨v, w', h1, DR.of_below h2, g, h3, Nat.le_trans hs h4, h5⟩
set_option maxRecDepth 100000 in
theorem of_any {A : Nat → Prop} (gd : Nat) (tv : Value) (ts : List Int) (p : Option Addr) (n cap : Nat) (l : List (List UInt8)) (w : World) (hd : DiceAt gd tv ts w) (ht : IntsAt (· ≠ gd) w tv ts) (hl : Holds A w p (l.map strVal)) (hA : ∀ g, A g → g ≠ gd) (hn : l.length = n) (h0 : 0 < n) (h1 : n ≤ 1000) :
    Calls Try.prog 21 #[.pointer (some ⟨gd, 0, none⟩), .slice p n cap] w fun e w' => ∃ s ∈ l, e = .returned (strVal s) ∧ DR gd tv ts w w' := by
  have hnx := next_any gd tv ts n w hd ht (by omega) (by omega)
  have Hnx := Lib.hid hnx
  have Hl := Lib.hid (hl.mono hA)
  have Hn := Lib.hid hn
  clear hnx hl hd ht hn
  go_enter Try.func21, Try.ntmps21
  go_wp2_with fail
  refine Hnx.out.mono ?_
  rintro e w2 ⟨k, rfl, hk0, hk1, hDR⟩
  obtain ⟨j, rfl⟩ := Int.eq_ofNat_of_zero_le hk0
  have hjn : j < n := by omega
  have hh := Hl.out.keep hDR.agree
  obtain ⟨g, off, rfl, _, hgl, hcell⟩ := hh.at (by rw [List.length_map, Hn.out]; omega)
  have hjl : j < l.length := by rw [Hn.out]; exact hjn
  have hc := hcell j (strVal l[j]) (by simp [hjl])
  have HDR := Lib.hid hDR
  have Hmem : Hid (l[j] ∈ l) := List.getElem_mem hjl
  obtain ⟨x, hx⟩ : ∃ x, strVal l[j] = .string x := ⟨_, rfl⟩
  rw [hx] at hc
  have Hx := Lib.hid hx
  clear hh hcell hDR hk0 hk1 Hnx Hl hx
  go_wp2_with fail
  go_ret
  exact ⟨l[j], Hmem.out, by rw [Hx.out]; rfl, HDR.out⟩
end Go.Proofs.Ytggpjbjeaekifaa
