/- Journals: the dice's words. -/
import Derived.Test.YthpjhmgmjfmgcaaJnA
import Derived.Test.YthpjhmgmjfmgcaaDc
namespace Go.Proofs.Ythpjhmgmjfmgcaa
open Go.ChangeShapes Go.WideShapes Go.RowKit

theorem DiceAt.keep {A : Nat → Prop} {gd : Nat} {tv : Value} {ts : List Int} {w w' : World} (h : DiceAt gd tv ts w) (hk : Agree A w w') (hs : w.heap.size ≤ w'.heap.size) (hA : A gd) : DiceAt gd tv ts w' := by
  obtain ⟨a, ha, hb⟩ := h; exact ⟨a, ha, hb.keep hk hs hA⟩
theorem DiceAt.call {gd : Nat} {tv : Value} {ts : List Int} {w w' : World} (h : DiceAt gd tv ts w) (hb : Below w.heap.size w w') : DiceAt gd tv ts w' := by
  obtain ⟨a, ha, h⟩ := h; exact ⟨a, ha, h.call hb⟩

theorem Holds.apart_ex {A : Nat → Prop} {w : World} {g : Nat} {l cs : List Value} {p : Option Addr} (h : Blk w g l) (hh : Holds A w p cs) (hn : cs = [] ∨ ∃ c ∈ cs, c ∉ l) : Holds (fun k => A k ∧ k ≠ g) w p cs := by
  rcases hn with rfl | ⟨c, hc, hcl⟩
  · exact .inl rfl
  rcases hh with hh | ⟨k, off, hp, hA, hcc⟩
  · exact .inl hh
  · refine .inr ⟨k, off, hp, ⟨hA, fun e => ?_⟩, hcc⟩
    subst e
    obtain ⟨i, hi, rfl⟩ := List.mem_iff_getElem.1 hc
    have h1 := hcc i _ (List.getElem?_eq_getElem hi)
    rw [h.cells] at h1
    exact hcl (List.mem_of_getElem? h1)
theorem DiskAt.apart_of {A : Nat → Prop} {w : World} {v : Value} {D : Dk.Dsk} {g : Nat} {l : List Value} (h : DiskAt A w v D) (hG : Dk.Good D) (hb : Blk w g l) (hl1 : ∀ b, byteVal b ∉ l) (hl2 : ∀ p c, Value.slice p 64 c ∉ l) : DiskAt (fun b => A b ∧ b ≠ g) w v D := by
  obtain ⟨cv, wv', hv, ⟨p, c, vs, e1, e2, e3, e4⟩, ⟨p2, c2, cs2, f1, f2, f3, f4, f5⟩⟩ := h
  have hrow : ∀ {u : Value} {r : Dk.Row}, r.length = 64 → BRow A w u r → u ∉ l ∧ BRow (fun b => A b ∧ b ≠ g) w u r := fun {u r} hl hr => by
    obtain ⟨q, qc, rfl, hq, hqc⟩ := hr
    refine ⟨by rw [hl]; exact hl2 _ _, q, qc, rfl, hq.apart hb fun x hx => ?_, hqc⟩
    obtain ⟨b, _, rfl⟩ := List.mem_map.1 hx
    exact hl1 b
  refine ⟨cv, wv', hv, ⟨p, c, vs, e1, e2.apart hb fun x hx => ?_, e3, fun i r hi => ?_⟩, ⟨p2, c2, cs2, f1, f2.apart_ex hb ?_, f3, fun i k r hi => ?_, f5⟩⟩
  · obtain ⟨i, hi, rfl⟩ := List.mem_iff_getElem.1 hx
    obtain ⟨u, hu, hbr⟩ := e4 i D.cells[i] (List.getElem?_eq_getElem (by omega))
    rw [List.getElem?_eq_getElem hi] at hu
    injection hu with hu
    rw [hu]
    exact (hrow (hG.row _ (List.getElem_mem (by omega))) hbr).1
  · obtain ⟨u, hu, hbr⟩ := e4 i r hi
    exact ⟨u, hu, (hrow (hG.row _ (List.mem_of_getElem? hi)) hbr).2⟩
  · cases hcs : D.writes with
    | nil => exact .inl (List.eq_nil_of_length_eq_zero (by rw [f3, hcs]; rfl))
    | cons wr0 ws =>
      obtain ⟨h1, u2, hu2, hbr⟩ := f4 0 wr0.1 wr0.2 (by rw [hcs]; rfl)
      exact .inr ⟨u2, List.mem_of_getElem? hu2, (hrow (hG.wr wr0 (by rw [hcs]; simp)).2.2 hbr).1⟩
  · obtain ⟨h1, u, hu, hbr⟩ := f4 i k r hi
    exact ⟨h1, u, hu, (hrow (hG.wr _ (List.mem_of_getElem? hi)).2.2 hbr).2⟩
theorem DiskAt.apart6 {A : Nat → Prop} {w : World} {v : Value} {D : Dk.Dsk} {g : Nat} (h : DiskAt A w v D) (hG : Dk.Good D) (hb : Blk w g [.slice none 0 0, .slice none 0 0, .int .i64 0, .int .i64 0, .int .i64 0, .int .u64 0]) : DiskAt (fun b => A b ∧ b ≠ g) w v D :=
  h.apart_of hG hb (fun b => by simp [byteVal]) (fun p c => by simp)
theorem NewBlk.dr {gd : Nat} {tv : Value} {ts : List Int} {B : Nat} {t : TypeId} {l : List Value} {v : Value} {w w' : World} (h1 : gd < B) (h : NewBlk B t l v w) (hp : DR gd tv ts w w') : NewBlk B t l v w' := by
  obtain ⟨g, hv, hB, hk, ht⟩ := h
  have hA : g ≠ gd := by omega
  exact ⟨g, hv, hB, hk.keep hp.agree hp.size hA, tyAt_keep ht hp.agree hA⟩
theorem new_alloc_dr {P : Program} {gd : Nat} {tv : Value} {ts : List Int} {a : Act} {o : Oper} {w w0 : World} {l : List Value} {t : TypeId} {z : Value} (ho : o.op = .alloc t) (hz : (P.info? t).map (fun i => (i.zero, z.cells.toList)) = some (some z, l)) (hs : w0.heap.size ≤ w.heap.size) :
    ∃ v w', (execOp a.eval o).run P w = .ok (.value v) w' ∧ DR gd tv ts w w' ∧ NewBlk w0.heap.size t l v w' := by
  obtain ⟨v, w', h1, h2, g, h3, h4, h5⟩ := new_alloc (P := P) (a := a) (o := o) (w := w) (w0 := w) ho hz (Below.refl _ _)
  exact ⟨v, w', h1, DR.of_below h2, g, h3, Nat.le_trans hs h4, h5⟩
set_option maxRecDepth 100000 in
theorem word_any {A : Nat → Prop} (gd : Nat) (tv : Value) (ts : List Int) (p : Option Addr) (n cap : Nat) (l : List (List UInt8)) (w : World) (hd : DiceAt gd tv ts w) (ht : IntsAt (· ≠ gd) w tv ts) (hl : Holds A w p (l.map strVal)) (hA : ∀ g, A g → g ≠ gd) (hn : l.length = n) (h0 : 0 < n) (h1 : n ≤ 1000) :
    Calls Try.prog 45 #[.pointer (some ⟨gd, 0, none⟩), .slice p n cap] w fun e w' => ∃ s ∈ l, e = .returned (strVal s) ∧ DR gd tv ts w w' := by
  have hnx := next_any gd tv ts n w hd ht (by omega) (by omega)
  have Hnx := Lib.hid hnx
  have Hl := Lib.hid (hl.mono hA)
  have Hn := Lib.hid hn
  clear hnx hl hd ht hn
  go_enter Try.func45, Try.ntmps45
  go_wp2_with fail
  refine Hnx.out.mono ?_
  rintro e w2 ⟨k, rfl, hk0, hk1, hDR⟩
  obtain ⟨j, rfl⟩ := Int.eq_ofNat_of_zero_le hk0
  have hjn : j < n := by omega
  have hh := Hl.out.keep hDR.agree
  obtain ⟨g, off, rfl, _, hgl, hcell⟩ := hh.at (by rw [List.length_map, Hn.out]; omega)
  have hjl : j < l.length := by rw [Hn.out]; exact hjn
  have hc := hcell j (strVal l[j]) (by simp [hjl])
  have HDR := Lib.hid hDR
  have Hmem : Hid (l[j] ∈ l) := List.getElem_mem hjl
  obtain ⟨x, hx⟩ : ∃ x, strVal l[j] = .string x := ⟨_, rfl⟩
  rw [hx] at hc
  have Hx := Lib.hid hx
  clear hh hcell hDR hk0 hk1 Hnx Hl hx
  go_wp2_with fail
  go_ret
  exact ⟨l[j], Hmem.out, by rw [Hx.out]; rfl, HDR.out⟩
end Go.Proofs.Ythpjhmgmjfmgcaa
