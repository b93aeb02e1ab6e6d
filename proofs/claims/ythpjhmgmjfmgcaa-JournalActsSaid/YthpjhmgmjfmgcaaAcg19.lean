import Derived.Test.YthpjhmgmjfmgcaaAcg10
/- Appending made zeros to the bytes of a string: append([]byte(s), make([]byte, m)...). -/
namespace Go.Proofs.Ythpjhmgmjfmgcaa
open Go.ChangeShapes Go.WideShapes Go.RowKit

/-- bytes in a block of their own, with room behind them -/
def RoomRow (w : World) (g n cap : Nat) (bs : List UInt8) : Prop :=
  bs.length = n ∧ n ≤ cap ∧ g < w.heap.size ∧ (∀ j v, (bs.map byteVal)[j]? = some v → w.cell? ⟨g, j, none⟩ = some v) ∧ (∀ j, j < cap → (w.cell? ⟨g, j, none⟩).isSome = true) ∧ (∀ j, j < cap → w.frozen? ⟨g, j, none⟩ = false)
theorem RoomRow.lt {w : World} {g n cap : Nat} {bs : List UInt8} (h : RoomRow w g n cap bs) : g < w.heap.size := h.2.2.1
theorem RoomRow.keep {A : Nat → Prop} {w w' : World} {g n cap : Nat} {bs : List UInt8} (h : RoomRow w g n cap bs) (hk : Agree A w w') (hs : w.heap.size ≤ w'.heap.size) (hA : A g) : RoomRow w' g n cap bs := by
  obtain ⟨h1, h2, h3, h4, h5, h6⟩ := h
  have he : w'.heap[g]? = w.heap[g]? := hk g hA h3
  refine ⟨h1, h2, Nat.lt_of_lt_of_le h3 hs, fun j v hj => ?_, fun j hj => ?_, fun j hj => ?_⟩
  · rw [World.cell?_of_block (w := w) (a := ⟨g, j, none⟩) he]; exact h4 j v hj
  · rw [World.cell?_of_block (w := w) (a := ⟨g, j, none⟩) he]; exact h5 j hj
  · rw [World.frozen?_of_block (w := w) (a := ⟨g, j, none⟩) he]; exact h6 j hj
theorem RoomRow.call {w w' : World} {g n cap : Nat} {bs : List UInt8} (h : RoomRow w g n cap bs) (hb : Below w.heap.size w w') : RoomRow w' g n cap bs := h.keep (agree_lo hb) hb.size h.lt
theorem RoomRow.holds {w : World} {g n cap : Nat} {bs : List UInt8} (h : RoomRow w g n cap bs) : Holds (fun b => b = g) w (some ⟨g, 0, none⟩) (bs.map byteVal) :=
  holds_row ⟨fun j v hj => by rw [Nat.zero_add]; exact h.2.2.2.1 j v hj, fun j hj => h.2.2.2.2.2 j (by have := h.1; have := h.2.1; simp at hj; omega)⟩ rfl

theorem RoomRow.chunk {w : World} {g n cap k : Nat} {bs : List UInt8} (h : RoomRow w g n cap bs) (hk : 64 * k + 64 ≤ n) : BRow (fun b => b = g) w (.slice (some ⟨g, 0 + 64 * k, none⟩) 64 64) ((bs.drop (64 * k)).take 64) := by
  obtain ⟨h1, h2, h3, h4, h5, h6⟩ := h
  have hl : ((bs.drop (64 * k)).take 64).length = 64 := by rw [List.length_take, List.length_drop]; omega
  refine ⟨some ⟨g, 0 + 64 * k, none⟩, 64, by rw [hl], .inr ⟨g, 0 + 64 * k, rfl, rfl, fun j v hj => ?_⟩, Nat.le_of_eq hl⟩
  have hj2 : j < 64 := by have := (List.getElem?_eq_some_iff.1 hj).1; rwa [List.length_map, hl] at this
  rw [Nat.zero_add]
  refine h4 _ v ?_
  rw [← hj, List.getElem?_map, List.getElem?_map, List.getElem?_take_of_lt hj2, List.getElem?_drop]
theorem string_room {P : Program} (w : World) {src dst e : TypeId} (s : ByteArray) (hs : P.underlying src = some .string) (hd : P.underlying dst = some (.slice e)) (he : P.underlying e = some (.int .u8)) :
    ∃ cap w', (convert src dst (.string s)).run P w = .ok (.slice (some ⟨w.heap.size, 0, none⟩) s.size cap) w' ∧ Below w.heap.size w w' ∧ RoomRow w' w.heap.size s.size cap s.data.toList := by
  refine ⟨_, _, run_bytes_of_string w src dst e s hs hd he, ((Below.refl _ _).drew).alloc (Nat.le_refl _) _, ?_⟩
  have hge := grownCap_ge w s.size 0 e
  have hrs : (bytesRow s (grownCap w s.size 0 e)).size = grownCap w s.size 0 e := by
    simp [bytesRow]
    have : s.data.size = s.size := rfl
    omega
  have hh : (w.drew.alloc (.cells (bytesRow s (grownCap w s.size 0 e)) e ((bytesRow s (grownCap w s.size 0 e)).size, (bytesRow s (grownCap w s.size 0 e)).size + 1))).heap[w.heap.size]? = some (.cells (bytesRow s (grownCap w s.size 0 e)) e ((bytesRow s (grownCap w s.size 0 e)).size, (bytesRow s (grownCap w s.size 0 e)).size + 1)) := heap_alloc_new w.drew _
  have hsz : w.heap.size < (w.drew.alloc (.cells (bytesRow s (grownCap w s.size 0 e)) e ((bytesRow s (grownCap w s.size 0 e)).size, (bytesRow s (grownCap w s.size 0 e)).size + 1))).heap.size := by simp
  generalize w.drew.alloc (.cells (bytesRow s (grownCap w s.size 0 e)) e ((bytesRow s (grownCap w s.size 0 e)).size, (bytesRow s (grownCap w s.size 0 e)).size + 1)) = w2 at hh hsz
  refine ⟨by simp, hge, hsz, fun j v hj => ?_, fun j hj => ?_, fun j hj => ?_⟩
  · rw [cell_of_row w2 _ j _ _ _ hh]
    have hj2 : j < s.size := by have := (List.getElem?_eq_some_iff.1 hj).1; simpa using this
    unfold bytesRow
    rw [Array.getElem?_append_left (by simpa using hj2), ← hj]
    simp [byteVal]
    rfl
  · rw [cell_of_row w2 _ j _ _ _ hh, Array.getElem?_eq_getElem (by omega)]; rfl
  · simp only [World.frozen?, hh, Bool.and_eq_false_iff, decide_eq_false_iff_not]
    omega

theorem made_zeros (m : Nat) : (Builtin.zeroCells #[Value.int .u8 0] m).toList = (List.replicate m (0 : UInt8)).map byteVal := by
  apply List.ext_getElem
  · simp [size_zeroCells]
  · intro i h1 h2
    have : i % 1 = 0 := by omega
    simp [Builtin.zeroCells, byteVal, this]

theorem grownBy_setCells (g : Nat) : ∀ (vs : List Value) (o : Nat) (w : World), w.grownBy (w.setCells g o vs) (some g)
  | [], _, w => ⟨rfl, rfl, rfl, Nat.le_refl _, fun _ _ _ => rfl⟩
  | v :: r, o, w => by
    have h1 := grownBy_setCells g r (o + 1) (w.setCell ⟨g, o, none⟩ v)
    have h2 : Below g w (w.setCell ⟨g, o, none⟩ v) := (Below.refl g w).setCell (p := ⟨g, o, none⟩) (Nat.le_refl g) v
    have h3 := agree_at w g o v
    refine ⟨h1.os.trans h2.os, h1.tape.trans h2.tape, h1.output.trans h2.output, Nat.le_trans (by simp [World.setCell]) h1.size, fun k hk hr => ?_⟩
    exact (h1.block k (by simpa [World.setCell] using hk) hr).trans (h3 k (fun e => hr (by rw [e])) hk)
theorem run_append_make {P : Program} {w : World} {t tx ty e : TypeId} {i : TypeInfo} (ht : P.underlying t = some (.slice e)) (hx : P.underlying tx = some (.int .i64)) (hi : P.info? e = some i)
    (hz : i.zero = some (.int .u8 0)) (hsz : i.size = 1) (hby : i.bytes = 1) {g n cap : Nat} {bs : List UInt8} (h : RoomRow w g n cap bs) (m : Nat) (X : Int) (hX : X = m) (hs : n + m ≤ 1000000) :
    ∃ g' cap' w', (Builtin.append_ #[t, tx] ty #[.slice (some ⟨g, 0, none⟩) n cap, .int .i64 X]).run P w = .ok (.slice (some ⟨g', 0, none⟩) (n + m) cap') w' ∧ RoomRow w' g' (n + m) cap' (bs ++ List.replicate m 0) ∧ w.grownBy w' (some g) ∧ (g' = g ∨ g' = w.heap.size) := by
  subst hX
  obtain ⟨h1, h2, h3, h4, h5, h6⟩ := h
  have hw : IntKind.i64.wrap (m : Int) = m := by rw [IntKind.wrap_i64]; omega
  have hneg : ¬ ((m : Int) < 0) := by omega
  have h48 : ¬ (281474976710656 < (m : Int) * ((1 : Nat) : Int)) := by omega
  have hzc : (Value.int .u8 0).cells = #[Value.int .u8 0] := by rfl
  have ha : ∀ w', (asInt (Value.int .i64 (m : Int))).run P w' = .ok (m : Int) w' := fun _ => rfl
  have h48b : ¬ (281474976710656 < (m : Int)) := by omega
  have hlen : (bs ++ List.replicate m 0).length = n + m := by simp [h1]
  by_cases hroom : n + m ≤ cap
  · have hst := run_storeCells_cells (P := P) g n ((List.replicate m (0 : UInt8)).map byteVal) 0 w (fun j hj => by rw [Nat.add_zero]; exact h5 _ (by simp at hj; omega)) (fun j hj => by rw [Nat.add_zero]; exact h6 _ (by simp at hj; omega)) (by simp [byteVal, Value.oneCell'])
    simp only [Nat.add_zero] at hst
    have hst' := hst
    rw [List.map_replicate] at hst'
    refine ⟨g, cap, w.setCells g n ((List.replicate m (0 : UInt8)).map byteVal), ?_, ⟨hlen, hroom, by rw [size_setCellsL]; exact h3, fun j v hj => ?_, fun j hj => ?_, fun j hj => ?_⟩, ?_, .inl rfl⟩
    · by_cases hm : m = 0
      · subst hm
        have ha0 : ∀ w', (asInt (Value.int .i64 0)).run P w' = .ok 0 w' := fun _ => rfl
        have hw0 : IntKind.i64.wrap 0 = 0 := by rfl
        simp [Builtin.append_, run_underlying ht, run_underlying hx, sizeOf, typeInfo, hi, hsz, hby, ha0, hw0, hroom, Addr.add_lit, storeCells, World.setCells, h2]
      · simp [Builtin.append_, run_underlying ht, run_underlying hx, sizeOf, typeInfo, hi, hsz, hby, ha, hw, hneg, h48b, zeroValue, hz, hzc, hroom, Addr.add_lit, made_zeros, hst', hm]
    · by_cases hjn : j < n
      · rw [World.cell?_setCells_out _ _ _ _ _ (fun _ _ => .inl hjn)]
        refine h4 j v ?_
        rw [← hj, List.map_append, List.getElem?_append_left (by simpa [h1] using hjn)]
      · have hjm : j - n < m := by have := (List.getElem?_eq_some_iff.1 hj).1; rw [List.length_map, hlen] at this; omega
        have := World.cell?_setCells_in g ((List.replicate m (0 : UInt8)).map byteVal) n w (fun j hj => h5 _ (by simp at hj; omega)) (j - n) (by simpa using hjm)
        rw [show n + (j - n) = j by omega] at this
        rw [this, ← hj, List.map_append, List.getElem?_append_right (by simp [h1]; omega)]
        simp only [List.length_map, h1]
        rw [List.getElem?_eq_getElem (by simpa using hjm)]
    · by_cases hjn : j < n ∨ n + m ≤ j
      · rw [World.cell?_setCells_out _ _ _ _ _ (fun _ _ => by simp; omega)]
        exact h5 j hj
      · have hjm : j - n < m := by omega
        have := World.cell?_setCells_in g ((List.replicate m (0 : UInt8)).map byteVal) n w (fun j hj => h5 _ (by simp at hj; omega)) (j - n) (by simpa using hjm)
        rw [show n + (j - n) = j by omega] at this
        rw [this]; rfl
    · rw [World.frozen?_setCells]; exact h6 j hj
    · exact grownBy_setCells g _ n w
  · have hg : ¬ (n + m ≤ cap) := hroom
    have h63' : ¬ (9223372036854775807 < ((n : Int) + (m : Int))) := by omega
    have hgf := growslice_fits (need := n + m) (old := cap) (bytes := 1) (by omega) (by omega)
    have h48' : ¬ (281474976710656 < Builtin.nextslicecap (n + m) cap) := by omega
    have hm : ¬ (m = 0) := by omega
    have hold := run_firstCells_some (P := P) w.drew 1 n ⟨g, 0, none⟩ n cap (bs.map byteVal) (by simp [h1]) (fun j v hj => by
      have := h4 j v hj
      rw [Addr.add_lit, Nat.zero_add]; exact this)
    have hge := grownCap_ge w (n + m) cap e
    refine ⟨w.heap.size, grownCap w (n + m) cap e, w.drew.alloc (.cells (((bs ++ List.replicate m 0).map byteVal).toArray ++ Builtin.zeroCells #[Value.int .u8 0] (grownCap w (n + m) cap e - (n + m))) e), ?_, ?_, ⟨rfl, rfl, rfl, by simp, fun k hk _ => Below.heap_alloc w.drew _ k hk⟩, .inr rfl⟩
    · simp [Builtin.append_, run_underlying ht, run_underlying hx, sizeOf, typeInfo, hi, hsz, hby, ha, hw, hneg, h48b, zeroValue, hz, hzc, hg, h63', h48', Question.forced, hold, hm, newRow, grownCap]
      congr 2
      apply Array.ext'
      simp [made_zeros, List.append_assoc]
    · have hh : (w.drew.alloc (.cells (((bs ++ List.replicate m 0).map byteVal).toArray ++ Builtin.zeroCells #[Value.int .u8 0] (grownCap w (n + m) cap e - (n + m))) e)).heap[w.heap.size]? = _ := heap_alloc_new w.drew (.cells (((bs ++ List.replicate m 0).map byteVal).toArray ++ Builtin.zeroCells #[Value.int .u8 0] (grownCap w (n + m) cap e - (n + m))) e)
      have hsz2 : w.heap.size < (w.drew.alloc (.cells (((bs ++ List.replicate m 0).map byteVal).toArray ++ Builtin.zeroCells #[Value.int .u8 0] (grownCap w (n + m) cap e - (n + m))) e)).heap.size := by simp
      have hcs : (((bs ++ List.replicate m 0).map byteVal).toArray ++ Builtin.zeroCells #[Value.int .u8 0] (grownCap w (n + m) cap e - (n + m))).size = grownCap w (n + m) cap e := by
        simp [size_zeroCells, h1]; omega
      have hpre : ∀ j v, ((bs ++ List.replicate m 0).map byteVal)[j]? = some v → (((bs ++ List.replicate m 0).map byteVal).toArray ++ Builtin.zeroCells #[Value.int .u8 0] (grownCap w (n + m) cap e - (n + m)))[j]? = some v := fun j v hj => by
        rw [Array.getElem?_append_left (by have := (List.getElem?_eq_some_iff.1 hj).1; simpa using this)]
        simpa using hj
      generalize (((bs ++ List.replicate m 0).map byteVal).toArray ++ Builtin.zeroCells #[Value.int .u8 0] (grownCap w (n + m) cap e - (n + m))) = C at hh hsz2 hcs hpre ⊢
      generalize w.drew.alloc (.cells C e) = w2 at hh hsz2 ⊢
      refine ⟨hlen, hge, hsz2, fun j v hj => ?_, fun j hj => ?_, fun j hj => ?_⟩
      · rw [cell_of_row w2 _ j _ _ _ hh]; exact hpre j v hj
      · rw [cell_of_row w2 _ j _ _ _ hh, Array.getElem?_eq_getElem (by omega)]; rfl
      · have hh2 := hh
        simp [World.frozen?, hh2]
/-- an append whose run is known -/
theorem app_run {P : Program} {ops : Array Oper} {rest : List Oper} {o : Oper} {a : Act} {Q : Exit → Act → World → Prop} {w w' : World} {s x : Operand} {t tx : TypeId} {v xv v' : Value}
    (hr : (Builtin.append_ #[t, tx] o.type #[v, xv]).run P w = .ok v' w') (hgd : o.guard = none) (ho : o.op = .call { callee := .builtin .append, args := #[s, x], argTypes := #[t, tx] })
    (hs : a.eval s = v) (hx : a.eval x = xv) (h : wpList P ops Q rest (a.put o.dst v') w') : wpList P ops Q (o :: rest) a w :=
  wpList_plain hgd fun _ hK => by
    unfold Oper.wp execOp
    simp only [ho, resolve, invoke, builtin, Sem.run_bind, Sem.run_pure, Result.andThen_ok, List.map_toArray, List.map_cons, List.map_nil, hs, hx, hr]
    exact hK _ _ h
end Go.Proofs.Ythpjhmgmjfmgcaa
