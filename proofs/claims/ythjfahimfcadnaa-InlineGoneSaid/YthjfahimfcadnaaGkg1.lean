import Derived.Test.YthjfahimfcadnaaGkg0
import Derived.Laws.IdiomStrings
import Derived.Laws.IdiomCopy
import Derived.Deep.AppendSrc
/- Laws for the walk in short forms: append of what a block just made holds; bytes to a string. -/
namespace Go.Proofs.Ythjfahimfcadnaa
open Go.RowKit

/-- 'append(s, x..)', the new elements in a block that was just made: the row of the call's own has grown. -/
theorem app_new {P : Program} {ops : Array Oper} {rest : List Oper} {o : Oper} {a : Act} {Q : Exit → Act → World → Prop} {w : World} (s x : Operand) (t e : TypeId) (z : Value) (size bytes : Nat)
    (hgd : o.guard = none) (ho : o.op = .call { callee := .builtin .append, args := #[s, x], argTypes := #[t, t] })
    (ht : P.underlying t = some (.slice e)) (hinfo : (P.info? e).map (fun i => (i.zero, i.size, i.bytes)) = some (some z, size, bytes)) (hzs : z.cells.size = size) (hsz : 0 < size)
    (base : Nat) {v : Value} {n : Nat} {xs : List Value} (hown : w.ownsRow base e size v n xs) (hbase : base ≤ w.heap.size)
    {m : Nat} {news : List Value} {te : TypeId} (hs : a.eval s = v) (hx : a.eval x = .slice (some ⟨w.heap.size, 0, none⟩) m m)
    (hl : news.length = m * size) (h1 : ∀ u ∈ news, u.oneCell' = true) (h63 : n + m ≤ maxLen) (hbytes : (n + m) * bytes ≤ 140737488355328)
    (h : ∀ v' w', w'.ownsRow base e size v' (n + m) (xs ++ news) → w.grownBy w' v.ownBlock → wpList P ops Q rest (a.put o.dst v') w') :
    wpList P ops Q (o :: rest) a (w.alloc (.cells news.toArray te)) := by
  obtain ⟨i, hi, hz, hsize, hby⟩ := info_parts hinfo
  refine wpList_append_own _ hgd s x t ho base e i z size bytes ht hi hz hsize hby hzs hsz v n xs hs (hown.alloc _) _ m m news hx hl ?_ h1 h63 hbytes ?_ ?_
  · intro j u hj
    have hp : (⟨w.heap.size, 0, none⟩ : Addr).add j = ⟨w.heap.size, j, none⟩ := by unfold Addr.add; split <;> simp_all
    rw [hp, World.cell?_alloc_at _ _ _ _ rfl]
    simpa using hj
  · simp; omega
  · intro v' w' ho' hg _
    exact h v' w' ho' ⟨hg.os, hg.tape, hg.output, Nat.le_trans (by simp) hg.size, fun k hk hne => (hg.block k (by simp; omega) hne).trans (Below.heap_alloc _ _ _ hk)⟩

/-- min(len(s), 8) as the walk writes it -/
theorem min_form (n k : Nat) : ∃ m : Nat, (if (k : Int) < (n : Int) then (k : Int) else (n : Int)) = (m : Int) ∧ m = min n k := by
  refine ⟨min n k, ?_, rfl⟩
  split <;> omega

/-! 'Below w.heap.size w w'': what was there is as it was -/
theorem ext_refl (w : World) : Below w.heap.size w w := Below.refl _ _
theorem ext_trans {a b c : World} (h : Below a.heap.size a b) (k : Below b.heap.size b c) : Below a.heap.size a c := h.trans (k.mono h.size)
theorem ext_alloc {a b : World} (h : Below a.heap.size a b) (o : Obj) : Below a.heap.size a (b.alloc o) := h.alloc h.size o
theorem ext_drew {a b : World} (h : Below a.heap.size a b) : Below a.heap.size a b.drew := h.drew
theorem ext_set {a b : World} (h : Below a.heap.size a b) {p : Addr} (hp : a.heap.size ≤ p.block) (v : Value) : Below a.heap.size a (b.setCell p v) := h.setCell hp v

/-- a block of known cells, all of them: kept closed to the walk; opened by .cells, .frozen, .lt -/
def Blk (w : World) (g : Nat) (l : List Value) : Prop := (∀ i, w.cell? ⟨g, i, none⟩ = l[i]?) ∧ (∀ i, w.frozen? ⟨g, i, none⟩ = false) ∧ g < w.heap.size
theorem Blk.cells {w : World} {g : Nat} {l : List Value} (h : Blk w g l) : ∀ i, w.cell? ⟨g, i, none⟩ = l[i]? := h.1
theorem Blk.frozen {w : World} {g : Nat} {l : List Value} (h : Blk w g l) : ∀ i, w.frozen? ⟨g, i, none⟩ = false := h.2.1
theorem Blk.lt {w : World} {g : Nat} {l : List Value} (h : Blk w g l) : g < w.heap.size := h.2.2
theorem Blk.call {w w' : World} {g : Nat} {l : List Value} (h : Blk w g l) (hb : Below w.heap.size w w') : Blk w' g l :=
  ⟨fun i => (hb.cell (p := ⟨g, i, none⟩) h.lt).trans (h.cells i), fun i => (hb.frozen (p := ⟨g, i, none⟩) h.lt).trans (h.frozen i), Nat.lt_of_lt_of_le h.lt hb.size⟩
theorem Blk.new (w : World) (l : List Value) (t : TypeId) : Blk (w.alloc (.cells l.toArray t)) w.heap.size l :=
  ⟨fun i => by rw [World.cell?_alloc_at _ _ _ _ rfl]; simp, fun i => World.frozen?_alloc_at _ _ _ _ rfl, by simp⟩
theorem Blk.alloc {w : World} {g : Nat} {l : List Value} (h : Blk w g l) (o : Obj) : Blk (w.alloc o) g l := h.call (ext_alloc (ext_refl w) o)
/-- what a call behind a new block leaves -/
theorem fresh_call {w w' : World} {l : List Value} {t : TypeId} (hb : Below (w.alloc (.cells l.toArray t)).heap.size (w.alloc (.cells l.toArray t)) w') : Blk w' w.heap.size l ∧ Below w.heap.size w w' :=
  ⟨(Blk.new w l t).call hb, ext_trans (ext_alloc (ext_refl w) _) hb⟩
/-- the world with its new block under one name -/
theorem fresh_blk (w : World) (l : List Value) (t : TypeId) : ∃ w1, w.alloc (.cells l.toArray t) = w1 ∧ Blk w1 w.heap.size l ∧ Below w.heap.size w w1 := ⟨_, rfl, Blk.new w l t, ext_alloc (ext_refl w) _⟩

/-- strings that differ -/
theorem str_ne {A B : ByteArray} (h : ¬ A = B) : (A.toList == B.toList) = false := by
  rw [beq_eq_false_iff_ne, ByteArray.toList_eq, ByteArray.toList_eq]
  intro he
  exact h (WideShapes.bytes_inj he)

theorem setCell_drewN (w : World) (a : Addr) (v : Value) (k : Nat) : (w.drewN k).setCell a v = (w.setCell a v).drewN k := rfl

/-- a cell that is there stays what it is behind a call that only makes memory -/
theorem cell_keep {w w' : World} (hb : Below w.heap.size w w') {a : Addr} {v : Value} (h : w.cell? a = some v) : w'.cell? a = some v := by
  rw [hb.cell (World.block_lt_of_cell? w a h)]; exact h

/-- what a drawn region keeps: every cell that was there when it began -/
theorem held_start (w1 : World) : (∀ b o, b < w1.heap.size → w1.drew.cell? ⟨b, o, none⟩ = w1.cell? ⟨b, o, none⟩) ∧ (∀ b o, b < w1.heap.size → w1.drew.frozen? ⟨b, o, none⟩ = w1.frozen? ⟨b, o, none⟩) ∧ Below w1.heap.size w1 w1.drew :=
  ⟨fun _ _ _ => rfl, fun _ _ _ => rfl, (Below.refl _ _).drew⟩
theorem held_below {w1 w' : World} (hb : Below w1.heap.size w1 w') :
    (∀ b o, b < w1.heap.size → w'.cell? ⟨b, o, none⟩ = w1.cell? ⟨b, o, none⟩) ∧ (∀ b o, b < w1.heap.size → w'.frozen? ⟨b, o, none⟩ = w1.frozen? ⟨b, o, none⟩) ∧ Below w1.heap.size w1 w' :=
  ⟨fun b o hlt => hb.cell (p := ⟨b, o, none⟩) hlt, fun b o hlt => hb.frozen (p := ⟨b, o, none⟩) hlt, hb⟩
theorem held_call {w1 w' w'' : World} (h : (∀ b o, b < w1.heap.size → w'.cell? ⟨b, o, none⟩ = w1.cell? ⟨b, o, none⟩) ∧ (∀ b o, b < w1.heap.size → w'.frozen? ⟨b, o, none⟩ = w1.frozen? ⟨b, o, none⟩) ∧ Below w1.heap.size w1 w') (hb : Below w'.heap.size w' w'') :
    (∀ b o, b < w1.heap.size → w''.cell? ⟨b, o, none⟩ = w1.cell? ⟨b, o, none⟩) ∧ (∀ b o, b < w1.heap.size → w''.frozen? ⟨b, o, none⟩ = w1.frozen? ⟨b, o, none⟩) ∧ Below w1.heap.size w1 w'' :=
  held_below (h.2.2.trans (hb.mono h.2.2.size))

/-- a new block -/
theorem fresh (w : World) (l : List Value) (t : TypeId) : ∃ w1, w.alloc (.cells l.toArray t) = w1 ∧ w.heap.size < w1.heap.size ∧ Below w.heap.size w w1 ∧ (∀ i, w1.cell? ⟨w.heap.size, i, none⟩ = l[i]?) ∧ (∀ i, w1.frozen? ⟨w.heap.size, i, none⟩ = false) :=
  ⟨_, rfl, by simp, (Below.refl _ _).alloc (Nat.le_refl _) _, fun i => by rw [World.cell?_alloc_at _ _ _ _ rfl]; simp, fun i => World.frozen?_alloc_at _ _ _ _ rfl⟩

/-- Below, one call more -/
theorem below_call {B : Nat} {w w1 w2 : World} (h : Below B w w1) (hb : Below w1.heap.size w1 w2) (hB : B ≤ w1.heap.size) : Below B w w2 := h.trans (hb.mono hB)

theorem below_own {B : Nat} {w wr w' : World} {e : TypeId} {size : Nat} {v : Value} {n : Nat} {xs : List Value} (hb : Below B w wr) (ho : wr.ownsRow B e size v n xs) (hg : wr.grownBy w' v.ownBlock) (hB : B ≤ wr.heap.size) : Below B w w' :=
  hb.grown hg hB fun k hk => (ho.lt k hk).1

def byteVal (b : UInt8) : Value := .int .u8 b.toNat

/-- a row: what stands in the first cells of a block, and that these may be written -/
def rowOf (w : World) (g : Nat) (cs : List Value) : Prop := w.rangeAt g 0 cs ∧ ∀ j, j < cs.length → w.frozen? ⟨g, j, none⟩ = false

theorem rowOf.cell {w : World} {g : Nat} {cs : List Value} (h : rowOf w g cs) {j : Nat} {v : Value} (hj : cs[j]? = some v) : w.cell? ⟨g, j, none⟩ = some v := by
  have := h.1 j v hj; rwa [Nat.zero_add] at this

theorem rowOf.below {w w' : World} {g : Nat} {cs : List Value} (h : rowOf w g cs) {B : Nat} (hb : Below B w w') (hg : g < B) : rowOf w' g cs :=
  ⟨fun j v hj => by rw [hb.cell (p := ⟨g, 0 + j, none⟩) hg]; exact h.1 j v hj, fun j hj => by rw [hb.frozen (p := ⟨g, j, none⟩) hg]; exact h.2 j hj⟩

/-- '[]byte(s)' -/
theorem string_bytes {P : Program} (w : World) {src dst e : TypeId} (s : ByteArray) (hs : P.underlying src = some .string) (hd : P.underlying dst = some (.slice e)) (he : P.underlying e = some (.int .u8)) :
    ∃ cap w', (convert src dst (.string s)).run P w = .ok (.slice (some ⟨w.heap.size, 0, none⟩) s.size cap) w' ∧ s.size ≤ cap ∧ w.heap.size < w'.heap.size ∧ Below w.heap.size w w' ∧ rowOf w' w.heap.size (byteCells s) := by
  refine ⟨_, _, run_bytes_of_string w src dst e s hs hd he, ?_, ?_, ?_, ?_⟩
  · exact Nat.le_add_right _ _
  · simp
  · exact ((Below.refl _ _).drew).alloc (Nat.le_refl _) _
  · have hh : (w.drew.alloc (.cells (bytesRow s (grownCap w s.size 0 e)) e ((bytesRow s (grownCap w s.size 0 e)).size, (bytesRow s (grownCap w s.size 0 e)).size + 1))).heap[w.heap.size]? = some (.cells (bytesRow s (grownCap w s.size 0 e)) e ((bytesRow s (grownCap w s.size 0 e)).size, (bytesRow s (grownCap w s.size 0 e)).size + 1)) := heap_alloc_new w.drew _
    generalize w.drew.alloc (.cells (bytesRow s (grownCap w s.size 0 e)) e ((bytesRow s (grownCap w s.size 0 e)).size, (bytesRow s (grownCap w s.size 0 e)).size + 1)) = w2 at hh
    have hlen : (byteCells s).length = s.size := byteCells_length s
    refine ⟨fun j v hj => ?_, fun j hj => ?_⟩
    · rw [Nat.zero_add, cell_of_row w2 _ j _ _ _ hh]
      have hj2 : j < s.size := by rw [← hlen]; exact (List.getElem?_eq_some_iff.1 hj).1
      unfold bytesRow
      rw [Array.getElem?_append_left (by simpa using hj2), ← hj]
      simp [byteCells]
    · simp only [World.frozen?, hh]
      have h2 : j < (bytesRow s (grownCap w s.size 0 e)).size := by
        rw [hlen] at hj
        simp [bytesRow]
        have : s.data.size = s.size := rfl
        omega
      simp only [Bool.and_eq_false_iff, decide_eq_false_iff_not]
      omega

/-- 'string(b)' of a row -/
theorem bytes_string {P : Program} {w : World} {src dst e : TypeId} (hs : P.underlying src = some (.slice e)) (he : P.underlying e = some (.int .u8)) (hd : P.underlying dst = some .string) {g n cap : Nat} {l : List UInt8}
    (h : rowOf w g (l.map byteVal)) (hn : l.length = n) : (convert src dst (.slice (some ⟨g, 0, none⟩) n cap)).run P w = .ok (.string ⟨l.toArray⟩) w := by
  subst hn
  refine run_convert_bytes_back w src dst e ⟨g, 0, none⟩ cap l hs he hd (fun j hj => ?_)
  rw [Addr.add_mid, Nat.zero_add]
  exact h.cell (by simp [byteVal, hj])

/-- the same behind whatever keeps the old cells -/
theorem bytes_string_held {P : Program} {w : World} {src dst e : TypeId} (hs : P.underlying src = some (.slice e)) (he : P.underlying e = some (.int .u8)) (hd : P.underlying dst = some .string) {g n cap : Nat} {l : List UInt8}
    (h : rowOf w g (l.map byteVal)) (hg : g < w.heap.size) (hn : l.length = n) :
    ∀ w', Below w.heap.size w w' → (convert src dst (.slice (some ⟨g, 0, none⟩) n cap)).run P w' = .ok (.string ⟨l.toArray⟩) w' :=
  fun _ hw => bytes_string hs he hd (h.below hw hg) hn

theorem byteCells_map (s : ByteArray) : byteCells s = s.data.toList.map byteVal := rfl

theorem size_setCellsL (b : Nat) : ∀ (vs : List Value) (o : Nat) (w : World), (w.setCells b o vs).heap.size = w.heap.size
  | [], _, _ => rfl
  | v :: r, o, w => by rw [World.setCells, size_setCellsL b r]; simp [World.setCell]

theorem below_setCellsL {B b : Nat} {a : World} (hb : B ≤ b) : ∀ (vs : List Value) (o : Nat) (w : World), Below B a w → Below B a (w.setCells b o vs)
  | [], _, _, h => h
  | v :: r, o, w, h => below_setCellsL hb r _ _ (h.setCell hb v)

/-- 'copy(b[o:..], s)', s a string -/
theorem copy_string {P : Program} {w : World} (dT sT ty elem : TypeId) (hu : P.underlying dT = some (.slice elem)) (hsz : (P.info? elem).map (·.size) = some 1)
    {g off dLen dCap : Nat} {S : ByteArray} (hle : S.size ≤ dLen) {L : List UInt8} (hrow : rowOf w g (L.map byteVal)) (hfit : off + S.size ≤ L.length) :
    ∃ w', (Builtin.copy_ #[dT, sT] ty #[.slice (some ⟨g, off, none⟩) dLen dCap, .string S]).run P w = .ok (.int .i64 S.size) w' ∧
      rowOf w' g ((L.take off ++ S.data.toList ++ L.drop (off + S.size)).map byteVal) ∧ Below g w w' ∧ w'.heap.size = w.heap.size := by
  have hlen : (byteCells S).length = S.size := byteCells_length S
  have hmin : Nat.min S.size dLen = S.size := by show min _ _ = _; omega
  have hthere : ∀ j, j < (byteCells S).length → (w.cell? ⟨g, off + j, none⟩).isSome = true := fun j hj => by
    have hj2 : off + j < L.length := by omega
    rw [hrow.cell (v := byteVal L[off + j]) (by simp [hj2])]; rfl
  have hfz : ∀ j, j < (byteCells S).length → w.frozen? ⟨g, off + j, none⟩ = false := fun j hj => hrow.2 _ (by rw [List.length_map]; omega)
  have h1 : ∀ v ∈ byteCells S, v.oneCell' = true := fun v hv => by
    obtain ⟨_, _, rfl⟩ := List.mem_map.1 hv; rfl
  have hst := run_storeCells_cells (P := P) g off (byteCells S) 0 w (by simpa using hthere) (by simpa using hfz) h1
  have hrun : (Builtin.copy_ #[dT, sT] ty #[.slice (some ⟨g, off, none⟩) dLen dCap, .string S]).run P w = .ok (goInt S.size) (w.setCells g off (byteCells S)) := by
    cases hq : P.info? elem with
    | none => rw [hq] at hsz; cases hsz
    | some i =>
      rw [hq] at hsz
      have hi : i.size = 1 := by simpa using hsz
      have hfc : (Builtin.firstCells 1 S.size (.string S)).run P w = .ok (byteCells S).toArray w := firstCells_string S w
      have hst' : (storeCells ⟨g, off, none⟩ (byteCells S)).run P w = .ok () (w.setCells g off (byteCells S)) := by
        have := hst
        simpa [storeCells] using this
      simp [Builtin.copy_, run_underlying hu, Builtin.lenOf, sizeOf, typeInfo, hq, hi, hfc, hst', hmin]
  have hsize : (w.setCells g off (byteCells S)).heap.size = w.heap.size := size_setCellsL g _ _ _
  have hbel : ∀ (B : Nat) (w0 : World), Below B w0 w → B ≤ g → Below B w0 (w.setCells g off (byteCells S)) := fun B w0 hb hg => below_setCellsL hg _ _ _ hb
  have key : rowOf (w.setCells g off (byteCells S)) g ((L.take off ++ S.data.toList ++ L.drop (off + S.size)).map byteVal) := by
    have hdl : S.data.toList.length = S.size := by simp
    refine ⟨fun j v hj => ?_, fun j hj => ?_⟩
    · rw [Nat.zero_add]
      by_cases h1 : j < off
      · rw [World.cell?_setCells_out _ _ _ _ _ (fun _ _ => .inl h1)]
        refine hrow.cell ?_
        rw [List.map_append, List.map_append, List.append_assoc, List.getElem?_append_left (by simp; omega)] at hj
        rw [← hj, List.map_take, List.getElem?_take_of_lt h1]
      · by_cases h2 : j < off + S.size
        · have := World.cell?_setCells_in g (byteCells S) off w hthere (j - off) (by omega)
          rw [show off + (j - off) = j by omega] at this
          rw [this, ← hj, List.map_append, List.map_append, List.append_assoc, List.getElem?_append_right (by simp; omega), List.getElem?_append_left (by simp; omega)]
          simp only [List.length_map, List.length_take]
          rw [show j - min off L.length = j - off by omega, List.getElem?_eq_getElem (by simp; omega)]
          rfl
        · rw [World.cell?_setCells_out _ _ _ _ _ (fun _ _ => .inr (by show off + _ ≤ j; omega))]
          refine hrow.cell ?_
          rw [← hj, List.map_append, List.map_append, List.getElem?_append_right (by simp; omega), List.map_drop, List.getElem?_drop]
          simp only [List.length_map, List.length_append, List.length_take, hdl]
          congr 1
          omega
    · rw [World.frozen?_setCells]
      refine hrow.2 j ?_
      simp at hj ⊢; omega
  exact ⟨_, hrun, key, hbel g w (Below.refl _ _) (Nat.le_refl _), hsize⟩

/-- 'string(b)' of a row of the call's own -/
theorem conv_own {P : Program} {w : World} {base : Nat} {src e dst : TypeId} (hs : P.underlying src = some (.slice e)) (he : P.underlying e = some (.int .u8)) (hd : P.underlying dst = some .string)
    {v : Value} {n : Nat} {l : List UInt8} (hown : w.ownsRow base e 1 v n (l.map byteVal)) :
    (convert src dst v).run P w = .ok (.string ⟨l.toArray⟩) w := by
  obtain ⟨hl, hv⟩ := hown
  rcases hv with ⟨rfl, rfl⟩ | ⟨g, cap, cur, rfl, hb, hh, hn, hm, hc, ht⟩
  · have : l = [] := by simpa using hl
    subst this
    rw [run_convert_bytes_nil w src e hs he _ _ dst hd]; rfl
  · rw [run_convert_bytes_arg w src e hs he g 0 n cap (l.map fun b => (b.toNat : Int)) (by simpa using hl) ?_ dst hd]
    · congr 2
      unfold strOfNums
      rw [List.map_map]
      congr 1
      have : (fun n : Int => UInt8.ofNat n.toNat) ∘ (fun b : UInt8 => (b.toNat : Int)) = id := by
        funext b; simp
      rw [this, List.map_id]
    · intro i hi
      have hlen : l.length = n := by simpa using hl
      rw [Nat.zero_add, cell_of_row w g i cur e (0, 0) hh]
      have h2 : (cur.toList.take (n * 1))[i]? = (l.map byteVal)[i]? := by rw [ht]
      rw [List.getElem?_take_of_lt (by omega)] at h2
      rw [← Array.getElem?_toList, h2]
      simp [byteVal, List.getElem?_eq_getElem (show i < l.length by omega), List.getD]

end Go.Proofs.Ythjfahimfcadnaa
