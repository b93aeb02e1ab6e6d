import Derived.Test.YthpjhmgmjfmgcaaAcg0
import Derived.Laws.IdiomStrings
import Derived.Laws.IdiomCopy
import Derived.Deep.AppendSrc
import Derived.StillTailTactics
/- Laws for the walk in short forms: append of what a block just made holds; bytes to a string. -/
namespace Go.Proofs.Ythpjhmgmjfmgcaa
open Go.RowKit

/-- 'append(s, x..)', the new elements in a block that was just made: the row of the call's own has grown. -/
theorem app_new {P : Program} {ops : Array Oper} {rest : List Oper} {o : Oper} {a : Act} {Q : Exit → Act → World → Prop} {w : World} (s x : Operand) (t e : TypeId) (z : Value) (size bytes : Nat)
    (hgd : o.guard = none) (ho : o.op = .call { callee := .builtin .append, args := #[s, x], argTypes := #[t, t] })
    (ht : P.underlying t = some (.slice e)) (hinfo : (P.info? e).map (fun i => (i.zero, i.size, i.bytes)) = some (some z, size, bytes)) (hzs : z.cells.size = size) (hsz : 0 < size)
    (base : Nat) {v : Value} {n : Nat} {xs : List Value} (hown : w.ownsRow base e size v n xs) (hbase : base ≤ w.heap.size)
    {m : Nat} {news : List Value} {te : TypeId} (hs : a.eval s = v) (hx : a.eval x = .slice (some ⟨w.heap.size, 0, none⟩) m m)
    (hl : news.length = m * size) (h1 : ∀ u ∈ news, u.oneCell' = true) (h63 : n + m ≤ maxLen) (hbytes : (n + m) * bytes ≤ 140737488355328)
    (h : ∀ v' w', w'.ownsRow base e size v' (n + m) (xs ++ news) → w.grownBy w' v.ownBlock → wpList P ops Q rest (a.put o.dst v') w') :
    wpList P ops Q (o :: rest) a (w.alloc (.cells news.toArray te)) := by
  obtain ⟨i, hi, hz, hsize, hby⟩ := info_parts hinfo
  refine wpList_append_own _ hgd s x t ho base e i z size bytes ht hi hz hsize hby hzs hsz v n xs hs (hown.alloc _) _ m m news hx hl ?_ h1 h63 hbytes ?_ ?_
  · intro j u hj
    have hp : (⟨w.heap.size, 0, none⟩ : Addr).add j = ⟨w.heap.size, j, none⟩ := by unfold Addr.add; split <;> simp_all
    rw [hp, World.cell?_alloc_at _ _ _ _ rfl]
    simpa using hj
  · simp; omega
  · intro v' w' ho' hg _
    exact h v' w' ho' ⟨hg.os, hg.tape, hg.output, Nat.le_trans (by simp) hg.size, fun k hk hne => (hg.block k (by simp; omega) hne).trans (Below.heap_alloc _ _ _ hk)⟩

/-- min(len(s), 8) as the walk writes it -/
theorem min_form (n k : Nat) : ∃ m : Nat, (if (k : Int) < (n : Int) then (k : Int) else (n : Int)) = (m : Int) ∧ m = min n k := by
  refine ⟨min n k, ?_, rfl⟩
  split <;> omega

/-! 'Below w.heap.size w w'': what was there is as it was -/
theorem ext_refl (w : World) : Below w.heap.size w w := Below.refl _ _
theorem ext_trans {a b c : World} (h : Below a.heap.size a b) (k : Below b.heap.size b c) : Below a.heap.size a c := h.trans (k.mono h.size)
theorem ext_alloc {a b : World} (h : Below a.heap.size a b) (o : Obj) : Below a.heap.size a (b.alloc o) := h.alloc h.size o
theorem ext_drew {a b : World} (h : Below a.heap.size a b) : Below a.heap.size a b.drew := h.drew
theorem ext_set {a b : World} (h : Below a.heap.size a b) {p : Addr} (hp : a.heap.size ≤ p.block) (v : Value) : Below a.heap.size a (b.setCell p v) := h.setCell hp v

/-- a block of known cells, all of them: kept closed to the walk; opened by .cells, .frozen, .lt -/
def Blk (w : World) (g : Nat) (l : List Value) : Prop := (∀ i, w.cell? ⟨g, i, none⟩ = l[i]?) ∧ (∀ i, w.frozen? ⟨g, i, none⟩ = false) ∧ g < w.heap.size
theorem Blk.cells {w : World} {g : Nat} {l : List Value} (h : Blk w g l) : ∀ i, w.cell? ⟨g, i, none⟩ = l[i]? := h.1
theorem Blk.frozen {w : World} {g : Nat} {l : List Value} (h : Blk w g l) : ∀ i, w.frozen? ⟨g, i, none⟩ = false := h.2.1
theorem Blk.lt {w : World} {g : Nat} {l : List Value} (h : Blk w g l) : g < w.heap.size := h.2.2
theorem Blk.call {w w' : World} {g : Nat} {l : List Value} (h : Blk w g l) (hb : Below w.heap.size w w') : Blk w' g l :=
  ⟨fun i => (hb.cell (p := ⟨g, i, none⟩) h.lt).trans (h.cells i), fun i => (hb.frozen (p := ⟨g, i, none⟩) h.lt).trans (h.frozen i), Nat.lt_of_lt_of_le h.lt hb.size⟩
theorem Blk.new (w : World) (l : List Value) (t : TypeId) : Blk (w.alloc (.cells l.toArray t)) w.heap.size l :=
  ⟨fun i => by rw [World.cell?_alloc_at _ _ _ _ rfl]; simp, fun i => World.frozen?_alloc_at _ _ _ _ rfl, by simp⟩
theorem Blk.alloc {w : World} {g : Nat} {l : List Value} (h : Blk w g l) (o : Obj) : Blk (w.alloc o) g l := h.call (ext_alloc (ext_refl w) o)
/-- what a call behind a new block leaves -/
theorem fresh_call {w w' : World} {l : List Value} {t : TypeId} (hb : Below (w.alloc (.cells l.toArray t)).heap.size (w.alloc (.cells l.toArray t)) w') : Blk w' w.heap.size l ∧ Below w.heap.size w w' :=
  ⟨(Blk.new w l t).call hb, ext_trans (ext_alloc (ext_refl w) _) hb⟩
/-- the world with its new block under one name -/
theorem fresh_blk (w : World) (l : List Value) (t : TypeId) : ∃ w1, w.alloc (.cells l.toArray t) = w1 ∧ Blk w1 w.heap.size l ∧ Below w.heap.size w w1 := ⟨_, rfl, Blk.new w l t, ext_alloc (ext_refl w) _⟩

/-- strings that differ -/
theorem str_ne {A B : ByteArray} (h : ¬ A = B) : (A.toList == B.toList) = false := by
  rw [beq_eq_false_iff_ne, ByteArray.toList_eq, ByteArray.toList_eq]
  intro he
  exact h (WideShapes.bytes_inj he)

theorem setCell_drewN (w : World) (a : Addr) (v : Value) (k : Nat) : (w.drewN k).setCell a v = (w.setCell a v).drewN k := rfl

/-- a cell that is there stays what it is behind a call that only makes memory -/
theorem cell_keep {w w' : World} (hb : Below w.heap.size w w') {a : Addr} {v : Value} (h : w.cell? a = some v) : w'.cell? a = some v := by
  rw [hb.cell (World.block_lt_of_cell? w a h)]; exact h

/-- what a drawn region keeps: every cell that was there when it began -/
theorem held_start (w1 : World) : (∀ b o, b < w1.heap.size → w1.drew.cell? ⟨b, o, none⟩ = w1.cell? ⟨b, o, none⟩) ∧ (∀ b o, b < w1.heap.size → w1.drew.frozen? ⟨b, o, none⟩ = w1.frozen? ⟨b, o, none⟩) ∧ Below w1.heap.size w1 w1.drew :=
  ⟨fun _ _ _ => rfl, fun _ _ _ => rfl, (Below.refl _ _).drew⟩
theorem held_below {w1 w' : World} (hb : Below w1.heap.size w1 w') :
    (∀ b o, b < w1.heap.size → w'.cell? ⟨b, o, none⟩ = w1.cell? ⟨b, o, none⟩) ∧ (∀ b o, b < w1.heap.size → w'.frozen? ⟨b, o, none⟩ = w1.frozen? ⟨b, o, none⟩) ∧ Below w1.heap.size w1 w' :=
  ⟨fun b o hlt => hb.cell (p := ⟨b, o, none⟩) hlt, fun b o hlt => hb.frozen (p := ⟨b, o, none⟩) hlt, hb⟩
theorem held_call {w1 w' w'' : World} (h : (∀ b o, b < w1.heap.size → w'.cell? ⟨b, o, none⟩ = w1.cell? ⟨b, o, none⟩) ∧ (∀ b o, b < w1.heap.size → w'.frozen? ⟨b, o, none⟩ = w1.frozen? ⟨b, o, none⟩) ∧ Below w1.heap.size w1 w') (hb : Below w'.heap.size w' w'') :
    (∀ b o, b < w1.heap.size → w''.cell? ⟨b, o, none⟩ = w1.cell? ⟨b, o, none⟩) ∧ (∀ b o, b < w1.heap.size → w''.frozen? ⟨b, o, none⟩ = w1.frozen? ⟨b, o, none⟩) ∧ Below w1.heap.size w1 w'' :=
  held_below (h.2.2.trans (hb.mono h.2.2.size))

/-- a new block -/
theorem fresh (w : World) (l : List Value) (t : TypeId) : ∃ w1, w.alloc (.cells l.toArray t) = w1 ∧ w.heap.size < w1.heap.size ∧ Below w.heap.size w w1 ∧ (∀ i, w1.cell? ⟨w.heap.size, i, none⟩ = l[i]?) ∧ (∀ i, w1.frozen? ⟨w.heap.size, i, none⟩ = false) :=
  ⟨_, rfl, by simp, (Below.refl _ _).alloc (Nat.le_refl _) _, fun i => by rw [World.cell?_alloc_at _ _ _ _ rfl]; simp, fun i => World.frozen?_alloc_at _ _ _ _ rfl⟩

/-- Below, one call more -/
theorem below_call {B : Nat} {w w1 w2 : World} (h : Below B w w1) (hb : Below w1.heap.size w1 w2) (hB : B ≤ w1.heap.size) : Below B w w2 := h.trans (hb.mono hB)

theorem below_own {B : Nat} {w wr w' : World} {e : TypeId} {size : Nat} {v : Value} {n : Nat} {xs : List Value} (hb : Below B w wr) (ho : wr.ownsRow B e size v n xs) (hg : wr.grownBy w' v.ownBlock) (hB : B ≤ wr.heap.size) : Below B w w' :=
  hb.grown hg hB fun k hk => (ho.lt k hk).1

def byteVal (b : UInt8) : Value := .int .u8 b.toNat

/-- a row: what stands in the first cells of a block, and that these may be written -/
def rowOf (w : World) (g : Nat) (cs : List Value) : Prop := w.rangeAt g 0 cs ∧ ∀ j, j < cs.length → w.frozen? ⟨g, j, none⟩ = false

theorem rowOf.cell {w : World} {g : Nat} {cs : List Value} (h : rowOf w g cs) {j : Nat} {v : Value} (hj : cs[j]? = some v) : w.cell? ⟨g, j, none⟩ = some v := by
  have := h.1 j v hj; rwa [Nat.zero_add] at this

theorem rowOf.below {w w' : World} {g : Nat} {cs : List Value} (h : rowOf w g cs) {B : Nat} (hb : Below B w w') (hg : g < B) : rowOf w' g cs :=
  ⟨fun j v hj => by rw [hb.cell (p := ⟨g, 0 + j, none⟩) hg]; exact h.1 j v hj, fun j hj => by rw [hb.frozen (p := ⟨g, j, none⟩) hg]; exact h.2 j hj⟩

/-- '[]byte(s)' -/
theorem string_bytes {P : Program} (w : World) {src dst e : TypeId} (s : ByteArray) (hs : P.underlying src = some .string) (hd : P.underlying dst = some (.slice e)) (he : P.underlying e = some (.int .u8)) :
    ∃ cap w', (convert src dst (.string s)).run P w = .ok (.slice (some ⟨w.heap.size, 0, none⟩) s.size cap) w' ∧ s.size ≤ cap ∧ w.heap.size < w'.heap.size ∧ Below w.heap.size w w' ∧ rowOf w' w.heap.size (byteCells s) := by
  refine ⟨_, _, run_bytes_of_string w src dst e s hs hd he, ?_, ?_, ?_, ?_⟩
  · exact Nat.le_add_right _ _
  · simp
  · exact ((Below.refl _ _).drew).alloc (Nat.le_refl _) _
  · have hh : (w.drew.alloc (.cells (bytesRow s (grownCap w s.size 0 e)) e ((bytesRow s (grownCap w s.size 0 e)).size, (bytesRow s (grownCap w s.size 0 e)).size + 1))).heap[w.heap.size]? = some (.cells (bytesRow s (grownCap w s.size 0 e)) e ((bytesRow s (grownCap w s.size 0 e)).size, (bytesRow s (grownCap w s.size 0 e)).size + 1)) := heap_alloc_new w.drew _
    generalize w.drew.alloc (.cells (bytesRow s (grownCap w s.size 0 e)) e ((bytesRow s (grownCap w s.size 0 e)).size, (bytesRow s (grownCap w s.size 0 e)).size + 1)) = w2 at hh
    have hlen : (byteCells s).length = s.size := byteCells_length s
    refine ⟨fun j v hj => ?_, fun j hj => ?_⟩
    · rw [Nat.zero_add, cell_of_row w2 _ j _ _ _ hh]
      have hj2 : j < s.size := by rw [← hlen]; exact (List.getElem?_eq_some_iff.1 hj).1
      unfold bytesRow
      rw [Array.getElem?_append_left (by simpa using hj2), ← hj]
      simp [byteCells]
    · simp only [World.frozen?, hh]
      have h2 : j < (bytesRow s (grownCap w s.size 0 e)).size := by
        rw [hlen] at hj
        simp [bytesRow]
        have : s.data.size = s.size := rfl
        omega
      simp only [Bool.and_eq_false_iff, decide_eq_false_iff_not]
      omega

/-- 'string(b)' of a row -/
theorem bytes_string {P : Program} {w : World} {src dst e : TypeId} (hs : P.underlying src = some (.slice e)) (he : P.underlying e = some (.int .u8)) (hd : P.underlying dst = some .string) {g n cap : Nat} {l : List UInt8}
    (h : rowOf w g (l.map byteVal)) (hn : l.length = n) : (convert src dst (.slice (some ⟨g, 0, none⟩) n cap)).run P w = .ok (.string ⟨l.toArray⟩) w := by
  subst hn
  refine run_convert_bytes_back w src dst e ⟨g, 0, none⟩ cap l hs he hd (fun j hj => ?_)
  rw [Addr.add_mid, Nat.zero_add]
  exact h.cell (by simp [byteVal, hj])

/-- the same behind whatever keeps the old cells -/
theorem bytes_string_held {P : Program} {w : World} {src dst e : TypeId} (hs : P.underlying src = some (.slice e)) (he : P.underlying e = some (.int .u8)) (hd : P.underlying dst = some .string) {g n cap : Nat} {l : List UInt8}
    (h : rowOf w g (l.map byteVal)) (hg : g < w.heap.size) (hn : l.length = n) :
    ∀ w', Below w.heap.size w w' → (convert src dst (.slice (some ⟨g, 0, none⟩) n cap)).run P w' = .ok (.string ⟨l.toArray⟩) w' :=
  fun _ hw => bytes_string hs he hd (h.below hw hg) hn

theorem byteCells_map (s : ByteArray) : byteCells s = s.data.toList.map byteVal := rfl

theorem size_setCellsL (b : Nat) : ∀ (vs : List Value) (o : Nat) (w : World), (w.setCells b o vs).heap.size = w.heap.size
  | [], _, _ => rfl
  | v :: r, o, w => by rw [World.setCells, size_setCellsL b r]; simp [World.setCell]

theorem below_setCellsL {B b : Nat} {a : World} (hb : B ≤ b) : ∀ (vs : List Value) (o : Nat) (w : World), Below B a w → Below B a (w.setCells b o vs)
  | [], _, _, h => h
  | v :: r, o, w, h => below_setCellsL hb r _ _ (h.setCell hb v)

/-- 'copy(b[o:..], s)', s a string -/
theorem copy_string {P : Program} {w : World} (dT sT ty elem : TypeId) (hu : P.underlying dT = some (.slice elem)) (hsz : (P.info? elem).map (·.size) = some 1)
    {g off dLen dCap : Nat} {S : ByteArray} (hle : S.size ≤ dLen) {L : List UInt8} (hrow : rowOf w g (L.map byteVal)) (hfit : off + S.size ≤ L.length) :
    ∃ w', (Builtin.copy_ #[dT, sT] ty #[.slice (some ⟨g, off, none⟩) dLen dCap, .string S]).run P w = .ok (.int .i64 S.size) w' ∧
      rowOf w' g ((L.take off ++ S.data.toList ++ L.drop (off + S.size)).map byteVal) ∧ Below g w w' ∧ w'.heap.size = w.heap.size := by
  have hlen : (byteCells S).length = S.size := byteCells_length S
  have hmin : Nat.min S.size dLen = S.size := by show min _ _ = _; omega
  have hthere : ∀ j, j < (byteCells S).length → (w.cell? ⟨g, off + j, none⟩).isSome = true := fun j hj => by
    have hj2 : off + j < L.length := by omega
    rw [hrow.cell (v := byteVal L[off + j]) (by simp [hj2])]; rfl
  have hfz : ∀ j, j < (byteCells S).length → w.frozen? ⟨g, off + j, none⟩ = false := fun j hj => hrow.2 _ (by rw [List.length_map]; omega)
  have h1 : ∀ v ∈ byteCells S, v.oneCell' = true := fun v hv => by
    obtain ⟨_, _, rfl⟩ := List.mem_map.1 hv; rfl
  have hst := run_storeCells_cells (P := P) g off (byteCells S) 0 w (by simpa using hthere) (by simpa using hfz) h1
  have hrun : (Builtin.copy_ #[dT, sT] ty #[.slice (some ⟨g, off, none⟩) dLen dCap, .string S]).run P w = .ok (goInt S.size) (w.setCells g off (byteCells S)) := by
    cases hq : P.info? elem with
    | none => rw [hq] at hsz; cases hsz
    | some i =>
      rw [hq] at hsz
      have hi : i.size = 1 := by simpa using hsz
      have hfc : (Builtin.firstCells 1 S.size (.string S)).run P w = .ok (byteCells S).toArray w := firstCells_string S w
      have hst' : (storeCells ⟨g, off, none⟩ (byteCells S)).run P w = .ok () (w.setCells g off (byteCells S)) := by
        have := hst
        simpa [storeCells] using this
      simp [Builtin.copy_, run_underlying hu, Builtin.lenOf, sizeOf, typeInfo, hq, hi, hfc, hst', hmin]
  have hsize : (w.setCells g off (byteCells S)).heap.size = w.heap.size := size_setCellsL g _ _ _
  have hbel : ∀ (B : Nat) (w0 : World), Below B w0 w → B ≤ g → Below B w0 (w.setCells g off (byteCells S)) := fun B w0 hb hg => below_setCellsL hg _ _ _ hb
  have key : rowOf (w.setCells g off (byteCells S)) g ((L.take off ++ S.data.toList ++ L.drop (off + S.size)).map byteVal) := by
    have hdl : S.data.toList.length = S.size := by simp
    refine ⟨fun j v hj => ?_, fun j hj => ?_⟩
    · rw [Nat.zero_add]
      by_cases h1 : j < off
      · rw [World.cell?_setCells_out _ _ _ _ _ (fun _ _ => .inl h1)]
        refine hrow.cell ?_
        rw [List.map_append, List.map_append, List.append_assoc, List.getElem?_append_left (by simp; omega)] at hj
        rw [← hj, List.map_take, List.getElem?_take_of_lt h1]
      · by_cases h2 : j < off + S.size
        · have := World.cell?_setCells_in g (byteCells S) off w hthere (j - off) (by omega)
          rw [show off + (j - off) = j by omega] at this
          rw [this, ← hj, List.map_append, List.map_append, List.append_assoc, List.getElem?_append_right (by simp; omega), List.getElem?_append_left (by simp; omega)]
          simp only [List.length_map, List.length_take]
          rw [show j - min off L.length = j - off by omega, List.getElem?_eq_getElem (by simp; omega)]
          rfl
        · rw [World.cell?_setCells_out _ _ _ _ _ (fun _ _ => .inr (by show off + _ ≤ j; omega))]
          refine hrow.cell ?_
          rw [← hj, List.map_append, List.map_append, List.getElem?_append_right (by simp; omega), List.map_drop, List.getElem?_drop]
          simp only [List.length_map, List.length_append, List.length_take, hdl]
          congr 1
          omega
    · rw [World.frozen?_setCells]
      refine hrow.2 j ?_
      simp at hj ⊢; omega
  exact ⟨_, hrun, key, hbel g w (Below.refl _ _) (Nat.le_refl _), hsize⟩

/-- 'string(b)' of a row of the call's own -/
theorem conv_own {P : Program} {w : World} {base : Nat} {src e dst : TypeId} (hs : P.underlying src = some (.slice e)) (he : P.underlying e = some (.int .u8)) (hd : P.underlying dst = some .string)
    {v : Value} {n : Nat} {l : List UInt8} (hown : w.ownsRow base e 1 v n (l.map byteVal)) :
    (convert src dst v).run P w = .ok (.string ⟨l.toArray⟩) w := by
  obtain ⟨hl, hv⟩ := hown
  rcases hv with ⟨rfl, rfl⟩ | ⟨g, cap, cur, rfl, hb, hh, hn, hm, hc, ht⟩
  · have : l = [] := by simpa using hl
    subst this
    rw [run_convert_bytes_nil w src e hs he _ _ dst hd]; rfl
  · rw [run_convert_bytes_arg w src e hs he g 0 n cap (l.map fun b => (b.toNat : Int)) (by simpa using hl) ?_ dst hd]
    · congr 2
      unfold strOfNums
      rw [List.map_map]
      congr 1
      have : (fun n : Int => UInt8.ofNat n.toNat) ∘ (fun b : UInt8 => (b.toNat : Int)) = id := by
        funext b; simp
      rw [this, List.map_id]
    · intro i hi
      have hlen : l.length = n := by simpa using hl
      rw [Nat.zero_add, cell_of_row w g i cur e (0, 0) hh]
      have h2 : (cur.toList.take (n * 1))[i]? = (l.map byteVal)[i]? := by rw [ht]
      rw [List.getElem?_take_of_lt (by omega)] at h2
      rw [← Array.getElem?_toList, h2]
      simp [byteVal, List.getElem?_eq_getElem (show i < l.length by omega), List.getD]

end Go.Proofs.Ythpjhmgmjfmgcaa
/- The walks of the digest functions. -/
namespace Go.Proofs.Ythpjhmgmjfmgcaa
open Go.ChangeShapes Go.WideShapes Go.RowKit

/-- the value of a digest -/
def dval (n : Int) (c : BitVec 64) : Value := .agg #[.int .i64 n, .int .u64 c.toNat]

set_option maxHeartbeats 400000 in
theorem mod_any (n m : Int) (w : World) (hn : (Lit.int .i64 n).wf = true) (h0 : 1 ≤ m) (h1 : m ≤ 4611686018427387903) :
    Calls Try.prog 12 #[.int .i64 n, .int .i64 m] w fun e w' => e = .returned (.int .i64 (n % m)) ∧ w = w' := by
  have b := tmod_bd n m (by omega)
  have b1 := b.1
  have b2 := b.2
  clear b
  go_enter Try.func12, Try.ntmps12
  go_wp2
  go_ret
  exact ⟨ret_int (mod_fix n m (by omega)), rfl⟩

set_option maxHeartbeats 400000 in
theorem of_any (s : ByteArray) (w : World) (hs : s.size ≤ maxLen) :
    Calls Try.prog 74 #[.string s] w fun e w' => e = .returned (dval s.size (Dg.of s)) ∧ Below w.heap.size w w' := by
  unfold maxLen at hs
  go_enter Try.func74, Try.ntmps74
  go_wp2
  go_loop [3, 4, 5, 8, 18] (fun c i l k q => ∃ n : Nat, n ≤ s.size ∧ k = .int .i64 n ∧ c = .int .u64 (Dg.sum Dg.start (s.data.toList.take n)).toNat) (fun _ _ _ k _ => s.size - (intOf k).toNat)
  case atStart => exact ⟨0, by omega, rfl, rfl⟩
  case round =>
    obtain ⟨n, hn, rfl, rfl⟩ := hrel
    by_cases hlt : n < s.size
    · obtain ⟨c0, hc0⟩ : ∃ c0, c0 = Dg.sum Dg.start (s.data.toList.take n) := ⟨_, rfl⟩
      rw [← hc0]
      have HC := Lib.hid hc0
      clear hc0
      go_wp2
      rw [Dg.w_top, Dg.w_xor]
      go_loop [3, 5, 18] (fun c l q => ∃ j : Nat, j ≤ 8 ∧ q = .int .i64 j ∧ c = .int .u64 (Dg.Ln j (c0 ^^^ Dg.top s[n])).toNat) (fun c l q => 8 - (intOf q).toNat)
      case atStart => exact ⟨0, by omega, rfl, rfl⟩
      case round =>
        obtain ⟨j, hj, rfl, rfl⟩ := hrel
        generalize hd : Dg.Ln j (c0 ^^^ Dg.top s[n]) = d
        have HD := Lib.hid hd
        clear hd
        by_cases hl8 : j < 8
        · go_wp2
          go_round
          case rel => exact ⟨j + 1, by omega, by go_num, by rw [Dg.w_L, ← HD.out]; rfl⟩
          case measure => simp [intOf]; omega
        · go_wp2
          go_round
          case rel => exact ⟨n + 1, by omega, by go_num, by rw [take_snoc s n hlt, Dg.sum_snoc, ← HD.out, HC.out, show j = 8 by omega]⟩
          case measure => simp [intOf]; omega
    · go_wp2
      refine bodyPost_ret (v := dval s.size (Dg.sum Dg.start (s.data.toList.take n))) (by simp [results, Try.results74, go_sem, dval]) rfl ⟨?_, (Below.refl _ _).alloc (Nat.le_refl _) _⟩
      rw [take_all s n (by omega)]; rfl

set_option maxRecDepth 100000 in
set_option maxHeartbeats 400000 in
theorem number_any (n : Nat) (w : World) (hn : n < 18446744073709551616) :
    Calls Try.prog 59 #[.int .u64 n] w fun e w' => e = .returned (.string ⟨(Dg.bs8 n).toArray⟩) ∧ Below w.heap.size w w' := by
  have Hn := Lib.hid hn
  clear hn
  go_enter Try.func59, Try.ntmps59
  go_wp2
  go_loopw [3, 4] (fun v q wr => ∃ j : Nat, j ≤ 8 ∧ q = .int .i64 (56 - 8 * (j : Int)) ∧ wr.ownsRow w.heap.size 5 1 v j (((List.range j).map (Dg.byteAt n)).map byteVal) ∧ Below w.heap.size w wr) (fun _ q _ => (intOf q + 8).toNat)
  case atStart => exact ⟨0, by omega, rfl, World.ownsRow_nil _ _ _ _, Below.refl _ _⟩
  case round =>
    obtain ⟨j, hj, rfl, hown, hbel⟩ := hrel
    have Ho := Lib.hid hown
    clear hown
    have hb1 : w.heap.size ≤ wr.heap.size := hbel.size
    by_cases hl8 : j < 8
    · go_wp2_with (at_builtin; refine app_new _ _ 27 5 (.int .u8 0) 1 1 rfl rfl Try.underlying27 (by kernel_rfl) rfl (by decide) _ Ho.out hb1 rfl rfl rfl ?c1 ?c2 ?c3 ?_)
      case c1 => simp [Value.oneCell']
      case c2 => unfold maxLen; omega
      case c3 => omega
      intro v' w' ho' hg'
      have hbel' := below_own hbel Ho.out hg' hb1
      rw [Dg.w_byte] at ho'
      have Ho' := Lib.hid ho'
      clear ho'
      go_wp2
      go_roundw
      case rel => exact ⟨j + 1, by omega, val_int (by omega), by have := Ho'.out; simpa [Dg.bs8_take n j hl8, byteVal] using this, hbel'⟩
      case measure => simp [intOf]; omega
    · obtain rfl : j = 8 := by omega
      have hconv := conv_own (P := Try.prog) (src := 27) (dst := 9) Try.underlying27 Try.underlying5 Try.underlying9 Ho.out
      go_wp2
      go_ret
      exact ⟨rfl, hbel⟩

end Go.Proofs.Ythpjhmgmjfmgcaa
/- The walk of digest.Bytes. -/
namespace Go.Proofs.Ythpjhmgmjfmgcaa
open Go.ChangeShapes Go.WideShapes Go.RowKit

/-- the word that round r of Bytes writes -/
def wordAt (n : Int) (c : BitVec 64) : Nat → Nat
  | 0 => Dg.u n
  | _ => c.toNat

def outAt (n : Int) (c : BitVec 64) (r j : Nat) : List UInt8 := (if r = 0 then [] else Dg.bs8 (Dg.u n)) ++ (List.range j).map (Dg.byteAt (wordAt n c r))

set_option maxRecDepth 100000 in
set_option maxHeartbeats 400000 in
theorem bytes_any (n : Int) (c : BitVec 64) (w : World) :
    Calls Try.prog 56 #[dval n c] w fun e w' => e = .returned (.string ⟨(Dg.bsOf n c).toArray⟩) ∧ Below w.heap.size w w' := by
  unfold dval
  go_enter Try.func56, Try.ntmps56
  go_wp2_with fail
  rw [Dg.w_u]
  generalize hw1 : (w.alloc (Obj.cells #[Value.int IntKind.i64 n, Value.int IntKind.u64 c.toNat] 51)).alloc (Obj.cells #[Value.int IntKind.u64 (Dg.u n : Int), Value.int IntKind.u64 c.toNat] 28) = w1
  have hz : w1.heap.size = w.heap.size + 2 := by rw [← hw1]; simp
  have hb0 : Below w.heap.size w w1 := by rw [← hw1]; exact ((Below.refl _ _).alloc (Nat.le_refl _) _).alloc (by simp) _
  have hc0 : ∀ r, r < 2 → w1.cell? ⟨w.heap.size + 1, r, none⟩ = some (.int .u64 (wordAt n c r)) := by
    intro r hr
    rw [← hw1, World.cell?_alloc_at _ _ _ _ (by simp)]
    match r, hr with
    | 0, _ => rfl
    | 1, _ => rfl
  have Hw := Lib.hid hw1
  have Hz := Lib.hid hz
  clear hw1 hz
  go_loopw [3, 5, 6, 14] (fun v z i k wr => ∃ r : Nat, r ≤ 2 ∧ k = .int .i64 r ∧ wr.ownsRow w1.heap.size 5 1 v (8 * r) ((if r = 0 then [] else outAt n c (r - 1) 8).map byteVal) ∧ Below w1.heap.size w1 wr) (fun _ _ _ k _ => (2 - intOf k).toNat)
  case atStart => exact ⟨0, by omega, rfl, World.ownsRow_nil _ _ _ _, Below.refl _ _⟩
  case round =>
    obtain ⟨r, hr, rfl, hown, hbel⟩ := hrel
    by_cases hr2 : r < 2
    · have hcell : wr.cell? ⟨w.heap.size + 1, r, none⟩ = some (.int .u64 (wordAt n c r)) := by rw [hbel.cell (by rw [Hz.out]; simp)]; exact hc0 r hr2
      have Ho := Lib.hid hown
      have Hc := Lib.hid hc0
      have hd : decide ((r : Int) < 2) = true := by simp; omega
      clear hown hc0
      go_wp2_with fail
      clear hcell
      go_loopw [3, 6] (fun v i w2 => ∃ j : Nat, j ≤ 8 ∧ i = .int .i64 (7 - (j : Int)) ∧ w2.ownsRow w1.heap.size 5 1 v (8 * r + j) ((outAt n c r j).map byteVal) ∧ Below w1.heap.size w1 w2) (fun _ i _ => (intOf i + 1).toNat)
      case atStart =>
        refine ⟨0, by omega, rfl, ?_, hbel⟩
        have := Ho.out
        match r, hr2 with
        | 0, _ => exact this
        | 1, _ => simpa [outAt, Dg.bs8, wordAt] using this
      case round =>
        obtain ⟨j, hj, rfl, hown2, hbel2⟩ := hrel
        have Ho2 := Lib.hid hown2
        clear hown2
        have hb1 : w1.heap.size ≤ wr.heap.size := hbel2.size
        by_cases hl8 : j < 8
        · go_wp2_with (at_builtin; refine app_new _ _ 27 5 (.int .u8 0) 1 1 rfl rfl Try.underlying27 (by kernel_rfl) rfl (by decide) _ Ho2.out hb1 rfl rfl rfl ?c1 ?c2 ?c3 ?_)
          case c1 => simp [Value.oneCell']
          case c2 => unfold maxLen; omega
          case c3 => omega
          intro v' w' ho' hg'
          have hbel' := below_own hbel2 Ho2.out hg' hb1
          rw [Dg.w_byte'] at ho'
          have Ho' := Lib.hid ho'
          clear ho'
          go_wp2
          go_roundw
          case rel => exact ⟨j + 1, by omega, val_int (by omega), by have := Ho'.out; simpa [outAt, Dg.bs8_take _ j hl8, byteVal, Nat.add_assoc] using this, hbel'⟩
          case measure => simp [intOf]; omega
        · obtain rfl : j = 8 := by omega
          go_wp2
          go_roundw
          case rel => exact ⟨r + 1, by omega, by go_num, Ho2.out, hbel2⟩
          case measure => simp [intOf]; omega
    · obtain rfl : r = 2 := by omega
      have hconv := conv_own (P := Try.prog) (src := 27) (dst := 9) Try.underlying27 Try.underlying5 Try.underlying9 hown
      have Ho := Lib.hid hown
      clear hown
      go_wp2
      go_ret
      exact ⟨rfl, hb0.trans (hbel.mono (by rw [Hz.out]; omega))⟩

end Go.Proofs.Ythpjhmgmjfmgcaa
/- The walks of the reference's digests, of chains, and of the sanity check. -/
namespace Go.Proofs.Ythpjhmgmjfmgcaa
open Go.ChangeShapes Go.WideShapes Go.RowKit

set_option maxRecDepth 100000 in
set_option maxHeartbeats 400000 in
theorem rbytes_any (n : Int) (c : BitVec 64) (w : World) :
    Calls Try.prog 61 #[dval n c] w fun e w' => e = .returned (.string ⟨(Dg.bsOf n c).toArray⟩) ∧ Below w.heap.size w w' := by
  unfold dval
  have hc := c.isLt
  have hu : Dg.u n < 18446744073709551616 := by unfold Dg.u; omega
  have Hc := Lib.hid hc
  have Hu := Lib.hid hu
  clear hc hu
  have hwu := Dg.w_u n
  go_enter Try.func61, Try.ntmps61
  go_wp2_with fail
  have h0 : (w.alloc (Obj.cells #[Value.int IntKind.i64 n, Value.int IntKind.u64 c.toNat] 51)).cell? ⟨w.heap.size, 0, none⟩ = some (.int .i64 n) := by go_simp
  have h1 : (w.alloc (Obj.cells #[Value.int IntKind.i64 n, Value.int IntKind.u64 c.toNat] 51)).cell? ⟨w.heap.size, 1, none⟩ = some (.int .u64 c.toNat) := by go_simp
  have hz : w.heap.size < (w.alloc (Obj.cells #[Value.int IntKind.i64 n, Value.int IntKind.u64 c.toNat] 51)).heap.size := by simp
  have hb0 : Below w.heap.size w (w.alloc (Obj.cells #[Value.int IntKind.i64 n, Value.int IntKind.u64 c.toNat] 51)) := (Below.refl _ _).alloc (Nat.le_refl _) _
  generalize w.alloc (Obj.cells #[Value.int IntKind.i64 n, Value.int IntKind.u64 c.toNat] 51) = w1 at *
  have l1 : (Dg.bs8 (Dg.u n)).length = 8 := Dg.bs8_length _
  have l2 : (Dg.bs8 c.toNat).length = 8 := Dg.bs8_length _
  go_region_held3 (fun w' => (∀ b o, b < w1.heap.size → w'.cell? ⟨b, o, none⟩ = w1.cell? ⟨b, o, none⟩) ∧ (∀ b o, b < w1.heap.size → w'.frozen? ⟨b, o, none⟩ = w1.frozen? ⟨b, o, none⟩) ∧ Below w1.heap.size w1 w')
    (first | exact held_start _ | exact held_call (by assumption) (by assumption) | assumption)
    (first | (go_at_call 59; refine (number_any _ _ (by first | exact Hu.out | exact Hc.out)).mono ?_; rintro e w' ⟨rfl, hb⟩))
  obtain ⟨_, _, hB⟩ := ‹_ ∧ _ ∧ Below w1.heap.size w1 _›
  go_wp2
  go_ret
  exact ⟨ret_str (by rw [ByteArray.mk_append_mk]; rfl), below_call hb0 hB hb0.size⟩

set_option maxRecDepth 100000 in
set_option maxHeartbeats 400000 in
theorem rof_any (s : ByteArray) (w : World) (hs : s.size ≤ maxLen) :
    Calls Try.prog 72 #[.string s] w fun e w' => e = .returned (dval s.size (Dg.of s)) ∧ Below w.heap.size w w' := by
  unfold maxLen at hs
  go_enter Try.func72, Try.ntmps72
  go_wp2
  go_loop [3, 4, 5, 6] (fun c k i l => ∃ n : Nat, n ≤ s.size ∧ k = .int .i64 n ∧ c = .int .u64 (Dg.sum Dg.start (s.data.toList.take n)).toNat) (fun _ k _ _ => s.size - (intOf k).toNat)
  case atStart => exact ⟨0, by omega, rfl, rfl⟩
  case round =>
    obtain ⟨n, hn, rfl, rfl⟩ := hrel
    by_cases hlt : n < s.size
    · have hd : decide ((n : Int) < (s.size : Int)) = true := by simp; omega
      generalize hc0 : Dg.sum Dg.start (s.data.toList.take n) = c0
      have HC := Lib.hid hc0
      clear hc0
      go_wp2
      go_loop [3, 5, 6] (fun c q l => ∃ j : Nat, j ≤ 8 ∧ q = .int .i64 (7 - (j : Int)) ∧ c = .int .u64 (Dg.Ln j (c0 ^^^ Dg.top s[n]) ^^^ (Dg.top s[n] <<< j)).toNat) (fun c q l => (intOf q + 1).toNat)
      case atStart => exact ⟨0, by omega, rfl, by simp [Dg.Ln, BitVec.xor_assoc]⟩
      case round =>
        obtain ⟨j, hj, rfl, rfl⟩ := hrel
        generalize hdd : Dg.Ln j (c0 ^^^ Dg.top s[n]) ^^^ (Dg.top s[n] <<< j) = d
        have HD := Lib.hid hdd
        clear hdd
        have ht := Dg.ref_test d s[n]
        have hst := Dg.ref_step (Dg.Ln j (c0 ^^^ Dg.top s[n])) (Dg.top s[n] <<< j) d HD.out
        rw [← BitVec.shiftLeft_add] at hst
        have Hst := Lib.hid hst
        have Ht := Lib.hid ht
        clear hst ht
        by_cases hl8 : j < 8
        · cases hm : (d.msb != (Dg.top s[n] <<< j).msb)
          · have htt := Ht.out j hl8
            rw [hm] at htt
            have e := Hst.out
            rw [hm] at e
            have He := Lib.hid e
            clear e hm
            go_wp2
            go_round
            case rel => exact ⟨j + 1, by omega, val_int (by omega), val_int (by rw [Dg.w_shl1]; have e := He.out; simp at e; rw [← e]; rfl)⟩
            case measure => simp [intOf]; omega
          · have htt := Ht.out j hl8
            rw [hm] at htt
            have e := Hst.out
            rw [hm] at e
            have He := Lib.hid e
            clear e hm
            go_wp2
            go_round
            case rel => exact ⟨j + 1, by omega, val_int (by omega), val_int (by rw [Dg.w_shl1, show (4823603603198064275 : Int) = (Dg.fac.toNat : Int) from rfl, Dg.w_xor]; have e := He.out; simp only [if_true] at e; rw [← e]; rfl)⟩
            case measure => simp [intOf]; omega
        · obtain rfl : j = 8 := by omega
          go_wp2
          go_round
          case rel =>
            refine ⟨n + 1, by omega, by go_num, ?_⟩
            have h0 : Dg.top s[n] <<< 8 = 0#64 := by unfold Dg.top; rw [← BitVec.shiftLeft_add]; exact BitVec.shiftLeft_eq_zero (by omega)
            rw [take_snoc s n hlt, Dg.sum_snoc, HC.out, ← HD.out, h0, BitVec.xor_zero]
          case measure => simp [intOf]; omega
    · go_wp2
      refine bodyPost_ret (v := dval s.size (Dg.sum Dg.start (s.data.toList.take n))) (by simp [results, Try.results72, go_sem, dval]) rfl ⟨?_, (Below.refl _ _).alloc (Nat.le_refl _) _⟩
      rw [take_all s n (by omega)]; rfl

end Go.Proofs.Ythpjhmgmjfmgcaa
/- Digests: the reader of numbers, chains, both. -/
namespace Go.Proofs.Ythpjhmgmjfmgcaa
open Go.ChangeShapes Go.WideShapes Go.RowKit

theorem extract_list (s : ByteArray) (a b : Nat) : (s.extract a b).data.toList = (s.data.toList.take b).drop a := by
  rw [ByteArray.data_extract, Array.toList_extract, List.extract_eq_take_drop, List.drop_take]

theorem wrap64_small (x : Nat) (h : x < 9223372036854775808) : wrap64 (x : Int) = (x : Int) := by unfold wrap64; omega
theorem wrap64_big (x : Nat) (h : ¬ x < 9223372036854775808) (h2 : x < 18446744073709551616) : decide (wrap64 (x : Int) < 0) = true := by unfold wrap64; simp; omega

theorem rd8_lt (l : List UInt8) : Dg.rd (l.take 8) < 18446744073709551616 :=
  Nat.lt_of_lt_of_le (Dg.rd_lt _) (Nat.le_trans (Nat.pow_le_pow_right (by omega) (List.length_take_le 8 _)) (by decide))

set_option maxRecDepth 100000 in
set_option maxHeartbeats 400000 in
theorem rdnum_any (s : ByteArray) (w : World) (hs : s.size = 8) :
    Calls Try.prog 65 #[.string s] w fun e w' => e = .returned (.int .u64 (Dg.rd s.data.toList)) ∧ w = w' := by
  have Hs := Lib.hid hs
  have hs1 : s.size ≤ 8 := by omega
  have hs2 : 8 ≤ s.size := by omega
  clear hs
  go_enter Try.func65, Try.ntmps65
  go_wp2
  go_loop [3, 4, 5] (fun v i k => ∃ n : Nat, n ≤ 8 ∧ k = .int .i64 n ∧ v = .int .u64 (Dg.rd (s.data.toList.take n))) (fun _ _ k => 8 - (intOf k).toNat)
  case atStart => exact ⟨0, by omega, rfl, rfl⟩
  case round =>
    obtain ⟨n, hn, rfl, rfl⟩ := hrel
    by_cases hlt : n < 8
    · have hr : Dg.rd (s.data.toList.take n) < 72057594037927936 := by
        refine Nat.lt_of_lt_of_le (Dg.rd_lt _) ?_
        rw [List.length_take]
        exact Nat.le_trans (Nat.pow_le_pow_right (by omega) (show min n _ ≤ 7 by omega)) (by decide)
      have Hr := Lib.hid hr
      clear hr
      generalize hx : Dg.rd (s.data.toList.take n) = x at *
      have Hx := Lib.hid hx
      clear hx
      go_wp2
      go_round
      case rel => exact ⟨n + 1, by omega, by go_num, val_int (by rw [Dg.w_or _ _ Hr.out, take_snoc s n (by omega), Dg.rd_snoc, Hx.out])⟩
      case measure => simp [intOf]; omega
    · go_wp2
      go_ret
      exact ⟨ret_int (by rw [take_all s n (by omega)]), rfl⟩

theorem string_size (l : List UInt8) : (⟨l.toArray⟩ : ByteArray).size = l.length := by show l.toArray.size = _; simp
theorem bsOf_length (n : Int) (c : BitVec 64) : (Dg.bsOf n c).length = 16 := by simp [Dg.bsOf, Dg.bs8]

/-- the digest of a digest's bytes and a string -/
def chained (n : Int) (c : BitVec 64) (s : ByteArray) : Value := dval (16 + s.size : Nat) (Dg.sum Dg.start (Dg.bsOf n c ++ s.data.toList))

set_option maxRecDepth 100000 in
set_option maxHeartbeats 400000 in
theorem chain_any (n : Int) (c : BitVec 64) (s : ByteArray) (w : World) (hs : s.size ≤ 1000000) :
    Calls Try.prog 69 #[dval n c, .string s] w fun e w' => e = .returned (chained n c s) ∧ Below w.heap.size w w' := by
  have hl := bsOf_length n c
  unfold dval
  go_enter Try.func69, Try.ntmps69
  go_wp2_with fail
  refine (bytes_any _ _ _).mono ?_; rintro e w1 ⟨rfl, hb1⟩
  obtain ⟨hc1, hf1⟩ := bcell hb1
  have hz1 : w.heap.size + 1 < w1.heap.size := by have := hb1.size; simp at this; omega
  go_wp2_with fail
  refine (of_any _ _ (by unfold maxLen; simp [ByteArray.size_append, string_size]; omega)).mono ?_; rintro e w2 ⟨rfl, hb2⟩
  obtain ⟨hc2, hf2⟩ := bcell hb2
  unfold dval
  have hbel : Below w.heap.size w w2 := below_call ((((Below.refl _ _).alloc (Nat.le_refl _) _).alloc (by simp) _).trans (hb1.mono (by simp; omega))) hb2 (by omega)
  go_wp2_with fail
  refine bodyPost_ret (v := chained n c s) (by simp [results, Try.results69, go_sem, chained, dval, hc2, hf2, hc1, hf1, hz1, Dg.of]) rfl ⟨rfl, (hbel.setCell (by simp) _).setCell (by simp) _⟩

set_option maxRecDepth 100000 in
set_option maxHeartbeats 400000 in
theorem rchain_any (n : Int) (c : BitVec 64) (s : ByteArray) (w : World) (hs : s.size ≤ 1000000) :
    Calls Try.prog 60 #[dval n c, .string s] w fun e w' => e = .returned (chained n c s) ∧ Below w.heap.size w w' := by
  have hl := bsOf_length n c
  unfold dval
  go_enter Try.func60, Try.ntmps60
  go_wp2_with fail
  refine (rbytes_any _ _ _).mono ?_; rintro e w1 ⟨rfl, hb1⟩
  obtain ⟨hc1, hf1⟩ := bcell hb1
  have hz1 : w.heap.size + 1 < w1.heap.size := by have := hb1.size; simp at this; omega
  go_wp2_with fail
  refine (rof_any _ _ (by unfold maxLen; simp [ByteArray.size_append, string_size]; omega)).mono ?_; rintro e w2 ⟨rfl, hb2⟩
  obtain ⟨hc2, hf2⟩ := bcell hb2
  unfold dval
  have hbel : Below w.heap.size w w2 := below_call ((((Below.refl _ _).alloc (Nat.le_refl _) _).alloc (by simp) _).trans (hb1.mono (by simp; omega))) hb2 (by omega)
  go_wp2_with fail
  refine bodyPost_ret (v := chained n c s) (by simp [results, Try.results60, go_sem, chained, dval, hc2, hf2, hc1, hf1, hz1, Dg.of]) rfl ⟨rfl, (hbel.setCell (by simp) _).setCell (by simp) _⟩

end Go.Proofs.Ythpjhmgmjfmgcaa
