/- Plain disks: rows of bytes and a list of writes; what is put, synced, cut and read. No program in sight. -/
namespace Go.Dk

abbrev Row := List UInt8
structure Dsk where
  cells : List Row
  writes : List (Int × Row)

def zeros : Row := List.replicate 64 0
def new (n : Nat) : Dsk := ⟨List.replicate n zeros, []⟩
/-- what a run of writes leaves of a row -/
def over (k : Int) : List (Int × Row) → Row → Row
  | [], r => r
  | (j, d) :: ws, r => over k ws (if j = k then d else r)
def read (D : Dsk) (k : Nat) : Row := over k D.writes (D.cells.getD k [])
def put (D : Dsk) (k : Int) (d : Row) : Dsk := ⟨D.cells, D.writes ++ [(k, d)]⟩
/-- the rows behind one write: whole, half, or not -/
def half (d r : Row) : Row := d.take 32 ++ r.drop 32
def one (s : Nat → Bool) (h : Int) (i : Nat) (w : Int × Row) (cs : List Row) : List Row :=
  if (i : Int) = h then cs.set w.1.toNat (half w.2 (cs.getD w.1.toNat [])) else if s i then cs.set w.1.toNat w.2 else cs
def many (s : Nat → Bool) (h : Int) : Nat → List (Int × Row) → List Row → List Row
  | _, [], cs => cs
  | i, w :: ws, cs => many s h (i + 1) ws (one s h i w cs)
def crash (D : Dsk) (s : Nat → Bool) (h : Int) : Dsk := ⟨many s h 0 D.writes D.cells, []⟩
def sync (D : Dsk) : Dsk := crash D (fun _ => true) (-1)

/-- a disk as the functions may be given one -/
structure Good (D : Dsk) : Prop where
  some : 0 < D.cells.length
  few : D.cells.length ≤ 1024
  row : ∀ r ∈ D.cells, r.length = 64
  wr : ∀ w ∈ D.writes, 0 ≤ w.1 ∧ w.1 < D.cells.length ∧ w.2.length = 64
  room : D.writes.length ≤ 64

theorem many_snoc (s : Nat → Bool) (h : Int) : ∀ (ws : List (Int × Row)) (i : Nat) (w : Int × Row) (cs : List Row), many s h i (ws ++ [w]) cs = one s h (i + ws.length) w (many s h i ws cs)
  | [], i, w, cs => rfl
  | v :: ws, i, w, cs => by
    simp only [List.cons_append, many, List.length_cons]
    rw [many_snoc s h ws]
    congr 1
    omega

theorem many_take (s : Nat → Bool) (h : Int) (ws : List (Int × Row)) (cs : List Row) (k : Nat) (w : Int × Row) (hk : ws[k]? = some w) : many s h 0 (ws.take (k + 1)) cs = one s h k w (many s h 0 (ws.take k) cs) := by
  have hlt := (List.getElem?_eq_some_iff.1 hk).1
  have hw := (List.getElem?_eq_some_iff.1 hk).2
  rw [List.take_succ_eq_append_getElem hlt, many_snoc, hw, List.length_take, Nat.zero_add, Nat.min_eq_left (by omega)]

theorem one_length (s : Nat → Bool) (h : Int) (i : Nat) (w : Int × Row) (cs : List Row) : (one s h i w cs).length = cs.length := by
  unfold one; split
  · simp
  · split <;> simp

theorem many_length (s : Nat → Bool) (h : Int) : ∀ (ws : List (Int × Row)) (i : Nat) (cs : List Row), (many s h i ws cs).length = cs.length
  | [], _, _ => rfl
  | w :: ws, i, cs => by rw [many, many_length s h ws, one_length]

theorem over_snoc (k : Int) : ∀ (ws : List (Int × Row)) (w : Int × Row) (r : Row), over k (ws ++ [w]) r = if w.1 = k then w.2 else over k ws r
  | [], _, _ => rfl
  | v :: ws, w, r => by rw [List.cons_append, over, over_snoc k ws, over]

theorem over_take (k : Int) (ws : List (Int × Row)) (r : Row) (i : Nat) (w : Int × Row) (hi : ws[i]? = some w) : over k (ws.take (i + 1)) r = if w.1 = k then w.2 else over k (ws.take i) r := by
  have hlt := (List.getElem?_eq_some_iff.1 hi).1
  have hw := (List.getElem?_eq_some_iff.1 hi).2
  rw [List.take_succ_eq_append_getElem hlt, over_snoc, hw]

theorem half_length {d r : Row} (hd : d.length = 64) (hr : r.length = 64) : (half d r).length = 64 := by unfold half; simp; omega

theorem row_at {cs : List Row} (h : ∀ r ∈ cs, r.length = 64) {k : Nat} (hk : k < cs.length) : (cs.getD k []).length = 64 := by
  rw [List.getD_eq_getElem?_getD, List.getElem?_eq_getElem hk]; exact h _ (List.getElem_mem hk)

theorem one_rows {s : Nat → Bool} {h : Int} {i : Nat} {w : Int × Row} {cs : List Row} (hr : ∀ r ∈ cs, r.length = 64) (h0 : 0 ≤ w.1) (hw : w.1 < cs.length) (hd : w.2.length = 64) : ∀ r ∈ one s h i w cs, r.length = 64 := by
  unfold one
  intro r hm
  split at hm
  · rcases List.mem_or_eq_of_mem_set hm with h | rfl
    · exact hr r h
    · exact half_length hd (row_at hr (by omega))
  · split at hm
    · rcases List.mem_or_eq_of_mem_set hm with h | rfl
      · exact hr r h
      · exact hd
    · exact hr r hm

theorem many_rows {s : Nat → Bool} {h : Int} : ∀ {ws : List (Int × Row)} {i : Nat} {cs : List Row}, (∀ r ∈ cs, r.length = 64) → (∀ w ∈ ws, 0 ≤ w.1 ∧ w.1 < cs.length ∧ w.2.length = 64) → ∀ r ∈ many s h i ws cs, r.length = 64
  | [], _, _, hr, _ => hr
  | w :: ws, i, cs, hr, hw => by
    have h1 := hw w (by simp)
    exact many_rows (ws := ws) (one_rows hr h1.1 h1.2.1 h1.2.2) (fun v hv => by rw [one_length]; exact hw v (by simp [hv]))

theorem crash_good {D : Dsk} (h : Good D) (s : Nat → Bool) (k : Int) : Good (crash D s k) :=
  ⟨by simpa [crash, many_length] using h.some, by simpa [crash, many_length] using h.few, many_rows h.row h.wr, by simp [crash], by simp [crash]⟩

theorem put_good {D : Dsk} (h : Good D) {k : Int} {d : Row} (h0 : 0 ≤ k) (hk : k < D.cells.length) (hd : d.length = 64) (hr : D.writes.length < 64) : Good (put D k d) :=
  ⟨h.some, h.few, h.row, fun w hw => by
    rcases List.mem_append.1 hw with h1 | h1
    · exact h.wr w h1
    · have : w = (k, d) := by simpa using h1
      subst this; exact ⟨h0, hk, hd⟩, by simp [put]; omega⟩

theorem new_good {n : Nat} (h1 : 1 ≤ n) (h2 : n ≤ 1024) : Good (new n) :=
  ⟨by simp [new]; omega, by simpa [new] using h2, fun r hr => by
    have : r = zeros := by simp [new] at hr; exact hr.2
    rw [this]; simp [zeros], by simp [new], by simp [new]⟩

theorem over_length {k : Int} : ∀ {ws : List (Int × Row)} {r : Row}, r.length = 64 → (∀ w ∈ ws, w.2.length = 64) → (over k ws r).length = 64
  | [], _, hr, _ => hr
  | w :: ws, r, hr, hw => by
    unfold over
    refine over_length (ws := ws) ?_ (fun v hv => hw v (by simp [hv]))
    split
    · exact hw w (by simp)
    · exact hr

theorem read_length {D : Dsk} (h : Good D) {k : Nat} (hk : k < D.cells.length) : (read D k).length = 64 :=
  over_length (row_at h.row hk) (fun w hw => (h.wr w hw).2.2)

end Go.Dk
