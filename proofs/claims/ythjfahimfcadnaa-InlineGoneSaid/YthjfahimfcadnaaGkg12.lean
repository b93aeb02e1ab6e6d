import Derived.Sort.KeysCollected
import Derived.Test.YthjfahimfcadnaaGkg3
import Derived.Test.YthjfahimfcadnaaGkg11
/- Reach, plainly: sets of strings as sorted lists, and what calls lead to. No program in sight. -/
namespace Go.Rc
open Go

abbrev Str := List UInt8
/-- the strings of a list, each once, sorted -/
def norm (l : List Str) : List Str := l.eraseDups.mergeSort leB

theorem nodup_eraseDups : ∀ (n : Nat) (l : List Str), l.length ≤ n → l.eraseDups.Nodup
  | _, [], _ => by simp [List.eraseDups_nil]
  | 0, a :: l, h => by simp at h
  | n + 1, a :: l, h => by
    rw [List.eraseDups_cons]
    have h1 : (l.filter fun b => !b == a).length ≤ n := by
      have := List.length_filter_le (fun b => !b == a) l
      simp only [List.length_cons] at h
      omega
    refine List.nodup_cons.2 ⟨?_, nodup_eraseDups n _ h1⟩
    intro hm
    have := List.mem_eraseDups.1 hm
    simp at this
theorem norm_of {ss l : List Str} (hn : ss.Nodup) (h : ∀ x, x ∈ ss ↔ x ∈ l) : ss.mergeSort leB = norm l := by
  unfold norm
  refine mergeSort_of_perm ((List.perm_ext_iff_of_nodup hn (nodup_eraseDups _ l (Nat.le_refl _))).2 fun x => ?_)
  rw [List.mem_eraseDups]
  exact h x
theorem norm_eq {l m : List Str} (h : ∀ x, x ∈ l ↔ x ∈ m) : norm l = norm m :=
  norm_of (nodup_eraseDups _ l (Nat.le_refl _)) fun x => by rw [List.mem_eraseDups]; exact h x
theorem mem_norm {l : List Str} {x : Str} : x ∈ norm l ↔ x ∈ l := by
  unfold norm
  rw [List.mem_mergeSort, List.mem_eraseDups]

/-- a function with what it calls -/
structure Face where
  mod : Str
  own : List Str
/-- what a symbol calls: that of the first face -/
def ownOf (l : List Face) (s : Str) : List Str := match l.find? (fun f => decide (f.mod = s)) with
  | some f => f.own
  | none => []
inductive Rch (l : List Face) (start : List Str) : Str → Prop
  | base {s : Str} : s ∈ start → Rch l start s
  | step {s t : Str} : Rch l start s → t ∈ ownOf l s → Rch l start t

theorem Rch.trans {l : List Face} {a b : List Str} (h : ∀ s ∈ b, Rch l a s) {t : Str} (k : Rch l b t) : Rch l a t := by
  induction k with
  | base hs => exact h _ hs
  | step _ ht ih => exact .step ih ht

/-- what is known of the search: 'found' are done, 'todo' are still to come -/
structure Srch (l : List Face) (start found todo : List Str) : Prop where
  sound : ∀ s, s ∈ found ∨ s ∈ todo → Rch l start s
  start : ∀ s ∈ start, s ∈ found ∨ s ∈ todo
  next : ∀ s ∈ found, ∀ t ∈ ownOf l s, t ∈ found ∨ t ∈ todo
theorem Srch.begin (l : List Face) (start : List Str) : Srch l start [] start :=
  ⟨fun _ h => .base (h.resolve_left (by simp)), fun _ h => .inr h, by simp⟩
/-- the last one that is still to come was found before -/
theorem Srch.old {l : List Face} {start found todo : List Str} {s : Str} (h : Srch l start found (todo ++ [s])) (hs : s ∈ found) : Srch l start found todo := by
  refine ⟨fun t ht => h.sound t (ht.imp id fun k => by simp [k]), fun t ht => ?_, fun t ht u hu => ?_⟩
  · rcases h.start t ht with k | k
    · exact .inl k
    · rcases List.mem_append.1 k with k | k
      · exact .inr k
      · rw [List.mem_singleton.1 k]; exact .inl hs
  · rcases h.next t ht u hu with k | k
    · exact .inl k
    · rcases List.mem_append.1 k with k | k
      · exact .inr k
      · rw [List.mem_singleton.1 k]; exact .inl hs
/-- .. or not -/
theorem Srch.new {l : List Face} {start found todo : List Str} {s : Str} (h : Srch l start found (todo ++ [s])) : Srch l start (s :: found) (todo ++ ownOf l s) := by
  have hs : Rch l start s := h.sound s (.inr (by simp))
  refine ⟨fun t ht => ?_, fun t ht => ?_, fun t ht u hu => ?_⟩
  · rcases ht with k | k
    · rcases List.mem_cons.1 k with k | k
      · rw [k]; exact hs
      · exact h.sound t (.inl k)
    · rcases List.mem_append.1 k with k | k
      · exact h.sound t (.inr (by simp [k]))
      · exact .step hs k
  · rcases h.start t ht with k | k
    · exact .inl (by simp [k])
    · rcases List.mem_append.1 k with k | k
      · exact .inr (by simp [k])
      · exact .inl (by simp [List.mem_singleton.1 k])
  · rcases List.mem_cons.1 ht with k | k
    · subst k
      exact .inr (by simp [hu])
    · rcases h.next t k u hu with j | j
      · exact .inl (by simp [j])
      · rcases List.mem_append.1 j with j | j
        · exact .inr (by simp [j])
        · exact .inl (by simp [List.mem_singleton.1 j])
theorem Srch.done {l : List Face} {start found : List Str} (h : Srch l start found []) (s : Str) : s ∈ found ↔ Rch l start s := by
  refine ⟨fun k => h.sound s (.inl k), fun k => ?_⟩
  induction k with
  | base hs => exact (h.start _ hs).resolve_right (by simp)
  | step _ ht ih => exact (h.next _ ih _ ht).resolve_right (by simp)

/-- all strings of some faces -/
def univ (l : List Face) (start : List Str) : List Str := start ++ l.flatMap (·.own)
theorem own_sub {l : List Face} {s t : Str} (h : t ∈ ownOf l s) : t ∈ l.flatMap (·.own) := by
  unfold ownOf at h
  split at h
  · rename_i f hf
    exact List.mem_flatMap.2 ⟨f, List.mem_of_find?_eq_some hf, h⟩
  · cases h
theorem own_length {l : List Face} {s : Str} : (ownOf l s).length ≤ (l.flatMap (·.own)).length := by
  unfold ownOf
  split
  · rename_i f hf
    have hm := List.mem_of_find?_eq_some hf
    obtain ⟨a, b, rfl⟩ := List.append_of_mem hm
    simp only [List.flatMap_append, List.flatMap_cons, List.length_append]
    omega
  · simp
theorem Rch.sub {l : List Face} {start : List Str} {s : Str} (h : Rch l start s) : s ∈ univ l start := by
  unfold univ
  cases h with
  | base h => exact List.mem_append_left _ h
  | step _ h => exact List.mem_append_right _ (own_sub h)
/-- how long a search takes at most -/
def meas (l : List Face) (start found todo : List Str) : Nat := ((univ l start).filter fun s => decide (s ∉ found)).length * ((l.flatMap (·.own)).length + 1) + todo.length
theorem filter_less {u found : List Str} {s : Str} (hs : s ∈ u) (hn : s ∉ found) : (u.filter fun t => decide (t ∉ s :: found)).length < (u.filter fun t => decide (t ∉ found)).length := by
  induction u with
  | nil => cases hs
  | cons a u ih =>
    have hle : (u.filter fun t => decide (t ∉ s :: found)).length ≤ (u.filter fun t => decide (t ∉ found)).length := by
      rw [← List.countP_eq_length_filter, ← List.countP_eq_length_filter]
      refine List.countP_mono_left fun t _ ht => ?_
      simp only [decide_eq_true_eq] at ht ⊢
      exact fun h => ht (List.mem_cons_of_mem _ h)
    by_cases ha : a = s
    · subst ha
      rw [List.filter_cons_of_neg (by simp), List.filter_cons_of_pos (by simpa using hn)]
      simp only [List.length_cons]
      omega
    · have hs' : s ∈ u := (List.mem_cons.1 hs).resolve_left fun e => ha e.symm
      have := ih hs'
      by_cases hf : a ∈ found
      · rw [List.filter_cons_of_neg (by simp [hf]), List.filter_cons_of_neg (by simp [hf])]
        exact this
      · rw [List.filter_cons_of_pos (by simp [ha, hf]), List.filter_cons_of_pos (by simp [hf])]
        simp only [List.length_cons]
        omega
theorem meas_old (l : List Face) (start found todo : List Str) (s : Str) : meas l start found todo < meas l start found (todo ++ [s]) := by
  unfold meas; rw [List.length_append]; simp
theorem meas_new {l : List Face} {start found todo : List Str} {s : Str} (h : Srch l start found (todo ++ [s])) (hs : s ∉ found) : meas l start (s :: found) (todo ++ ownOf l s) < meas l start found (todo ++ [s]) := by
  have h1 := filter_less (h.sound s (.inr (by simp))).sub hs
  have h2 := own_length (l := l) (s := s)
  unfold meas
  rw [List.length_append, List.length_append]
  generalize ((univ l start).filter fun t => decide (t ∉ s :: found)).length = a at *
  generalize ((univ l start).filter fun t => decide (t ∉ found)).length = b at *
  generalize (l.flatMap (·.own)).length = c at *
  have h3 : (a + 1) * (c + 1) ≤ b * (c + 1) := Nat.mul_le_mul_right _ h1
  rw [Nat.add_mul] at h3
  simp only [List.length_cons, List.length_nil]
  omega

/-- the lists are a solution -/
theorem steps_law {l : List Face} (hd : ∀ f ∈ l, ownOf l f.mod = f.own) {own : List Str} {x : Str} : (x ∈ own ∨ ∃ f ∈ l, f.mod ∈ own ∧ Rch l f.own x) ↔ Rch l own x := by
  constructor
  · rintro (h | ⟨f, hf, hm, hx⟩)
    · exact .base h
    · refine Rch.trans (fun s hs => ?_) hx
      exact .step (.base hm) (by rw [hd f hf]; exact hs)
  · intro h
    induction h with
    | base h => exact .inl h
    | @step s t hs ht ih =>
      rcases ih with h | ⟨f, hf, hm, hx⟩
      · unfold ownOf at ht
        split at ht
        · rename_i f hf
          have e : f.mod = s := by simpa using List.find?_some hf
          exact .inr ⟨f, List.mem_of_find?_eq_some hf, by rw [e]; exact h, .base ht⟩
        · cases ht
      · exact .inr ⟨f, hf, hm, .step hx ht⟩
end Go.Rc
/- Slices of strings. -/
namespace Go.Proofs.Ythjfahimfcadnaa
open Go.ChangeShapes Go.WideShapes Go.RowKit

def strVal (l : List UInt8) : Value := .string ⟨l.toArray⟩
/-- a slice of strings, only read -/
def SRow (A : Nat → Prop) (w : World) (v : Value) (l : List (List UInt8)) : Prop := ∃ p cap, v = .slice p l.length cap ∧ Holds A w p (l.map strVal) ∧ l.length ≤ cap
theorem SRow.keep {A : Nat → Prop} {w w' : World} {v : Value} {l : List (List UInt8)} (h : SRow A w v l) (hk : Agree A w w') : SRow A w' v l := by
  obtain ⟨p, cap, hv, hh, hc⟩ := h; exact ⟨p, cap, hv, hh.keep hk, hc⟩
theorem SRow.lt {A : Nat → Prop} {w : World} {v : Value} {l : List (List UInt8)} (h : SRow A w v l) : SRow (fun g => A g ∧ g < w.heap.size) w v l := by
  obtain ⟨p, cap, hv, hh, hc⟩ := h
  refine ⟨p, cap, hv, ?_, hc⟩
  by_cases hne : 0 < (l.map strVal).length
  · obtain ⟨g, off, hp, hA, hlt, hcell⟩ := hh.at hne
    exact .inr ⟨g, off, hp, ⟨hA, hlt⟩, hcell⟩
  · exact .inl (List.eq_nil_of_length_eq_zero (by omega))
theorem SRow.mono {A B : Nat → Prop} {w : World} {v : Value} {l : List (List UInt8)} (h : SRow A w v l) (hk : ∀ g, A g → B g) : SRow B w v l := by
  obtain ⟨p, cap, hv, hh, hc⟩ := h; exact ⟨p, cap, hv, hh.mono hk, hc⟩
theorem SRow.nil (A : Nat → Prop) (w : World) : SRow A w (.slice none 0 0) [] := ⟨none, 0, rfl, .inl rfl, Nat.le_refl _⟩
theorem SRow.of_own {w : World} {base n : Nat} {e : TypeId} {v : Value} {l : List (List UInt8)} (h : w.ownsRow base e 1 v n (l.map strVal)) (hn : l.length = n) : SRow (base ≤ ·) w v l := by
  obtain ⟨p, cap, hv, hh, hc⟩ := ownsRow_holds3 h
  exact ⟨p, cap, by rw [hv, hn], hh.mono fun g hg => hg.2, by rw [hn]; exact hc⟩
theorem strVal_data (s : ByteArray) : strVal s.data.toList = .string s := rfl
theorem strVal_mk (l : List UInt8) : (⟨l.toArray⟩ : ByteArray).data.toList = l := by simp
theorem strVal_inj {a b : List UInt8} (h : strVal a = strVal b) : a = b := by simpa [strVal] using h
/-- the string that lies at a place -/
theorem SRow.at {A : Nat → Prop} {w : World} {p : Option Addr} {n cap : Nat} {l : List (List UInt8)} (h : SRow A w (.slice p n cap) l) {k : Nat} (hk : k < n) :
    ∃ g o, p = some ⟨g, o, none⟩ ∧ A g ∧ g < w.heap.size ∧ n = l.length ∧ ∀ j x, l[j]? = some x → w.cell? ⟨g, o + j, none⟩ = some (strVal x) := by
  obtain ⟨p', cap', hv, hh, _⟩ := h
  simp only [Value.slice.injEq] at hv
  obtain ⟨rfl, rfl, _⟩ := hv
  obtain ⟨g, o, rfl, hA, hg, hc⟩ := hh.at (by rw [List.length_map]; omega)
  exact ⟨g, o, rfl, hA, hg, rfl, fun j x hj => hc j _ (by rw [List.getElem?_map, hj]; rfl)⟩
theorem SRow.parts {A : Nat → Prop} {w : World} {v : Value} {l : List (List UInt8)} (h : SRow A w v l) : ∃ p cap, v = .slice p l.length cap := by
  obtain ⟨p, cap, hv, _⟩ := h; exact ⟨p, cap, hv⟩
end Go.Proofs.Ythjfahimfcadnaa
/- Dice of recompilemade: one of some strings. -/
namespace Go.Proofs.Ythjfahimfcadnaa
open Go.ChangeShapes Go.WideShapes Go.RowKit

theorem DiceAt.keep {A : Nat → Prop} {gd : Nat} {tv : Value} {ts : List Int} {w w' : World} (h : DiceAt gd tv ts w) (hk : Agree A w w') (hs : w.heap.size ≤ w'.heap.size) (hA : A gd) : DiceAt gd tv ts w' := by
  obtain ⟨a, ha, hb⟩ := h; exact ⟨a, ha, hb.keep hk hs hA⟩
theorem DiceAt.call {gd : Nat} {tv : Value} {ts : List Int} {w w' : World} (h : DiceAt gd tv ts w) (hb : Below w.heap.size w w') : DiceAt gd tv ts w' := by
  obtain ⟨a, ha, h⟩ := h; exact ⟨a, ha, h.call hb⟩
theorem NewBlk.dr {gd : Nat} {tv : Value} {ts : List Int} {B : Nat} {t : TypeId} {l : List Value} {v : Value} {w w' : World} (h1 : gd < B) (h : NewBlk B t l v w) (hp : DR gd tv ts w w') : NewBlk B t l v w' := by
  obtain ⟨g, hv, hB, hk, ht⟩ := h
  have hA : g ≠ gd := by omega
  exact ⟨g, hv, hB, hk.keep hp.agree hp.size hA, tyAt_keep ht hp.agree hA⟩
theorem new_alloc_dr {P : Program} {gd : Nat} {tv : Value} {ts : List Int} {a : Act} {o : Oper} {w w0 : World} {l : List Value} {t : TypeId} {z : Value} (ho : o.op = .alloc t) (hz : (P.info? t).map (fun i => (i.zero, z.cells.toList)) = some (some z, l)) (hs : w0.heap.size ≤ w.heap.size) :
    ∃ v w', (execOp a.eval o).run P w = .ok (.value v) w' ∧ DR gd tv ts w w' ∧ NewBlk w0.heap.size t l v w' := by
  obtain ⟨v, w', h1, h2, g, h3, h4, h5⟩ := new_alloc (P := P) (a := a) (o := o) (w := w) (w0 := w) ho hz (Below.refl _ _)
  exact ⟨v, w', h1, DR.of_below h2, g, h3, Nat.le_trans hs h4, h5⟩
set_option maxRecDepth 100000 in
theorem of_any {A : Nat → Prop} (gd : Nat) (tv : Value) (ts : List Int) (p : Option Addr) (n cap : Nat) (l : List (List UInt8)) (w : World) (hd : DiceAt gd tv ts w) (ht : IntsAt (· ≠ gd) w tv ts) (hl : Holds A w p (l.map strVal)) (hA : ∀ g, A g → g ≠ gd) (hn : l.length = n) (h0 : 0 < n) (h1 : n ≤ 1000) :
    Calls Try.prog 55 #[.pointer (some ⟨gd, 0, none⟩), .slice p n cap] w fun e w' => ∃ s ∈ l, e = .returned (strVal s) ∧ DR gd tv ts w w' := by
  have hnx := next_any gd tv ts n w hd ht (by omega) (by omega)
  have Hnx := Lib.hid hnx
  have Hl := Lib.hid (hl.mono hA)
  have Hn := Lib.hid hn
  clear hnx hl hd ht hn
  go_enter Try.func55, Try.ntmps55
  go_wp2_with fail
  refine Hnx.out.mono ?_
  rintro e w2 ⟨k, rfl, hk0, hk1, hDR⟩
  obtain ⟨j, rfl⟩ := Int.eq_ofNat_of_zero_le hk0
  have hjn : j < n := by omega
  have hh := Hl.out.keep hDR.agree
  obtain ⟨g, off, rfl, _, hgl, hcell⟩ := hh.at (by rw [List.length_map, Hn.out]; omega)
  have hjl : j < l.length := by rw [Hn.out]; exact hjn
  have hc := hcell j (strVal l[j]) (by simp [hjl])
  have HDR := Lib.hid hDR
  have Hmem : Hid (l[j] ∈ l) := List.getElem_mem hjl
  obtain ⟨x, hx⟩ : ∃ x, strVal l[j] = .string x := ⟨_, rfl⟩
  rw [hx] at hc
  have Hx := Lib.hid hx
  clear hh hcell hDR hk0 hk1 Hnx Hl hx
  go_wp2_with fail
  go_ret
  exact ⟨l[j], Hmem.out, by rw [Hx.out]; rfl, HDR.out⟩
end Go.Proofs.Ythjfahimfcadnaa
