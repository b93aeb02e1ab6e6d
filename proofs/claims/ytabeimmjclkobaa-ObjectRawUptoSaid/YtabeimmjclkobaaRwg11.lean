import Derived.Test.YtabeimmjclkobaaRwg5
import Derived.Test.YtabeimmjclkobaaRwg2
/- Objects, plainly: an object is read. -/
namespace Go.Ob
/-- where the reader is, and its error -/
abbrev St := Nat × Int
def rNum (b : List UInt8) (s : St) : Int × St :=
  if s.2 = 0 then ((read (b.drop s.1)).1, (s.1 + (read (b.drop s.1)).2.1, if len (b.drop s.1) = 0 then 8 else if (read (b.drop s.1)).2.2 = true then 0 else 5)) else (0, s)
def rCount (b : List UInt8) (s : St) : Nat × St :=
  if (rNum b s).1 < 0 then (0, ((rNum b s).2.1, 5)) else if 4000 < (rNum b s).1 then (0, ((rNum b s).2.1, 3)) else if (rNum b s).2.2 = 0 then ((rNum b s).1.toNat, (rNum b s).2) else (0, (rNum b s).2)
def rMany (b : List UInt8) : Nat → St → List Int × St
  | 0, s => ([], s)
  | k + 1, s => ((rMany b k s).1 ++ [(rNum b (rMany b k s).2).1], (rNum b (rMany b k s).2).2)
def rList (b : List UInt8) (s : St) : List Int × St := rMany b (rCount b s).1 (rCount b s).2
def rText (b : List UInt8) (s : St) : List UInt8 × St :=
  if b.length - (rCount b s).2.1 < (rCount b s).1 then ([], ((rCount b s).2.1, 8)) else ((b.drop (rCount b s).2.1).take (rCount b s).1, ((rCount b s).2.1 + (rCount b s).1, (rCount b s).2.2))
theorem read_size (b : List UInt8) : (read b).2.1 ≤ b.length := by
  unfold read
  split
  · exact len_le b
  · exact Nat.zero_le _
theorem rNum_at {b : List UInt8} {s : St} (h : s.1 ≤ b.length) : (rNum b s).2.1 ≤ b.length := by
  unfold rNum
  split
  · have := read_size (b.drop s.1)
    rw [List.length_drop] at this
    show s.1 + _ ≤ _
    omega
  · exact h
theorem rCount_at {b : List UInt8} {s : St} (h : s.1 ≤ b.length) : (rCount b s).2.1 ≤ b.length := by
  have := rNum_at h
  unfold rCount
  split
  · exact this
  · split
    · exact this
    · split <;> exact this
theorem rCount_le (b : List UInt8) (s : St) : (rCount b s).1 ≤ 4000 := by
  unfold rCount
  split
  · exact Nat.zero_le _
  · split
    · exact Nat.zero_le _
    · split
      · show (rNum b s).1.toNat ≤ 4000; omega
      · exact Nat.zero_le _
theorem rMany_at {b : List UInt8} {s : St} (h : s.1 ≤ b.length) : ∀ k, (rMany b k s).2.1 ≤ b.length
  | 0 => h
  | k + 1 => rNum_at (rMany_at h k)
theorem rMany_len {b : List UInt8} {s : St} : ∀ k, (rMany b k s).1.length = k
  | 0 => rfl
  | k + 1 => by
    show ((rMany b k s).1 ++ [_]).length = k + 1
    rw [List.length_append, rMany_len k]; rfl
theorem rList_at {b : List UInt8} {s : St} (h : s.1 ≤ b.length) : (rList b s).2.1 ≤ b.length := rMany_at (rCount_at h) _
theorem rText_at {b : List UInt8} {s : St} (h : s.1 ≤ b.length) : (rText b s).2.1 ≤ b.length := by
  have := rCount_at h
  unfold rText
  split
  · exact this
  · show _ + _ ≤ _; omega
theorem unzz_wf {u : Nat} (h : u < 18446744073709551616) : wf (unzz u) := by
  unfold unzz wf
  split <;> omega
theorem read_wf (b : List UInt8) : wf (read b).1 := by
  unfold read
  split
  · rename_i h
    exact unzz_wf (val_good h)
  · exact ⟨by decide, by decide⟩
theorem rNum_wf (b : List UInt8) (s : St) : wf (rNum b s).1 := by
  unfold rNum
  split
  · exact read_wf _
  · show wf 0; exact ⟨by decide, by decide⟩
/-- one operation -/
def rOp (b : List UInt8) (s : St) : Op × St :=
  (⟨(rNum b s).1, (rNum b (rNum b s).2).1, (rNum b (rNum b (rNum b s).2).2).1, (rNum b (rNum b (rNum b (rNum b s).2).2).2).1,
    (rList b (rNum b (rNum b (rNum b (rNum b s).2).2).2).2).1, (rText b (rList b (rNum b (rNum b (rNum b (rNum b s).2).2).2).2).2).1⟩,
   (rText b (rList b (rNum b (rNum b (rNum b (rNum b s).2).2).2).2).2).2)
def rOps (b : List UInt8) : Nat → St → List Op × St
  | 0, s => ([], s)
  | k + 1, s => if (rOps b k s).2.2 = 0 then ((rOps b k s).1 ++ [(rOp b (rOps b k s).2).1], (rOp b (rOps b k s).2).2) else rOps b k s
def zero : Plc := ⟨0, [], 0, 0, []⟩
def rPlaced (b : List UInt8) (s : St) : Plc × St :=
  if b[s.1]? = some 79 then
    let x := rNum b (s.1 + 1, s.2)
    let l := rList b x.2
    let r := rNum b l.2
    let c := rCount b r.2
    let o := rOps b c.1 c.2
    (⟨x.1, l.1, l.1.length, r.1, o.1⟩, o.2)
  else (zero, (s.1, 5))
/-- what ReadObject returns -/
def readObj (b : List UInt8) : Plc × Nat × Int :=
  if (rPlaced b (0, 0)).2.2 = 0 then ((rPlaced b (0, 0)).1, (rPlaced b (0, 0)).2.1, 0) else (zero, 0, (rPlaced b (0, 0)).2.2)
theorem rOp_at {b : List UInt8} {s : St} (h : s.1 ≤ b.length) : (rOp b s).2.1 ≤ b.length :=
  rText_at (rList_at (rNum_at (rNum_at (rNum_at (rNum_at h)))))
theorem rOps_at {b : List UInt8} {s : St} (h : s.1 ≤ b.length) : ∀ k, (rOps b k s).2.1 ≤ b.length
  | 0 => h
  | k + 1 => by
    have := rOps_at h k
    unfold rOps
    split
    · exact rOp_at this
    · exact this
theorem rOps_len {b : List UInt8} {s : St} : ∀ k, (rOps b k s).1.length ≤ k
  | 0 => Nat.le_refl _
  | k + 1 => by
    have := rOps_len (b := b) (s := s) k
    unfold rOps
    split
    · show ((rOps b k s).1 ++ [_]).length ≤ k + 1
      rw [List.length_append]; simp; omega
    · omega
theorem rOps_stop {b : List UInt8} {s : St} {j : Nat} (h : (rOps b j s).2.2 ≠ 0) : ∀ m, rOps b (j + m) s = rOps b j s
  | 0 => rfl
  | m + 1 => by
    have := rOps_stop h m
    show rOps b (j + m + 1) s = _
    rw [rOps, this, if_neg h]
end Go.Ob
/- Objects, plainly: images. -/
namespace Go.Ob
def fpStep (h : Nat) (c : UInt8) : Nat := (h ^^^ c.toNat) * 1099511628211 % 18446744073709551616
def fp (l : List UInt8) : Nat := l.foldl fpStep 14695981039346656037
def chkN (h : Nat) : Nat → List UInt8
  | 0 => []
  | k + 1 => chkN h k ++ [UInt8.ofNat (h / 256 ^ (7 - k) % 256)]
/-- the check value of bytes -/
def chk (l : List UInt8) : List UInt8 := chkN (fp l) 8
/-- an operation that cannot stand in an image -/
def badOp (o : Op) : Bool := o.kind == 19 || (o.kind == 14 && !o.sym.isEmpty)
def bad (p : Plc) : Bool := p.ops.any badOp
def rFns (b : List UInt8) : Nat → St → List Plc × St
  | 0, s => ([], s)
  | k + 1, s => if (rFns b k s).2.2 = 0 then ((rFns b k s).1 ++ [(rPlaced b (rFns b k s).2).1], (rPlaced b (rFns b k s).2).2) else rFns b k s
/-- what ReadImage returns -/
def readImg (b : List UInt8) : List Plc × Int :=
  if b.length < 11 then ([], 8)
  else if b.take 3 ≠ [82, 67, 49] then ([], 5)
  else if b.drop (b.length - 8) ≠ chk (b.take (b.length - 8)) then ([], 1)
  else
    let body := b.take (b.length - 8)
    let c := rCount body (3, 0)
    let r := rFns body c.1 c.2
    if r.1.any bad = true ∨ r.2.2 ≠ 0 ∨ c.1 < 1 ∨ r.2.1 ≠ body.length then ([], 5) else (r.1, 0)
theorem fpStep_lt (h : Nat) (c : UInt8) : fpStep h c < 18446744073709551616 := by
  unfold fpStep
  generalize (h ^^^ c.toNat) * 1099511628211 = x
  omega
theorem fold_lt (l : List UInt8) : ∀ {h : Nat}, h < 18446744073709551616 → l.foldl fpStep h < 18446744073709551616 := by
  induction l with
  | nil => intro h hh; exact hh
  | cons c l ih => intro h _; rw [List.foldl_cons]; exact ih (fpStep_lt h c)
theorem fp_lt (l : List UInt8) : fp l < 18446744073709551616 := by
  have h : (14695981039346656037 : Nat) < 18446744073709551616 := by decide
  unfold fp
  exact fold_lt l h
theorem fp_snoc (l : List UInt8) (c : UInt8) : fp (l ++ [c]) = fpStep (fp l) c := by
  unfold fp
  rw [List.foldl_append, List.foldl_cons, List.foldl_nil]
theorem rPlaced_at {b : List UInt8} {s : St} (h : s.1 ≤ b.length) : (rPlaced b s).2.1 ≤ b.length := by
  unfold rPlaced
  split
  · rename_i hc
    have h1 : s.1 + 1 ≤ b.length := (List.getElem?_eq_some_iff.1 hc).1
    exact rOps_at (rCount_at (rNum_at (rList_at (rNum_at (s := (s.1 + 1, s.2)) h1)))) _
  · exact h
theorem rFns_at {b : List UInt8} {s : St} (h : s.1 ≤ b.length) : ∀ k, (rFns b k s).2.1 ≤ b.length
  | 0 => h
  | k + 1 => by
    have := rFns_at h k
    unfold rFns
    split
    · exact rPlaced_at this
    · exact this
theorem rFns_len {b : List UInt8} {s : St} : ∀ k, (rFns b k s).1.length ≤ k
  | 0 => Nat.le_refl _
  | k + 1 => by
    have := rFns_len (b := b) (s := s) k
    unfold rFns
    split
    · show ((rFns b k s).1 ++ [_]).length ≤ k + 1
      rw [List.length_append]; simp; omega
    · omega
theorem rFns_stop {b : List UInt8} {s : St} {j : Nat} (h : (rFns b j s).2.2 ≠ 0) : ∀ m, rFns b (j + m) s = rFns b j s
  | 0 => rfl
  | m + 1 => by
    have := rFns_stop h m
    show rFns b (j + m + 1) s = _
    rw [rFns, this, if_neg h]
theorem rFns_pre {b : List UInt8} {s : St} (j : Nat) : ∀ m, ∃ t, (rFns b (j + m) s).1 = (rFns b j s).1 ++ t
  | 0 => ⟨[], by simp⟩
  | m + 1 => by
    obtain ⟨t, ht⟩ := rFns_pre (b := b) (s := s) j m
    show ∃ t, (rFns b (j + m + 1) s).1 = _
    rw [rFns]
    split
    · exact ⟨t ++ [_], by rw [ht, List.append_assoc]⟩
    · exact ⟨t, ht⟩
theorem rFns_bad {b : List UInt8} {s : St} {j N : Nat} (hj : j ≤ N) (h : (rFns b j s).1.any bad = true) : (rFns b N s).1.any bad = true := by
  obtain ⟨t, ht⟩ := rFns_pre (b := b) (s := s) j (N - j)
  rw [show j + (N - j) = N by omega] at ht
  rw [ht, List.any_append, h]; rfl
theorem rPlaced_ops (b : List UInt8) (s : St) : (rPlaced b s).1.ops.length ≤ 4000 := by
  unfold rPlaced
  split
  · exact Nat.le_trans (rOps_len _) (rCount_le _ _)
  · exact Nat.zero_le _
theorem rOp_zero {b : List UInt8} {s : St} (h : s.2 ≠ 0) : (rOp b s).2 = s := by
  have h1 : rNum b s = (0, s) := by unfold rNum; rw [if_neg h]
  have h2 : rCount b s = (0, s) := by
    unfold rCount
    rw [h1]
    simp [h]
  have h3 : rList b s = ([], s) := by
    unfold rList
    rw [h2]; rfl
  have h4 : (rText b s).2 = s := by
    unfold rText
    rw [h2]
    simp
  unfold rOp
  simp only [h1, h3, h4]
def readBody (b : List UInt8) : List Plc × Int :=
  if (rFns b (rCount b (3, 0)).1 (rCount b (3, 0)).2).1.any bad = true ∨ (rFns b (rCount b (3, 0)).1 (rCount b (3, 0)).2).2.2 ≠ 0 ∨ (rCount b (3, 0)).1 < 1 ∨ (rFns b (rCount b (3, 0)).1 (rCount b (3, 0)).2).2.1 ≠ b.length then ([], 5) else ((rFns b (rCount b (3, 0)).1 (rCount b (3, 0)).2).1, 0)
theorem readImg_short {b : List UInt8} (h : b.length < 11) : readImg b = ([], 8) := by
  unfold readImg
  rw [if_pos h]
theorem readImg_form {b : List UInt8} (h : ¬ b.length < 11) (h3 : b.take 3 ≠ [82, 67, 49]) : readImg b = ([], 5) := by
  unfold readImg
  rw [if_neg h, if_pos h3]
theorem readImg_wrong {b : List UInt8} (h : ¬ b.length < 11) (h3 : b.take 3 = [82, 67, 49]) (hc : b.drop (b.length - 8) ≠ chk (b.take (b.length - 8))) : readImg b = ([], 1) := by
  unfold readImg
  have h3' : ¬ (b.take 3 ≠ [82, 67, 49]) := fun x => x h3
  rw [if_neg h, if_neg h3', if_pos hc]
theorem readImg_body {b : List UInt8} (h : ¬ b.length < 11) (h3 : b.take 3 = [82, 67, 49]) (hc : b.drop (b.length - 8) = chk (b.take (b.length - 8))) : readImg b = readBody (b.take (b.length - 8)) := by
  unfold readImg
  have h3' : ¬ (b.take 3 ≠ [82, 67, 49]) := fun x => x h3
  have hc' : ¬ (b.drop (b.length - 8) ≠ chk (b.take (b.length - 8))) := fun x => x hc
  rw [if_neg h, if_neg h3', if_neg hc']
  rfl
end Go.Ob
namespace Go.Ob
/-- an operation with its symbol resolved -/
def res (f : List UInt8 → Nat) (o : Op) : Op := if o.kind = 14 then ⟨o.kind, o.a, o.b, (f o.sym : Nat), o.list, []⟩ else o
def resTo (f : List UInt8 → Nat) (l : List Op) (k : Nat) : List Op := (l.take k).map (res f) ++ l.drop k
theorem resTo_zero (f : List UInt8 → Nat) (l : List Op) : resTo f l 0 = l := by simp [resTo]
theorem resTo_all (f : List UInt8 → Nat) (l : List Op) : resTo f l l.length = l.map (res f) := by simp [resTo]
theorem resTo_len (f : List UInt8 → Nat) (l : List Op) (k : Nat) : (resTo f l k).length = l.length := by simp [resTo]; omega
theorem resTo_at {f : List UInt8 → Nat} {l : List Op} {k : Nat} {o : Op} (h : l[k]? = some o) : (resTo f l k)[k]? = some o := by
  have hk := (List.getElem?_eq_some_iff.1 h).1
  unfold resTo
  rw [List.getElem?_append_right (by simp; omega), List.getElem?_drop]
  rw [show k + (k - ((l.take k).map (res f)).length) = k by simp; omega]
  exact h
theorem resTo_succ {f : List UInt8 → Nat} {l : List Op} {k : Nat} {o : Op} (h : l[k]? = some o) : (resTo f l k).set k (res f o) = resTo f l (k + 1) := by
  obtain ⟨hk, ho⟩ := List.getElem?_eq_some_iff.1 h
  unfold resTo
  have h1 : ((l.take k).map (res f)).length = k := by simp; omega
  rw [List.set_append_right _ _ (by omega), h1, Nat.sub_self, List.drop_eq_getElem_cons hk, List.set_cons_zero, List.take_succ_eq_append_getElem hk, List.map_append, List.append_assoc, ho]
  rfl
end Go.Ob
namespace Go.Ob
/-- an image before its check value -/
def img (n : Nat) (l : List Plc) : List UInt8 := [82, 67, 49] ++ num n ++ l.flatMap objB
def resP (f : List UInt8 → Nat) (p : Plc) : Plc := ⟨p.slots, p.at_, p.params, p.regs, p.ops.map (res f)⟩
/-- what the names are, after k of them -/
def known (names : List (List UInt8)) (k : Nat) (s : List UInt8) : Option Value := if s ∈ names.take k then some (.int .i64 (names.idxOf s : Nat)) else none
theorem known_zero (names : List (List UInt8)) : known names 0 = fun _ => none := by
  funext s
  simp [known]
theorem known_new {names : List (List UInt8)} (hn : names.Nodup) {k : Nat} {s : List UInt8} (h : names[k]? = some s) : known names k s = none := by
  unfold known
  rw [if_neg]
  intro hm
  obtain ⟨i, hi, he⟩ := List.mem_iff_getElem.1 hm
  rw [List.length_take] at hi
  rw [List.getElem_take] at he
  obtain ⟨hk, h2⟩ := List.getElem?_eq_some_iff.1 h
  have h3 : names[i]? = names[k]? := by rw [h, List.getElem?_eq_getElem (by omega), he]
  have := (List.getElem?_inj (by omega) hn).1 h3
  omega
theorem idx_at {names : List (List UInt8)} (hn : names.Nodup) {k : Nat} {s : List UInt8} (h : names[k]? = some s) : names.idxOf s = k := by
  obtain ⟨hk, h2⟩ := List.getElem?_eq_some_iff.1 h
  subst h2
  exact List.Nodup.idxOf_getElem hn k hk
theorem known_all {names : List (List UInt8)} {s : List UInt8} (h : s ∈ names) : known names names.length s = some (.int .i64 (names.idxOf s : Nat)) := by
  unfold known
  rw [List.take_length, if_pos h]
theorem img_succ {n : Nat} {f : Plc → Plc} {l : List Plc} {j : Nat} {p : Plc} (h : l[j]? = some p) : img n ((l.take (j + 1)).map f) = img n ((l.take j).map f) ++ objB (f p) := by
  obtain ⟨h1, h2⟩ := List.getElem?_eq_some_iff.1 h
  unfold img
  rw [List.take_succ_eq_append_getElem h1, h2, List.map_append, List.flatMap_append, ← List.append_assoc]
  simp
theorem img_len {n : Nat} {f : Plc → Plc} (l : List Plc) (j : Nat) : (img n ((l.take j).map f)).length ≤ (img n (l.map f)).length := by
  conv => rhs; rw [← List.take_append_drop j l]
  unfold img
  simp only [List.map_append, List.flatMap_append, List.length_append]
  omega
end Go.Ob
/- Objects, plainly: what the reference reads is what the program reads. -/
namespace Go.Ob
theorem len_take : ∀ b : List UInt8, len (b.take (len b)) = len b
  | [] => rfl
  | x :: b => by
    have ih := len_take b
    by_cases h : x.toNat < 128
    · have e : len (x :: b) = 1 := by unfold len; rw [if_pos h]
      rw [e, List.take_succ_cons, List.take_zero]
      unfold len; rw [if_pos h]
    · by_cases h0 : len b = 0
      · have e : len (x :: b) = 0 := by unfold len; rw [if_neg h, if_pos h0]
        rw [e]; rfl
      · have e : len (x :: b) = len b + 1 := by
          conv => lhs; unfold len
          rw [if_neg h, if_neg h0]
        rw [e, List.take_succ_cons]
        conv => lhs; unfold len
        rw [if_neg h, ih, if_neg h0]
theorem getD_take {l : List UInt8} {n i : Nat} (h : i < n) : (l.take n).getD i 0 = l.getD i 0 := by
  rw [List.getD_eq_getElem?_getD, List.getD_eq_getElem?_getD, List.getElem?_take, if_pos h]
/-- of bytes that begin with a number its own bytes alone matter -/
theorem read_take (b : List UInt8) (h : len b ≠ 0) : read (b.take (len b)) = read b := by
  have hl := len_take b
  have hg : good (b.take (len b)) = good b := by
    unfold good
    rw [hl]
    by_cases h9 : len b = 10
    · rw [getD_take (i := 9) (by omega), getD_take (i := len b - 1) (by omega)]
    · rw [getD_take (i := len b - 1) (by omega)]
      have : ∀ x : UInt8, (len b = 10 → x.toNat ≤ 1) ↔ (len b = 10 → (b.getD 9 0).toNat ≤ 1) := fun x => ⟨fun _ e => absurd e h9, fun _ e => absurd e h9⟩
      simp [this, h9]
  unfold read
  rw [hg, hl, List.take_take, Nat.min_self]

/-! what is read from a place on -/
def Shift {α : Type} (f : List UInt8 → St → α × St) : Prop := ∀ (b : List UInt8) (a x : Nat) (e : Int), f b (a + x, e) = ((f (b.drop a) (x, e)).1, (a + (f (b.drop a) (x, e)).2.1, (f (b.drop a) (x, e)).2.2))
theorem rNum_shift : Shift rNum := fun b a x e => by
  unfold rNum
  dsimp only
  rw [List.drop_drop]
  split
  · dsimp only; rw [Nat.add_assoc]
  · rfl
theorem Shift.st {α : Type} {f : List UInt8 → St → α × St} (h : Shift f) (b : List UInt8) (a : Nat) (s : St) : f b (a + s.1, s.2) = ((f (b.drop a) s).1, (a + (f (b.drop a) s).2.1, (f (b.drop a) s).2.2)) := h b a s.1 s.2
theorem rCount_shift : Shift rCount := fun b a x e => by
  unfold rCount
  rw [rNum_shift b a x e]
  dsimp only
  split
  · rfl
  · split
    · rfl
    · split <;> rfl
theorem rMany_shift : ∀ k, Shift fun b s => rMany b k s
  | 0 => fun b a x e => rfl
  | k + 1 => fun b a x e => by
    have ih := rMany_shift k b a x e
    dsimp only at ih ⊢
    unfold rMany
    rw [ih]
    dsimp only
    rw [rNum_shift.st b a (rMany (b.drop a) k (x, e)).2]
theorem rList_shift : Shift rList := fun b a x e => by
  unfold rList
  rw [rCount_shift b a x e]
  dsimp only
  exact (rMany_shift _).st b a _
theorem rText_shift : Shift rText := fun b a x e => by
  unfold rText
  rw [rCount_shift b a x e]
  dsimp only
  rw [List.length_drop, List.drop_drop, Nat.sub_sub]
  split
  · rfl
  · dsimp only; rw [Nat.add_assoc]
theorem rOp_shift : Shift rOp := fun b a x e => by
  unfold rOp
  dsimp only
  rw [rNum_shift b a x e]
  dsimp only
  rw [rNum_shift.st b a]
  dsimp only
  rw [rNum_shift.st b a]
  dsimp only
  rw [rNum_shift.st b a]
  dsimp only
  rw [rList_shift.st b a]
  dsimp only
  rw [rText_shift.st b a]
theorem rOps_shift : ∀ k, Shift fun b s => rOps b k s
  | 0 => fun b a x e => rfl
  | k + 1 => fun b a x e => by
    have ih := rOps_shift k b a x e
    dsimp only at ih ⊢
    unfold rOps
    rw [ih]
    dsimp only
    rw [rOp_shift.st b a]
    split <;> rfl
theorem rPlaced_shift : Shift rPlaced := fun b a x e => by
  unfold rPlaced
  dsimp only
  rw [List.getElem?_drop]
  split
  · rw [Nat.add_assoc, rNum_shift b a (x + 1) e]
    dsimp only
    rw [rList_shift.st b a]
    dsimp only
    rw [rNum_shift.st b a]
    dsimp only
    rw [rCount_shift.st b a]
    dsimp only
    rw [(rOps_shift _).st b a]
  · rfl
/-- one object of an image -/
theorem rPlaced_obj (b : List UInt8) (a : Nat) : rPlaced b (a, 0) = ((rPlaced (b.drop a) (0, 0)).1, (a + (rPlaced (b.drop a) (0, 0)).2.1, (rPlaced (b.drop a) (0, 0)).2.2)) := rPlaced_shift b a 0 0
theorem rNum_err {b : List UInt8} {s : St} (h : s.2 ≠ 0) : rNum b s = (0, s) := by unfold rNum; rw [if_neg h]
theorem rMany_err {b : List UInt8} {s : St} {j : Nat} (h : (rMany b j s).2.2 ≠ 0) : ∀ m, (rMany b (j + m) s).2 = (rMany b j s).2
  | 0 => rfl
  | m + 1 => by
    have ih := rMany_err h m
    show (rNum b (rMany b (j + m) s).2).2 = _
    rw [rNum_err (by rw [ih]; exact h), ih]
theorem rNum_ok {b : List UInt8} {s : St} (h : (rNum b s).2.2 = 0) : s.2 = 0 := by
  by_cases h0 : s.2 = 0
  · exact h0
  · rw [rNum_err h0] at h; exact h
theorem rCount_ok {b : List UInt8} {s : St} (h : (rCount b s).2.2 = 0) : s.2 = 0 := by
  by_cases h0 : s.2 = 0
  · exact h0
  · unfold rCount at h
    rw [rNum_err h0] at h
    simp at h
    exact h
theorem rOps_ok {b : List UInt8} {s : St} : ∀ {k : Nat}, (rOps b k s).2.2 = 0 → s.2 = 0
  | 0, h => h
  | k + 1, h => by
    unfold rOps at h
    split at h
    · rename_i h1
      exact rOps_ok h1
    · rename_i h1
      exact absurd h h1
def Le (p : Plc) : Prop := p.ops.length ≤ 4000 ∧ p.at_.length ≤ 4000 ∧ ∀ o ∈ p.ops, o.list.length ≤ 4000
theorem rList_le (b : List UInt8) (s : St) : (rList b s).1.length ≤ 4000 := by
  unfold rList
  rw [rMany_len]
  exact rCount_le b s
theorem rOps_le (b : List UInt8) (s : St) : ∀ k, ∀ o ∈ (rOps b k s).1, o.list.length ≤ 4000
  | 0, o, h => by cases h
  | k + 1, o, h => by
    unfold rOps at h
    split at h
    · rcases List.mem_append.1 h with h | h
      · exact rOps_le b s k o h
      · rw [List.mem_singleton.1 h]
        exact rList_le _ _
    · exact rOps_le b s k o h
theorem zero_le : Le zero := ⟨Nat.zero_le _, Nat.zero_le _, fun o h => by cases h⟩
theorem rPlaced_le (b : List UInt8) (s : St) : Le (rPlaced b s).1 := by
  unfold rPlaced
  split
  · exact ⟨Nat.le_trans (rOps_len _) (rCount_le _ _), rList_le _ _, rOps_le _ _ _⟩
  · exact zero_le
theorem readObj_le (b : List UInt8) : Le (readObj b).1 := by
  unfold readObj
  split
  · exact rPlaced_le _ _
  · exact zero_le
theorem rFns_le (b : List UInt8) (s : St) : ∀ k, ∀ p ∈ (rFns b k s).1, Le p
  | 0, p, h => by cases h
  | k + 1, p, h => by
    unfold rFns at h
    split at h
    · rcases List.mem_append.1 h with h | h
      · exact rFns_le b s k p h
      · rw [List.mem_singleton.1 h]; exact rPlaced_le _ _
    · exact rFns_le b s k p h
theorem readBody_le (b : List UInt8) : (readBody b).1.length ≤ 4000 ∧ ∀ p ∈ (readBody b).1, Le p := by
  unfold readBody
  split
  · exact ⟨Nat.zero_le _, fun p h => by cases h⟩
  · exact ⟨Nat.le_trans (rFns_len _) (rCount_le _ _), rFns_le _ _ _⟩
theorem readImg_le (b : List UInt8) : (readImg b).1.length ≤ 4000 ∧ ∀ p ∈ (readImg b).1, Le p := by
  by_cases h : b.length < 11
  · rw [readImg_short h]; exact ⟨Nat.zero_le _, fun p h => by cases h⟩
  · by_cases h3 : b.take 3 = [82, 67, 49]
    · by_cases hc : b.drop (b.length - 8) = chk (b.take (b.length - 8))
      · rw [readImg_body h h3 hc]; exact readBody_le _
      · rw [readImg_wrong h h3 hc]; exact ⟨Nat.zero_le _, fun p h => by cases h⟩
    · rw [readImg_form h h3]; exact ⟨Nat.zero_le _, fun p h => by cases h⟩
end Go.Ob
/- Slices of rows that are only read. -/
namespace Go.Proofs.Ytabeimmjclkobaa
open Go.ChangeShapes Go.WideShapes Go.RowKit

/-- 's[l:]' of a row that is only read -/
theorem slice_drop {P : Program} {A : Nat → Prop} {w : World} {cs : List Value} (t e size bytes : Nat) (z : Value) (ht : P.underlying t = some (.slice e)) (he : P.elem t = e) (hs : (P.info? e).map (fun i => (i.zero, i.size, i.bytes)) = some (some z, size, bytes)) (hsz : 0 < size) (p : Option Addr) (n c l : Nat) (hh : Holds A w p cs) (hcs : cs.length = n * size) (hl : l ≤ n) (hc : n ≤ c) :
    ∃ p', (∀ w', (Instr.sliceAt t (.slice p n c) (some (.int .i64 (l : Int))) none none).run P w' = .ok (.slice p' (n - l) (c - l)) w') ∧ Holds A w p' (cs.drop (l * size)) := by
  have ht2 : P.underlying t = some (.slice (P.elem t)) := by rw [he]; exact ht
  obtain ⟨i, hi, hz, hsize, hby⟩ := info_parts hs
  have hrun : ∀ w', (Instr.sliceAt t (.slice p n c) (some (.int .i64 (l : Int))) none none).run P w' = .ok (sliced p l n c size) w' := fun w' => by
    rw [run_sliceAt_slice w' t _ _ _ _ ht2, run_slice_l w' t _ n c ht2 .i64 l (by omega) (by omega), he]
    have h2 : (sizeOf e).run P w' = .ok size w' := by simp [sizeOf, typeInfo, hi, hsize]
    rw [h2]
    simp only [Result.andThen, Int.toNat_natCast]
  refine ⟨_, hrun, ?_⟩
  by_cases hln : l = n
  · rw [List.drop_eq_nil_of_le (by rw [hcs, hln]; exact Nat.le_refl _)]
    exact Holds.nil _ _ _
  · rcases hh with rfl | ⟨g, off, rfl, hA, hcell⟩
    · exfalso
      have h3 : 0 < n * size := Nat.mul_pos (by omega) hsz
      simp at hcs
      omega
    · rw [if_neg (by omega)]
      refine .inr ⟨g, off + l * size, ?_, hA, fun j u hj => ?_⟩
      · show some ((⟨g, off, none⟩ : Addr).add (l * size)) = _
        unfold Addr.add
        split
        · rename_i h0; simp [h0]
        · rfl
      · rw [List.getElem?_drop] at hj
        rw [Nat.add_assoc]
        exact hcell _ _ hj
/-- 's[:h]' of a row that is only read -/
theorem slice_take {P : Program} {A : Nat → Prop} {w : World} {cs : List Value} (t e size bytes : Nat) (z : Value) (ht : P.underlying t = some (.slice e)) (he : P.elem t = e) (hs : (P.info? e).map (fun i => (i.zero, i.size, i.bytes)) = some (some z, size, bytes)) (p : Option Addr) (n c h : Nat) (hh : Holds A w p cs) (hc : h ≤ c) :
    ∃ p', (∀ w', (Instr.sliceAt t (.slice p n c) none (some (.int .i64 (h : Int))) none).run P w' = .ok (.slice p' h c) w') ∧ Holds A w p' (cs.take (h * size)) := by
  have ht2 : P.underlying t = some (.slice (P.elem t)) := by rw [he]; exact ht
  obtain ⟨i, hi, hz, hsize, hby⟩ := info_parts hs
  have hrun : ∀ w', (Instr.sliceAt t (.slice p n c) none (some (.int .i64 (h : Int))) none).run P w' = .ok (sliced p 0 h c size) w' := fun w' => by
    rw [run_sliceAt_slice w' t _ _ _ _ ht2, run_slice_h w' t _ n c ht2 .i64 h (by omega) (by omega), he]
    have h2 : (sizeOf e).run P w' = .ok size w' := by simp [sizeOf, typeInfo, hi, hsize]
    rw [h2]
    simp only [Result.andThen, Int.toNat_natCast]
  refine ⟨_, hrun, ?_⟩
  rcases hh with rfl | ⟨g, off, rfl, hA, hcell⟩
  · rw [List.take_nil]; exact Holds.nil _ _ _
  · refine .inr ⟨g, off, ?_, hA, fun j u hj => ?_⟩
    · split
      · rfl
      · show some ((⟨g, off, none⟩ : Addr).add (0 * size)) = _
        rw [Nat.zero_mul]
        rfl
    · rw [List.getElem?_take] at hj
      split at hj
      · exact hcell _ _ hj
      · cases hj

end Go.Proofs.Ytabeimmjclkobaa
