/- Objects, plainly: images. -/
import Derived.Test.YtabeimmjclkobaaObQ
namespace Go.Ob
def fpStep (h : Nat) (c : UInt8) : Nat := (h ^^^ c.toNat) * 1099511628211 % 18446744073709551616
def fp (l : List UInt8) : Nat := l.foldl fpStep 14695981039346656037
def chkN (h : Nat) : Nat → List UInt8
  | 0 => []
  | k + 1 => chkN h k ++ [UInt8.ofNat (h / 256 ^ (7 - k) % 256)]
/-- the check value of bytes -/
def chk (l : List UInt8) : List UInt8 := chkN (fp l) 8
/-- an operation that cannot stand in an image -/
def badOp (o : Op) : Bool := o.kind == 19 || (o.kind == 14 && !o.sym.isEmpty)
def bad (p : Plc) : Bool := p.ops.any badOp
def rFns (b : List UInt8) : Nat → St → List Plc × St
  | 0, s => ([], s)
  | k + 1, s => if (rFns b k s).2.2 = 0 then ((rFns b k s).1 ++ [(rPlaced b (rFns b k s).2).1], (rPlaced b (rFns b k s).2).2) else rFns b k s
/-- what ReadImage returns -/
def readImg (b : List UInt8) : List Plc × Int :=
  if b.length < 11 then ([], 8)
  else if b.take 3 ≠ [82, 67, 49] then ([], 5)
  else if b.drop (b.length - 8) ≠ chk (b.take (b.length - 8)) then ([], 1)
  else
    let body := b.take (b.length - 8)
    let c := rCount body (3, 0)
    let r := rFns body c.1 c.2
    if r.1.any bad = true ∨ r.2.2 ≠ 0 ∨ c.1 < 1 ∨ r.2.1 ≠ body.length then ([], 5) else (r.1, 0)
theorem fpStep_lt (h : Nat) (c : UInt8) : fpStep h c < 18446744073709551616 := by
  unfold fpStep
  generalize (h ^^^ c.toNat) * 1099511628211 = x
  omega
theorem fold_lt (l : List UInt8) : ∀ {h : Nat}, h < 18446744073709551616 → l.foldl fpStep h < 18446744073709551616 := by
  induction l with
  | nil => intro h hh; exact hh
  | cons c l ih => intro h _; rw [List.foldl_cons]; exact ih (fpStep_lt h c)
theorem fp_lt (l : List UInt8) : fp l < 18446744073709551616 := by
  have h : (14695981039346656037 : Nat) < 18446744073709551616 := by decide
  unfold fp
  exact fold_lt l h
theorem fp_snoc (l : List UInt8) (c : UInt8) : fp (l ++ [c]) = fpStep (fp l) c := by
  unfold fp
  rw [List.foldl_append, List.foldl_cons, List.foldl_nil]
theorem rPlaced_at {b : List UInt8} {s : St} (h : s.1 ≤ b.length) : (rPlaced b s).2.1 ≤ b.length := by
  unfold rPlaced
  split
  · rename_i hc
    have h1 : s.1 + 1 ≤ b.length := (List.getElem?_eq_some_iff.1 hc).1
    exact rOps_at (rCount_at (rNum_at (rList_at (rNum_at (s := (s.1 + 1, s.2)) h1)))) _
  · exact h
theorem rFns_at {b : List UInt8} {s : St} (h : s.1 ≤ b.length) : ∀ k, (rFns b k s).2.1 ≤ b.length
  | 0 => h
  | k + 1 => by
    have := rFns_at h k
    unfold rFns
    split
    · exact rPlaced_at this
    · exact this
theorem rFns_len {b : List UInt8} {s : St} : ∀ k, (rFns b k s).1.length ≤ k
  | 0 => Nat.le_refl _
  | k + 1 => by
    have := rFns_len (b := b) (s := s) k
    unfold rFns
    split
    · show ((rFns b k s).1 ++ [_]).length ≤ k + 1
      rw [List.length_append]; simp; omega
    · omega
theorem rFns_stop {b : List UInt8} {s : St} {j : Nat} (h : (rFns b j s).2.2 ≠ 0) : ∀ m, rFns b (j + m) s = rFns b j s
  | 0 => rfl
  | m + 1 => by
    have := rFns_stop h m
    show rFns b (j + m + 1) s = _
    rw [rFns, this, if_neg h]
theorem rFns_pre {b : List UInt8} {s : St} (j : Nat) : ∀ m, ∃ t, (rFns b (j + m) s).1 = (rFns b j s).1 ++ t
  | 0 => ⟨[], by simp⟩
  | m + 1 => by
    obtain ⟨t, ht⟩ := rFns_pre (b := b) (s := s) j m
    show ∃ t, (rFns b (j + m + 1) s).1 = _
    rw [rFns]
    split
    · exact ⟨t ++ [_], by rw [ht, List.append_assoc]⟩
    · exact ⟨t, ht⟩
theorem rFns_bad {b : List UInt8} {s : St} {j N : Nat} (hj : j ≤ N) (h : (rFns b j s).1.any bad = true) : (rFns b N s).1.any bad = true := by
  obtain ⟨t, ht⟩ := rFns_pre (b := b) (s := s) j (N - j)
  rw [show j + (N - j) = N by omega] at ht
  rw [ht, List.any_append, h]; rfl
theorem rPlaced_ops (b : List UInt8) (s : St) : (rPlaced b s).1.ops.length ≤ 4000 := by
  unfold rPlaced
  split
  · exact Nat.le_trans (rOps_len _) (rCount_le _ _)
  · exact Nat.zero_le _
theorem rOp_zero {b : List UInt8} {s : St} (h : s.2 ≠ 0) : (rOp b s).2 = s := by
  have h1 : rNum b s = (0, s) := by unfold rNum; rw [if_neg h]
  have h2 : rCount b s = (0, s) := by
    unfold rCount
    rw [h1]
    simp [h]
  have h3 : rList b s = ([], s) := by
    unfold rList
    rw [h2]; rfl
  have h4 : (rText b s).2 = s := by
    unfold rText
    rw [h2]
    simp
  unfold rOp
  simp only [h1, h3, h4]
def readBody (b : List UInt8) : List Plc × Int :=
  if (rFns b (rCount b (3, 0)).1 (rCount b (3, 0)).2).1.any bad = true ∨ (rFns b (rCount b (3, 0)).1 (rCount b (3, 0)).2).2.2 ≠ 0 ∨ (rCount b (3, 0)).1 < 1 ∨ (rFns b (rCount b (3, 0)).1 (rCount b (3, 0)).2).2.1 ≠ b.length then ([], 5) else ((rFns b (rCount b (3, 0)).1 (rCount b (3, 0)).2).1, 0)
theorem readImg_short {b : List UInt8} (h : b.length < 11) : readImg b = ([], 8) := by
  unfold readImg
  rw [if_pos h]
theorem readImg_form {b : List UInt8} (h : ¬ b.length < 11) (h3 : b.take 3 ≠ [82, 67, 49]) : readImg b = ([], 5) := by
  unfold readImg
  rw [if_neg h, if_pos h3]
theorem readImg_wrong {b : List UInt8} (h : ¬ b.length < 11) (h3 : b.take 3 = [82, 67, 49]) (hc : b.drop (b.length - 8) ≠ chk (b.take (b.length - 8))) : readImg b = ([], 1) := by
  unfold readImg
  have h3' : ¬ (b.take 3 ≠ [82, 67, 49]) := fun x => x h3
  rw [if_neg h, if_neg h3', if_pos hc]
theorem readImg_body {b : List UInt8} (h : ¬ b.length < 11) (h3 : b.take 3 = [82, 67, 49]) (hc : b.drop (b.length - 8) = chk (b.take (b.length - 8))) : readImg b = readBody (b.take (b.length - 8)) := by
  unfold readImg
  have h3' : ¬ (b.take 3 ≠ [82, 67, 49]) := fun x => x h3
  have hc' : ¬ (b.drop (b.length - 8) ≠ chk (b.take (b.length - 8))) := fun x => x hc
  rw [if_neg h, if_neg h3', if_neg hc']
  rfl
end Go.Ob
namespace Go.Ob
/-- an operation with its symbol resolved -/
def res (f : List UInt8 → Nat) (o : Op) : Op := if o.kind = 14 then ⟨o.kind, o.a, o.b, (f o.sym : Nat), o.list, []⟩ else o
def resTo (f : List UInt8 → Nat) (l : List Op) (k : Nat) : List Op := (l.take k).map (res f) ++ l.drop k
theorem resTo_zero (f : List UInt8 → Nat) (l : List Op) : resTo f l 0 = l := by simp [resTo]
theorem resTo_all (f : List UInt8 → Nat) (l : List Op) : resTo f l l.length = l.map (res f) := by simp [resTo]
theorem resTo_len (f : List UInt8 → Nat) (l : List Op) (k : Nat) : (resTo f l k).length = l.length := by simp [resTo]; omega
theorem resTo_at {f : List UInt8 → Nat} {l : List Op} {k : Nat} {o : Op} (h : l[k]? = some o) : (resTo f l k)[k]? = some o := by
  have hk := (List.getElem?_eq_some_iff.1 h).1
  unfold resTo
  rw [List.getElem?_append_right (by simp; omega), List.getElem?_drop]
  rw [show k + (k - ((l.take k).map (res f)).length) = k by simp; omega]
  exact h
theorem resTo_succ {f : List UInt8 → Nat} {l : List Op} {k : Nat} {o : Op} (h : l[k]? = some o) : (resTo f l k).set k (res f o) = resTo f l (k + 1) := by
  obtain ⟨hk, ho⟩ := List.getElem?_eq_some_iff.1 h
  unfold resTo
  have h1 : ((l.take k).map (res f)).length = k := by simp; omega
  rw [List.set_append_right _ _ (by omega), h1, Nat.sub_self, List.drop_eq_getElem_cons hk, List.set_cons_zero, List.take_succ_eq_append_getElem hk, List.map_append, List.append_assoc, ho]
  rfl
end Go.Ob
namespace Go.Ob
/-- an image before its check value -/
def img (n : Nat) (l : List Plc) : List UInt8 := [82, 67, 49] ++ num n ++ l.flatMap objB
def resP (f : List UInt8 → Nat) (p : Plc) : Plc := ⟨p.slots, p.at_, p.params, p.regs, p.ops.map (res f)⟩
/-- what the names are, after k of them -/
def known (names : List (List UInt8)) (k : Nat) (s : List UInt8) : Option Value := if s ∈ names.take k then some (.int .i64 (names.idxOf s : Nat)) else none
theorem known_zero (names : List (List UInt8)) : known names 0 = fun _ => none := by
  funext s
  simp [known]
theorem known_new {names : List (List UInt8)} (hn : names.Nodup) {k : Nat} {s : List UInt8} (h : names[k]? = some s) : known names k s = none := by
  unfold known
  rw [if_neg]
  intro hm
  obtain ⟨i, hi, he⟩ := List.mem_iff_getElem.1 hm
  rw [List.length_take] at hi
  rw [List.getElem_take] at he
  obtain ⟨hk, h2⟩ := List.getElem?_eq_some_iff.1 h
  have h3 : names[i]? = names[k]? := by rw [h, List.getElem?_eq_getElem (by omega), he]
  have := (List.getElem?_inj (by omega) hn).1 h3
  omega
theorem idx_at {names : List (List UInt8)} (hn : names.Nodup) {k : Nat} {s : List UInt8} (h : names[k]? = some s) : names.idxOf s = k := by
  obtain ⟨hk, h2⟩ := List.getElem?_eq_some_iff.1 h
  subst h2
  exact List.Nodup.idxOf_getElem hn k hk
theorem known_all {names : List (List UInt8)} {s : List UInt8} (h : s ∈ names) : known names names.length s = some (.int .i64 (names.idxOf s : Nat)) := by
  unfold known
  rw [List.take_length, if_pos h]
theorem img_succ {n : Nat} {f : Plc → Plc} {l : List Plc} {j : Nat} {p : Plc} (h : l[j]? = some p) : img n ((l.take (j + 1)).map f) = img n ((l.take j).map f) ++ objB (f p) := by
  obtain ⟨h1, h2⟩ := List.getElem?_eq_some_iff.1 h
  unfold img
  rw [List.take_succ_eq_append_getElem h1, h2, List.map_append, List.flatMap_append, ← List.append_assoc]
  simp
theorem img_len {n : Nat} {f : Plc → Plc} (l : List Plc) (j : Nat) : (img n ((l.take j).map f)).length ≤ (img n (l.map f)).length := by
  conv => rhs; rw [← List.take_append_drop j l]
  unfold img
  simp only [List.map_append, List.flatMap_append, List.length_append]
  omega
end Go.Ob
