/- Plain lists of tokens. No program in sight. -/
import Derived.Test.YtpjdboebambneaaTkP
namespace Go.Tk

structure Tok where
  kind : Int
  text : List UInt8
  at_ : Nat

/-- how many bytes of a blank or a comment begin here -/
def step : List UInt8 → Nat
  | [] => 0
  | c :: r => if blank c then 1 else if [47, 47].isPrefixOf (c :: r) then ((c :: r).takeWhile (fun x => x != 10)).length else 0

def runLen (r : List UInt8) : Nat := (r.takeWhile part).length
def tokLen (r : List UInt8) : Nat := if 0 < runLen r then runLen r else if 0 < mark r then (mark r).toNat else 1
def tokKind (r : List UInt8) : Int := if 0 < runLen r then kind (r.take (runLen r)) else if 0 < mark r then 4 else 5

theorem mark_le (r : List UInt8) : mark r ≤ 2 := by
  unfold mark; split
  · decide
  · split <;> decide
theorem tokLen_pos (r : List UInt8) : 0 < tokLen r := by
  unfold tokLen
  split
  · assumption
  · split <;> omega

def toks (r : List UInt8) (p : Nat) : List Tok :=
  if hr : r = [] then [⟨0, [], p⟩]
  else if hs : 0 < step r then toks (r.drop (step r)) (p + step r)
  else ⟨tokKind r, r.take (tokLen r), p⟩ :: toks (r.drop (tokLen r)) (p + tokLen r)
termination_by r.length
decreasing_by
  all_goals
    have := List.length_pos_iff.2 hr
    have := tokLen_pos r
    rw [List.length_drop]
    omega

theorem toks_nil (p : Nat) : toks [] p = [⟨0, [], p⟩] := by rw [toks]; simp
theorem toks_step {r : List UInt8} (p : Nat) (h : 0 < step r) : toks r p = toks (r.drop (step r)) (p + step r) := by
  have hr : r ≠ [] := by rintro rfl; simp [step] at h
  conv => lhs; rw [toks]
  rw [dif_neg hr, dif_pos h]
theorem toks_tok {r : List UInt8} (p : Nat) (hr : r ≠ []) (h : step r = 0) : toks r p = ⟨tokKind r, r.take (tokLen r), p⟩ :: toks (r.drop (tokLen r)) (p + tokLen r) := by
  conv => lhs; rw [toks]
  rw [dif_neg hr, dif_neg (by omega)]

/-- the tokens from a place of a text on -/
def toksAt (l : List UInt8) (p : Nat) : List Tok := toks (l.drop p) p
theorem toksAt_end {l : List UInt8} {p : Nat} (h : p = l.length) : toksAt l p = [⟨0, [], p⟩] := by
  unfold toksAt; rw [List.drop_eq_nil_of_le (by omega), toks_nil]
theorem toksAt_step (l : List UInt8) {p n : Nat} (h : step (l.drop p) = n) (hn : 0 < n) : toksAt l p = toksAt l (p + n) := by
  subst h
  unfold toksAt; rw [toks_step p hn, List.drop_drop]
theorem toksAt_tok (l : List UInt8) {p : Nat} (hp : p < l.length) (h : step (l.drop p) = 0) : toksAt l p = ⟨tokKind (l.drop p), (l.drop p).take (tokLen (l.drop p)), p⟩ :: toksAt l (p + tokLen (l.drop p)) := by
  unfold toksAt
  rw [toks_tok p (by intro he; have := congrArg List.length he; simp at this; omega) h, List.drop_drop]

/-- how many bytes from a place on are as said -/
def wh (f : UInt8 → Bool) (l : List UInt8) (p : Nat) : Nat := ((l.drop p).takeWhile f).length
theorem wh_yes (f : UInt8 → Bool) {l : List UInt8} {p : Nat} (h : p < l.length) (hf : f l[p] = true) : wh f l p = wh f l (p + 1) + 1 := by
  unfold wh; rw [List.drop_eq_getElem_cons h, List.takeWhile_cons, if_pos hf]; simp
theorem wh_no (f : UInt8 → Bool) {l : List UInt8} {p : Nat} (h : p < l.length) (hf : f l[p] = false) : wh f l p = 0 := by
  unfold wh; rw [List.drop_eq_getElem_cons h, List.takeWhile_cons, if_neg (by rw [hf]; simp)]; rfl
theorem wh_end (f : UInt8 → Bool) {l : List UInt8} {p : Nat} (h : l.length ≤ p) : wh f l p = 0 := by
  unfold wh; rw [List.drop_eq_nil_of_le h]; rfl
theorem wh_le (f : UInt8 → Bool) (l : List UInt8) (p : Nat) : wh f l p ≤ l.length - p := by
  unfold wh
  have := (List.takeWhile_sublist f (l := l.drop p)).length_le
  rw [List.length_drop] at this; exact this

theorem step_blank {l : List UInt8} {p : Nat} (h : p < l.length) (hb : blank l[p] = true) : step (l.drop p) = 1 := by
  rw [List.drop_eq_getElem_cons h, step, if_pos hb]
theorem step_comment {l : List UInt8} {p : Nat} (h : p < l.length) (hb : blank l[p] = false) (hc : [47, 47].isPrefixOf (l.drop p) = true) : step (l.drop p) = wh (fun x => x != 10) l p := by
  unfold wh
  rw [List.drop_eq_getElem_cons h] at hc ⊢
  rw [step, if_neg (by rw [hb]; simp), if_pos hc]
theorem step_none {l : List UInt8} {p : Nat} (h : p < l.length) (hb : blank l[p] = false) (hc : [47, 47].isPrefixOf (l.drop p) = false) : step (l.drop p) = 0 := by
  rw [List.drop_eq_getElem_cons h] at hc ⊢
  rw [step, if_neg (by rw [hb]; simp), if_neg (by rw [hc]; simp)]
theorem pre_two {l : List UInt8} {p : Nat} (a b : UInt8) (h : p + 1 < l.length) : [a, b].isPrefixOf (l.drop p) = (a == l[p] && b == l[p + 1]) := by
  rw [List.drop_eq_getElem_cons (by omega), List.drop_eq_getElem_cons h]; simp [List.isPrefixOf]
theorem pre_short {l : List UInt8} {p : Nat} (a b : UInt8) (h : ¬ p + 1 < l.length) : [a, b].isPrefixOf (l.drop p) = false := by
  cases hd : l.drop p with
  | nil => rfl
  | cons x r =>
    have := congrArg List.length hd
    simp at this
    have : r.length = 0 := by omega
    rw [List.length_eq_zero_iff.1 this]; simp [List.isPrefixOf]
theorem comment_two {l : List UInt8} {p : Nat} (h : p < l.length) (hc : [47, 47].isPrefixOf (l.drop p) = true) : 0 < wh (fun x => x != 10) l p := by
  rw [List.drop_eq_getElem_cons h] at hc
  simp [List.isPrefixOf] at hc
  rw [wh_yes _ h (by rw [← hc.1]; decide)]; omega

theorem tokLen_run {r : List UInt8} {n : Nat} (h : runLen r = n) (hn : 0 < n) : tokLen r = n := by subst h; unfold tokLen; rw [if_pos hn]
theorem tokKind_run {r : List UInt8} {n : Nat} (h : runLen r = n) (hn : 0 < n) : tokKind r = kind (r.take n) := by subst h; unfold tokKind; rw [if_pos hn]
theorem tokLen_mark {r : List UInt8} {n : Nat} (h : runLen r = 0) (hm : mark r = n) (hn : 0 < n) : tokLen r = n := by
  unfold tokLen; rw [if_neg (by omega), if_pos (by omega), hm]; simp
theorem tokKind_mark {r : List UInt8} (h : runLen r = 0) (hm : 0 < mark r) : tokKind r = 4 := by
  unfold tokKind; rw [if_neg (by omega), if_pos hm]
theorem tokLen_bad {r : List UInt8} (h : runLen r = 0) (hm : ¬ 0 < mark r) : tokLen r = 1 := by
  unfold tokLen; rw [if_neg (by omega), if_neg hm]
theorem tokKind_bad {r : List UInt8} (h : runLen r = 0) (hm : ¬ 0 < mark r) : tokKind r = 5 := by
  unfold tokKind; rw [if_neg (by omega), if_neg hm]

theorem pre_le {t r : List UInt8} (h : t.isPrefixOf r = true) : t.length ≤ r.length := (List.isPrefixOf_iff_prefix.1 h).length_le
theorem mark_len (r : List UInt8) (hr : r ≠ []) : mark r ≤ r.length := by
  have := List.length_pos_iff.2 hr
  unfold mark
  split
  · rename_i h
    obtain ⟨t, ht, hp⟩ := List.any_eq_true.1 h
    have hl := pre_le hp
    have : t.length = 2 := by
      simp only [twos, List.mem_cons, List.not_mem_nil, or_false] at ht
      rcases ht with rfl | rfl | rfl | rfl <;> rfl
    omega
  · split <;> omega
theorem runLen_le (r : List UInt8) : runLen r ≤ r.length := (List.takeWhile_sublist part (l := r)).length_le
theorem tokLen_le {r : List UInt8} (hr : r ≠ []) : tokLen r ≤ r.length := by
  have := List.length_pos_iff.2 hr
  have := runLen_le r
  have := mark_len r hr
  unfold tokLen
  split
  · omega
  · split <;> omega
theorem tokLen_at {l : List UInt8} {p : Nat} (hp : p < l.length) : p + tokLen (l.drop p) ≤ l.length := by
  have := tokLen_le (r := l.drop p) (by intro he; have := congrArg List.length he; simp at this; omega)
  rw [List.length_drop] at this; omega

theorem toks_length : ∀ (n : Nat) (r : List UInt8) (p : Nat), r.length ≤ n → (toks r p).length ≤ r.length + 1
  | 0, r, p, h => by
    have : r = [] := List.length_eq_zero_iff.1 (by omega)
    subst this; rw [toks_nil]; simp
  | n + 1, r, p, h => by
    by_cases hr : r = []
    · subst hr; rw [toks_nil]; simp
    · have := List.length_pos_iff.2 hr
      by_cases hs : 0 < step r
      · rw [toks_step p hs]
        have := toks_length n (r.drop (step r)) (p + step r) (by rw [List.length_drop]; omega)
        rw [List.length_drop] at this; omega
      · rw [toks_tok p hr (by omega), List.length_cons]
        have := tokLen_pos r
        have := toks_length n (r.drop (tokLen r)) (p + tokLen r) (by rw [List.length_drop]; omega)
        rw [List.length_drop] at this; omega
theorem toksAt_length (l : List UInt8) (p : Nat) : (toksAt l p).length ≤ l.length - p + 1 := by
  have := toks_length _ (l.drop p) p (Nat.le_refl _)
  rw [List.length_drop] at this; exact this

/-- the same with a count of rounds: to be computed -/
def toksF : Nat → List UInt8 → Nat → List Tok
  | 0, _, p => [⟨0, [], p⟩]
  | n + 1, r, p => if r = [] then [⟨0, [], p⟩] else if 0 < step r then toksF n (r.drop (step r)) (p + step r) else ⟨tokKind r, r.take (tokLen r), p⟩ :: toksF n (r.drop (tokLen r)) (p + tokLen r)
theorem toks_eq : ∀ (n : Nat) (r : List UInt8) (p : Nat), r.length ≤ n → toks r p = toksF n r p
  | 0, r, p, h => by
    have : r = [] := List.length_eq_zero_iff.1 (by omega)
    subst this; rw [toks_nil]; rfl
  | n + 1, r, p, h => by
    by_cases hr : r = []
    · subst hr; rw [toks_nil]; rfl
    · have := List.length_pos_iff.2 hr
      rw [toksF, if_neg hr]
      by_cases hs : 0 < step r
      · rw [toks_step p hs, if_pos hs]
        exact toks_eq n _ _ (by rw [List.length_drop]; omega)
      · rw [toks_tok p hr (by omega), if_neg hs]
        have := tokLen_pos r
        rw [toks_eq n _ _ (by rw [List.length_drop]; omega)]
end Go.Tk
