/- Joined tokens are read again: the plain law. No program in sight. -/
import Derived.Test.YtpjdboebambneabTkQ
namespace Go.Tk

/-- the texts of tokens, one a line -/
def join (l : List Tok) : List UInt8 := l.flatMap fun t => if t.kind = 0 then [] else t.text ++ [10]
def sig (t : Tok) : Int × List UInt8 := (t.kind, t.text)

theorem part_not (c : UInt8) (h : part c = true) : blank c = false ∧ c ≠ 47 := by
  have hc := c.toNat_lt
  simp only [part, digit, blank, Bool.or_eq_true, Bool.and_eq_true, decide_eq_true_eq, beq_iff_eq, Bool.or_eq_false_iff, beq_eq_false_iff_ne] at h ⊢
  refine ⟨by omega, ?_⟩
  rintro rfl
  simp at h

theorem step_cons_zero {c : UInt8} {r : List UInt8} (hb : blank c = false) (hc : [47, 47].isPrefixOf (c :: r) = false) : step (c :: r) = 0 := by
  rw [step, if_neg (by rw [hb]; simp), if_neg (by rw [hc]; simp)]
theorem step_zero_parts {c : UInt8} {r : List UInt8} (h : step (c :: r) = 0) : blank c = false ∧ [47, 47].isPrefixOf (c :: r) = false := by
  rw [step] at h
  by_cases hb : blank c = true
  · rw [if_pos hb] at h; omega
  · rw [if_neg hb] at h
    refine ⟨by simpa using hb, ?_⟩
    by_cases hc : [47, 47].isPrefixOf (c :: r) = true
    · rw [if_pos hc] at h
      simp [List.isPrefixOf] at hc
      rw [List.takeWhile_cons, if_pos (by rw [← hc.1]; decide)] at h
      simp at h
    · exact Bool.eq_false_iff.2 hc

theorem runLen_zero {c : UInt8} {r : List UInt8} (h : runLen (c :: r) = 0) : part c = false := by
  unfold runLen at h
  rw [List.takeWhile_cons] at h
  by_cases hp : part c = true
  · rw [if_pos hp] at h; simp at h
  · simpa using hp
theorem runLen_no {c : UInt8} (r : List UInt8) (h : part c = false) : runLen (c :: r) = 0 := by
  unfold runLen; rw [List.takeWhile_cons, if_neg (by rw [h]; simp)]; rfl

theorem two_cases {t : List UInt8} (h : t ∈ twos) : ∃ a b, t = [a, b] ∧ b ≠ 10 ∧ part a = false := by
  simp only [twos, List.mem_cons, List.not_mem_nil, or_false] at h
  rcases h with rfl | rfl | rfl | rfl
  · exact ⟨38, 38, rfl, by decide, by decide⟩
  · exact ⟨124, 124, rfl, by decide, by decide⟩
  · exact ⟨61, 61, rfl, by decide, by decide⟩
  · exact ⟨45, 62, rfl, by decide, by decide⟩

theorem no_two (c : UInt8) (J : List UInt8) : (twos.any fun t => t.isPrefixOf (c :: 10 :: J)) = false := by
  rw [List.any_eq_false]
  intro t ht
  obtain ⟨a, b, rfl, hb, _⟩ := two_cases ht
  simp [List.isPrefixOf, hb]

theorem takeWhile_append_stop (f : UInt8 → Bool) (t : List UInt8) (c : UInt8) (J : List UInt8) (ht : ∀ x ∈ t, f x = true) (hc : f c = false) : (t ++ c :: J).takeWhile f = t := by
  induction t with
  | nil => rw [List.nil_append, List.takeWhile_cons, if_neg (by rw [hc]; simp)]
  | cons x r ih =>
    rw [List.cons_append, List.takeWhile_cons, if_pos (ht x (by simp)), ih (fun y hy => ht y (by simp [hy]))]

theorem all_takeWhile (f : UInt8 → Bool) : ∀ l : List UInt8, ∀ x ∈ l.takeWhile f, f x = true
  | [], x, h => by simp at h
  | y :: l, x, h => by
    rw [List.takeWhile_cons] at h
    by_cases hy : f y = true
    · rw [if_pos hy] at h
      rcases List.mem_cons.1 h with rfl | h
      · exact hy
      · exact all_takeWhile f l x h
    · rw [if_neg hy] at h; simp at h
theorem take_runLen (r : List UInt8) : r.take (runLen r) = r.takeWhile part := by
  unfold runLen
  exact (List.prefix_iff_eq_take.1 (List.takeWhile_prefix part)).symm

/-- a token with a line's end behind it is read as it was -/
theorem again {r : List UInt8} (hr : r ≠ []) (hs : step r = 0) (J : List UInt8) :
    step (r.take (tokLen r) ++ 10 :: J) = 0 ∧ tokLen (r.take (tokLen r) ++ 10 :: J) = tokLen r ∧ tokKind (r.take (tokLen r) ++ 10 :: J) = tokKind r := by
  cases r with
  | nil => exact absurd rfl hr
  | cons c r =>
    obtain ⟨hb, hc⟩ := step_zero_parts hs
    by_cases hrun : 0 < runLen (c :: r)
    · have hl := tokLen_run (r := c :: r) rfl hrun
      have hk := tokKind_run (r := c :: r) rfl hrun
      rw [hl, hk]
      have hall : ∀ x ∈ (c :: r).take (runLen (c :: r)), part x = true := by
        rw [take_runLen]; exact all_takeWhile part (c :: r)
      have hlen : ((c :: r).take (runLen (c :: r))).length = runLen (c :: r) := by rw [take_runLen]; rfl
      obtain ⟨t, ht⟩ : ∃ t, (c :: r).take (runLen (c :: r)) = t := ⟨_, rfl⟩
      rw [ht] at hall hlen ⊢
      have hrl : runLen (t ++ 10 :: J) = runLen (c :: r) := by
        rw [← hlen]; show ((t ++ 10 :: J).takeWhile part).length = _
        rw [takeWhile_append_stop part t 10 J hall (by decide)]
      refine ⟨?_, tokLen_run hrl hrun, ?_⟩
      · cases t with
        | nil => rw [List.length_nil] at hlen; omega
        | cons x t2 =>
          have hx := part_not x (hall x (by simp))
          refine step_cons_zero hx.1 ?_
          simp [List.isPrefixOf, Ne.symm hx.2]
      · rw [tokKind_run hrl hrun, ← hlen, List.take_left]
    · have hr0 : runLen (c :: r) = 0 := by omega
      have hp := runLen_zero hr0
      by_cases hm : 0 < mark (c :: r)
      · by_cases h2 : (twos.any fun t => t.isPrefixOf (c :: r)) = true
        · have hm2 : mark (c :: r) = ((2 : Nat) : Int) := by unfold mark; rw [if_pos h2]; rfl
          rw [tokLen_mark hr0 hm2 (by omega), tokKind_mark hr0 hm]
          obtain ⟨t, ht, hpre⟩ := List.any_eq_true.1 h2
          obtain ⟨a, b, rfl, hb10, _⟩ := two_cases ht
          have hpre2 := List.prefix_iff_eq_take.1 (List.isPrefixOf_iff_prefix.1 hpre)
          rw [show [a, b].length = 2 from rfl] at hpre2
          rw [← hpre2]
          have hca : a = c := by
            have := congrArg List.head? hpre2
            simpa using this
          subst hca
          have hr0' : runLen ([a, b] ++ 10 :: J) = 0 := runLen_no _ hp
          have hm' : mark ([a, b] ++ 10 :: J) = ((2 : Nat) : Int) := by
            have h3 : (twos.any fun t => t.isPrefixOf ([a, b] ++ 10 :: J)) = true := List.any_eq_true.2 ⟨[a, b], ht, List.isPrefixOf_iff_prefix.2 (List.prefix_append _ _)⟩
            unfold mark; rw [if_pos h3]; rfl
          refine ⟨step_cons_zero hb ?_, tokLen_mark hr0' hm' (by omega), tokKind_mark hr0' (by omega)⟩
          have hab : ¬ (47 = a ∧ 47 = b) := by
            rintro ⟨rfl, rfl⟩
            simp only [twos, List.mem_cons, List.not_mem_nil, or_false] at ht
            rcases ht with h | h | h | h <;> cases h
          simp only [List.cons_append, List.nil_append, List.isPrefixOf, Bool.and_true]
          rw [Bool.and_eq_false_iff]
          by_cases h47 : 47 = a
          · right
            have : ¬ 47 = b := fun h => hab ⟨h47, h⟩
            simp [List.isPrefixOf, this]
          · left; simpa using h47
        · have hm2 : mark (c :: r) = ((1 : Nat) : Int) := by
            unfold mark at hm ⊢
            rw [if_neg h2] at hm ⊢
            split at hm
            · rename_i h1; rw [if_pos h1]; rfl
            · omega
          have hone : ones.contains c = true := by
            unfold mark at hm2
            rw [if_neg h2] at hm2
            by_cases h1 : ones.contains c = true
            · exact h1
            · rw [if_neg (by simpa using h1)] at hm2; simp at hm2
          rw [tokLen_mark hr0 hm2 (by omega), tokKind_mark hr0 hm, List.take_succ_cons, List.take_zero]
          have hr0' : runLen ([c] ++ 10 :: J) = 0 := runLen_no _ hp
          have hm' : mark ([c] ++ 10 :: J) = ((1 : Nat) : Int) := by
            unfold mark
            rw [if_neg (by rw [show [c] ++ 10 :: J = c :: 10 :: J from rfl, no_two]; simp), if_pos (show ones.contains (([c] ++ 10 :: J).headD 0) = true from hone)]; rfl
          refine ⟨step_cons_zero hb ?_, tokLen_mark hr0' hm' (by omega), tokKind_mark hr0' (by omega)⟩
          simp [List.isPrefixOf]
      · have h2 : ¬ (twos.any fun t => t.isPrefixOf (c :: r)) = true := fun h => hm (by unfold mark; rw [if_pos h]; omega)
        have hone : ¬ ones.contains c = true := fun h => hm (by unfold mark; rw [if_neg h2, if_pos (show ones.contains ((c :: r).headD 0) = true from h)]; omega)
        rw [tokLen_bad hr0 hm, tokKind_bad hr0 hm, List.take_succ_cons, List.take_zero]
        have hr0' : runLen ([c] ++ 10 :: J) = 0 := runLen_no _ hp
        have hm' : ¬ 0 < mark ([c] ++ 10 :: J) := by
          unfold mark
          rw [if_neg (by rw [show [c] ++ 10 :: J = c :: 10 :: J from rfl, no_two]; simp), if_neg (show ¬ ones.contains (([c] ++ 10 :: J).headD 0) = true from hone)]; omega
        refine ⟨step_cons_zero hb ?_, tokLen_bad hr0' hm', tokKind_bad hr0' hm'⟩
        simp [List.isPrefixOf]

theorem kind_ne (l : List UInt8) : kind l ≠ 0 := by
  unfold kind
  split
  · split <;> decide
  · split <;> decide
theorem tokKind_ne (r : List UInt8) : tokKind r ≠ 0 := by
  unfold tokKind
  split
  · exact kind_ne _
  · split <;> decide

theorem join_again : ∀ (n : Nat) (r : List UInt8) (p q : Nat), r.length ≤ n → (toks (join (toks r p)) q).map sig = (toks r p).map sig
  | 0, r, p, q, h => by
    have : r = [] := List.length_eq_zero_iff.1 (by omega)
    subst this; rw [toks_nil]; rw [show join [⟨0, [], p⟩] = [] from rfl, toks_nil]; rfl
  | n + 1, r, p, q, h => by
    by_cases hr : r = []
    · subst hr; rw [toks_nil]; rw [show join [⟨0, [], p⟩] = [] from rfl, toks_nil]; rfl
    · have hpos := List.length_pos_iff.2 hr
      by_cases hs : 0 < step r
      · rw [toks_step p hs]
        exact join_again n _ _ _ (by rw [List.length_drop]; omega)
      · have hs0 : step r = 0 := by omega
        have htl := tokLen_pos r
        have htle := tokLen_le hr
        rw [toks_tok p hr hs0]
        obtain ⟨R, hR⟩ : ∃ R, toks (r.drop (tokLen r)) (p + tokLen r) = R := ⟨_, rfl⟩
        have hj : join (⟨tokKind r, r.take (tokLen r), p⟩ :: R) = r.take (tokLen r) ++ 10 :: join R := by
          unfold join
          rw [List.flatMap_cons, if_neg (tokKind_ne r), List.append_assoc]; rfl
        rw [hR, hj]
        obtain ⟨h1, h2, h3⟩ := again hr hs0 (join R)
        rw [toks_tok q (by simp) h1, h2, h3, List.map_cons, List.map_cons]
        have hlen : (r.take (tokLen r)).length = tokLen r := by rw [List.length_take]; omega
        have htk : (r.take (tokLen r) ++ 10 :: join R).take (tokLen r) = r.take (tokLen r) := by rw [List.take_append_of_le_length (by omega)]; rw [List.take_take]; simp
        have hdr : (r.take (tokLen r) ++ 10 :: join R).drop (tokLen r) = 10 :: join R := by
          rw [List.drop_append_of_le_length (by omega), List.drop_eq_nil_of_le (by omega), List.nil_append]
        rw [htk, hdr]
        have hst : step (10 :: join R) = 1 := by rw [step, if_pos (by decide)]
        rw [toks_step _ (by omega : 0 < step (10 :: join R)), hst]
        rw [show (10 :: join R).drop 1 = join R from rfl, ← hR]
        rw [join_again n _ _ _ (by rw [List.length_drop]; omega)]
        rfl
end Go.Tk
