/- What lies between tokens, plainly. No program in sight. -/
import Derived.Test.YtpjdboebambneaaTkQ
namespace Go.Tk

theorem step_le (l : List UInt8) (p : Nat) (hp : p ≤ l.length) : p + step (l.drop p) ≤ l.length := by
  by_cases h : p < l.length
  · cases hb : blank l[p]
    · cases hc : [47, 47].isPrefixOf (l.drop p)
      · rw [step_none h hb hc]; omega
      · rw [step_comment h hb hc]
        have := wh_le (fun x => x != 10) l p
        omega
    · rw [step_blank h hb]; omega
  · rw [List.drop_eq_nil_of_le (by omega)]; simp [step]; omega

/-- what a token and those behind it are -/
structure Tells (l : List UInt8) (t : Tok) (T : List Tok) : Prop where
  fits : t.at_ + t.text.length ≤ l.length
  text : (l.drop t.at_).take t.text.length = t.text
  here : toksAt l t.at_ = t :: T
  next : (T = [] ∧ t.at_ = l.length ∧ t.text = []) ∨ (T = toksAt l (t.at_ + t.text.length))

theorem toksAt_head (l : List UInt8) : ∀ (n p : Nat), l.length - p ≤ n → p ≤ l.length →
    ∃ t T, toksAt l p = t :: T ∧ p ≤ t.at_ ∧ Tells l t T ∧ (p < t.at_ → 0 < step (l.drop p))
  | n, p, hn, hp => by
    by_cases he : p = l.length
    · exact ⟨_, [], toksAt_end he, Nat.le_refl _, ⟨by simp; omega, by simp, toksAt_end he, .inl ⟨rfl, he, rfl⟩⟩, fun h => absurd h (Nat.lt_irrefl _)⟩
    · have hlt : p < l.length := by omega
      by_cases hs : 0 < step (l.drop p)
      · have hle := step_le l p hp
        rw [toksAt_step l rfl hs]
        match n, hn with
        | 0, hn => exact absurd hn (by omega)
        | n + 1, hn =>
          obtain ⟨t, T, h1, h2, h3, h4⟩ := toksAt_head l n (p + step (l.drop p)) (by omega) hle
          exact ⟨t, T, h1, by omega, h3, fun _ => hs⟩
      · have h0 : step (l.drop p) = 0 := by omega
        have hat := tokLen_at hlt
        have hlen : ((l.drop p).take (tokLen (l.drop p))).length = tokLen (l.drop p) := by
          rw [List.length_take, List.length_drop]; omega
        refine ⟨_, _, toksAt_tok l hlt h0, Nat.le_refl _, ⟨by dsimp only; rw [hlen]; exact hat, by dsimp only; rw [hlen], toksAt_tok l hlt h0, .inr (by dsimp only; rw [hlen])⟩, fun h => absurd h (Nat.lt_irrefl _)⟩

/-- the last token is the end -/
theorem toksAt_last (l : List UInt8) : ∀ (n p : Nat), l.length - p ≤ n → p ≤ l.length → ∃ T t, toksAt l p = T ++ [t] ∧ t.kind = 0
  | n, p, hn, hp => by
    by_cases he : p = l.length
    · exact ⟨[], _, toksAt_end he, rfl⟩
    · have hlt : p < l.length := by omega
      match n, hn with
      | 0, hn => exact absurd hn (by omega)
      | n + 1, hn =>
        by_cases hs : 0 < step (l.drop p)
        · have hle := step_le l p hp
          rw [toksAt_step l rfl hs]
          exact toksAt_last l n _ (by omega) hle
        · rw [toksAt_tok l hlt (by omega)]
          have := tokLen_pos (l.drop p)
          have hat := tokLen_at hlt
          obtain ⟨T, t, h, hk⟩ := toksAt_last l n (p + tokLen (l.drop p)) (by omega) hat
          exact ⟨_ :: T, t, by rw [h]; rfl, hk⟩

theorem last_kind (l : List UInt8) (n : Nat) (h : (toksAt l 0).length = n + 1) : ((toksAt l 0)[n]?).map Tok.kind = some 0 := by
  obtain ⟨T, t, ht, hk⟩ := toksAt_last l _ 0 (Nat.le_refl _) (Nat.zero_le _)
  rw [ht] at h ⊢
  have : T.length = n := by simpa using h
  rw [List.getElem?_append_right (by omega), this]
  simp [hk]

/-- between two tokens, in a comment or not -/
def Gap (l : List UInt8) (T : List Tok) (c : Bool) (a : Nat) : Prop := if c then toksAt l (a + wh (fun x => x != 10) l a) = T else toksAt l a = T

theorem Gap.step {l : List UInt8} {t : Tok} {T : List Tok} {c : Bool} {a : Nat} (h : Gap l (t :: T) c a) (hlt : a < t.at_) (ha : a < l.length) (d : Bool)
    (hd : d = (!(l[a] == 10) && (c || (l[a] == 47 && decide (a + 1 < l.length) && l.getD (a + 1) 0 == 47)))) : Gap l (t :: T) d (a + 1) ∧ (d = true ∨ blank l[a] = true) := by
  by_cases h10 : l[a] = 10
  · have e : d = false := by rw [hd, h10]; rfl
    subst e
    have hb : blank l[a] = true := by rw [h10]; rfl
    refine ⟨?_, .inr hb⟩
    have h2 : toksAt l a = t :: T := by
      cases c
      · exact h
      · have h' : toksAt l (a + wh (fun x => x != 10) l a) = t :: T := h
        rwa [wh_no _ ha (by rw [h10]; rfl), Nat.add_zero] at h'
    show toksAt l (a + 1) = t :: T
    rw [← toksAt_step l (step_blank ha hb) (by omega)]; exact h2
  · have hn : (l[a] == 10) = false := by simpa using h10
    have hw : wh (fun x => x != 10) l a = wh (fun x => x != 10) l (a + 1) + 1 := wh_yes _ ha (by simp [h10])
    cases c
    · have h2 : toksAt l a = t :: T := h
      obtain ⟨t', T', h1, _, _, hs⟩ := toksAt_head l _ a (Nat.le_refl _) (by omega)
      rw [h2] at h1
      obtain ⟨rfl, rfl⟩ := List.cons.inj h1
      have hs := hs hlt
      cases hb : blank l[a]
      · cases hc : [47, 47].isPrefixOf (l.drop a)
        · rw [step_none ha hb hc] at hs; omega
        · have h47 : a + 1 < l.length ∧ l[a] = 47 ∧ l.getD (a + 1) 0 = 47 := by
            by_cases hh : a + 1 < l.length
            · rw [pre_two 47 47 hh] at hc
              simp only [Bool.and_eq_true, beq_iff_eq] at hc
              exact ⟨hh, hc.1.symm, by rw [List.getD_eq_getElem?_getD, List.getElem?_eq_getElem hh]; exact hc.2.symm⟩
            · rw [pre_short 47 47 hh] at hc; cases hc
          have e : d = true := by rw [hd, hn, h47.2.1, h47.2.2, decide_eq_true h47.1]; rfl
          subst e
          refine ⟨?_, .inl rfl⟩
          show toksAt l (a + 1 + wh (fun x => x != 10) l (a + 1)) = t :: T
          rw [toksAt_step l (step_comment ha hb hc) (by omega)] at h2
          rw [← h2, hw]
          congr 1; omega
      · have e : d = false := by
          rw [hd, hn]
          have : (l[a] == 47) = false := by
            cases h : l[a] == 47
            · rfl
            · rw [beq_iff_eq] at h; rw [h] at hb; cases hb
          rw [this]; rfl
        subst e
        refine ⟨?_, .inr rfl⟩
        show toksAt l (a + 1) = t :: T
        rw [← toksAt_step l (step_blank ha hb) (by omega)]; exact h2
    · have e : d = true := by rw [hd, hn]; rfl
      subst e
      refine ⟨?_, .inl rfl⟩
      have h2 : toksAt l (a + wh (fun x => x != 10) l a) = t :: T := h
      show toksAt l (a + 1 + wh (fun x => x != 10) l (a + 1)) = t :: T
      rw [← h2, hw]
      congr 1; omega

end Go.Tk
