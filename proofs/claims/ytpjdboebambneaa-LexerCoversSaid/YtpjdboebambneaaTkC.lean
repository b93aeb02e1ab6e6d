/- LexerCovers: the walk. -/
import Derived.Test.YtpjdboebambneaaTkZ
import Derived.Test.YtpjdboebambneaaTkW
import Derived.Test.YtpjdboebambneaaTkCP
import Derived.BigQuiet
namespace Go.Tk
/-- what has been seen: i tokens, up to a place -/
structure CV (L : List UInt8) (l : List Tok) (n i a : Nat) : Prop where
  le : i ≤ n
  fits : a ≤ L.length
  more : i < n → toksAt L a = l.drop i
  done : i = n → a = L.length
theorem CV.start (L : List UInt8) (n : Nat) (h : (toksAt L 0).length = n) : CV L (toksAt L 0) n 0 0 := by
  obtain ⟨t, T, h1, _⟩ := toksAt_head L _ 0 (Nat.le_refl _) (Nat.zero_le _)
  have : 0 < n := by rw [← h, h1]; simp
  exact ⟨Nat.zero_le _, Nat.zero_le _, fun _ => rfl, fun h => by omega⟩
/-- a token more -/
theorem CV.tok {L : List UInt8} {l : List Tok} {n i a : Nat} (h : CV L l n i a) (hl : l.length = n) (hi : i < n) :
    ∃ (kd : Int) (tx : List UInt8) (q : Nat) (T : List Tok), l[i]? = some ⟨kd, tx, q⟩ ∧ a ≤ q ∧ q + tx.length ≤ L.length ∧ (L.drop q).take tx.length = tx ∧ Gap L (⟨kd, tx, q⟩ :: T) false a ∧ CV L l n (i + 1) (q + tx.length) := by
  obtain ⟨t, T, h1, h2, h3, h4⟩ := toksAt_head L _ a (Nat.le_refl _) h.fits
  have hd := h.more hi
  have hlt : i < l.length := by omega
  rw [h1, List.drop_eq_getElem_cons hlt] at hd
  obtain ⟨e1, e2⟩ := List.cons.inj hd
  refine ⟨t.kind, t.text, t.at_, T, by rw [List.getElem?_eq_getElem hlt, ← e1], h2, h3.fits, h3.text, h1, by omega, h3.fits, fun hi2 => ?_, fun hi2 => ?_⟩
  · rcases h3.next with ⟨hT, _⟩ | hT
    · rw [hT] at e2
      have := congrArg List.length e2
      simp at this; omega
    · rw [← hT, e2]
  · rcases h3.next with ⟨_, hq, ht⟩ | hT
    · rw [ht, hq]; rfl
    · have e3 : T = [] := by rw [e2]; exact List.drop_eq_nil_of_le (by omega)
      obtain ⟨t', T', g1, _⟩ := toksAt_head L _ (t.at_ + t.text.length) (Nat.le_refl _) h3.fits
      rw [← hT, e3] at g1; cases g1
end Go.Tk
namespace Go.Proofs.Ytpjdboebambneaa
open Go.ChangeShapes Go.WideShapes Go.RowKit

theorem TokRow.cells {A : Nat → Prop} {w : World} {v : Value} {l : List Tk.Tok} (h : TokRow A w v l) (hl : 0 < l.length) : ∃ g o cap, v = .slice (some ⟨g, o, none⟩) l.length cap ∧ g < w.heap.size ∧
    ∀ k kd tx q, l[k]? = some ⟨kd, tx, q⟩ → w.cell? ⟨g, o + k * 3, none⟩ = some (.int .i64 kd) ∧ w.cell? ⟨g, o + k * 3 + 1, none⟩ = some (.string ⟨tx.toArray⟩) ∧ w.cell? ⟨g, o + k * 3 + 2, none⟩ = some (.int .i64 (q : Nat)) := by
  obtain ⟨p, cap, rfl, hh⟩ := h
  obtain ⟨g, o, rfl, _, hg, hc⟩ := hh.at (by rw [cellsT_length]; omega)
  refine ⟨g, o, cap, rfl, hg, fun k kd tx q hk => ?_⟩
  obtain ⟨hlt, he⟩ := List.getElem?_eq_some_iff.1 hk
  obtain ⟨c0, c1, c2⟩ := cellsT_at l k hlt
  rw [he] at c0 c1 c2
  exact ⟨hc _ _ c0, hc _ _ c1, hc _ _ c2⟩

theorem gap_step {Y : ByteArray} {L : List UInt8} {t : Tk.Tok} {T : List Tk.Tok} {f : Bool} {c m : Nat} (hL : Y.data.toList = L) (h : Tk.Gap L (t :: T) f c) (hlt : c < t.at_) (hc : c < Y.size) (hm : (Y[c]'hc).toNat = m) (d nx : Bool)
    (hnx : nx = true ↔ m = 47 ∧ ∃ h : c + 1 < Y.size, (Y[c + 1]'h).toNat = 47) (hd : d = (!(decide (m = 10)) && (f || nx))) : Tk.Gap L (t :: T) d (c + 1) ∧ (d = true ∨ m = 32 ∨ m = 9 ∨ m = 10 ∨ m = 13) := by
  subst hL
  have hlen : Y.data.toList.length = Y.size := by simp
  have hcl : c < Y.data.toList.length := by omega
  have hx : Y.data.toList[c] = Y[c]'hc := by simp; rfl
  have key : ∀ (x : UInt8) (k : Nat) (hk : k < 256), (x == UInt8.ofNat k) = decide (x.toNat = k) := by
    intro x k hk
    rw [Bool.eq_iff_iff, beq_iff_eq, decide_eq_true_iff]
    constructor
    · rintro rfl; simp; omega
    · intro h; apply UInt8.toNat_inj.1; rw [h]; simp; omega
  obtain ⟨r1, r2⟩ := h.step hlt hcl d (by
    rw [hd, hx, show (10 : UInt8) = UInt8.ofNat 10 from rfl, show (47 : UInt8) = UInt8.ofNat 47 from rfl, key _ 10 (by omega), key _ 47 (by omega), key _ 47 (by omega), hm, hlen]
    congr 1
    congr 1
    rw [Bool.eq_iff_iff, hnx]
    simp only [Bool.and_eq_true, decide_eq_true_iff]
    constructor
    · rintro ⟨h1, h2, h3⟩
      refine ⟨⟨h1, h2⟩, ?_⟩
      rw [List.getD_eq_getElem?_getD, List.getElem?_eq_getElem (by omega)]
      exact h3
    · rintro ⟨⟨h1, h2⟩, h3⟩
      refine ⟨h1, h2, ?_⟩
      rw [List.getD_eq_getElem?_getD, List.getElem?_eq_getElem (by omega)] at h3
      exact h3)
  refine ⟨r1, r2.imp id fun hb => ?_⟩
  rw [hx, Tk.blank, hm] at hb
  simp at hb
  omega

set_option maxRecDepth 100000 in
set_option maxHeartbeats 6400000 in
theorem walk_covers (s : ByteArray) (a : Option Addr) (len cap : Nat) (zs : List Int) (w : World) (hs : s.size ≤ maxLen) (hr : IsRow .i64 w a len cap zs) :
    Calls Try.prog 12 #[.string s, .slice a len cap] w fun e w' => e = .returned (.bool true) ∧ Below w.heap.size w w' := by
  unfold maxLen at hs
  by_cases hl : len ≤ 400
  · have hl1 : decide (len ≤ 400) = true := decide_eq_true hl
    by_cases h3 : s.size ≤ 2000
    · have h31 : decide ((s.size : Int) > 2000) = false := decide_eq_false (by omega)
      have h32 : decide ((2000 : Int) < (s.size : Int)) = false := decide_eq_false (by omega)
      have hnum : NumsAt (· < w.heap.size) w (.slice a len cap) zs := ⟨a, cap, by rw [hr.size], hr.holds, by rw [hr.size]; exact hl, hr.wf⟩
      have Hnum := Lib.hid hnum
      clear hr hnum
      go_enter Try.func12, Try.ntmps12
      go_wp2_with fail
      refine (mlight_any _ len _ ⟨a, cap, rfl⟩).mono ?_
      rintro e w' ⟨rfl, rfl⟩
      rw [hl1]
      go_wp2_with fail
      refine (mtext_any _ zs _ Hnum.out).mono ?_
      rintro e w1 ⟨gd, rfl, hgd, hb1, hB, hN⟩
      have Hgd := Lib.hid hgd
      have hB0 : Blk w1 gd [.slice a len cap, .int .i64 ((0 : Nat) : Int)] := by simpa using hB
      clear hgd hB
      go_wp2_with fail
      refine (text_any gd 0 (.slice a len cap) zs _ hB0 (Nat.zero_le _) hN).mono ?_
      rintro e w2 ⟨X, rfl, hX, hD⟩
      have hbw : Below w.heap.size w w2 := by
        have hlt := hB0.lt
        have hgd := Hgd.out
        exact hb1.trans ⟨hD.os, hD.tape, hD.output, hD.size, fun k hk => hD.block k (by omega) (by omega)⟩
      have Hbw := Lib.hid hbw
      clear hb1 hB0 hN hD hbw Hgd
      have hcat : (9223372036854775807 < s.size + X.size) = False := eq_false (by omega)
      go_upto_region 4 with fail
      have hYs : (s ++ X).size ≤ 19500 := by rw [ByteArray.size_append]; omega
      obtain ⟨Y, hY⟩ : ∃ Y, s ++ X = Y := ⟨_, rfl⟩
      rw [hY] at hYs ⊢
      clear hcat hX h31 h32 h3 hY
      go_wp2_with fail
      refine (tokens_holds Y _ (by omega)).mono ?_
      rintro e w3 ⟨v, rfl, hv, hb3⟩
      obtain ⟨L, hL⟩ : ∃ L, Y.data.toList = L := ⟨_, rfl⟩
      have hLs : L.length = Y.size := by rw [← hL]; simp
      have HL := Lib.hid hL
      have HLs := Lib.hid hLs
      rw [hL] at hv
      obtain ⟨l, hle⟩ : ∃ l, Tk.toksAt L 0 = l := ⟨_, rfl⟩
      obtain ⟨n, hn⟩ : ∃ n, l.length = n := ⟨_, rfl⟩
      have hnl := Tk.toksAt_length L 0
      have hcv := Tk.CV.start L n (by rw [hle]; exact hn)
      have hn0 : 0 < n := by
        obtain ⟨t, T, g1, _⟩ := Tk.toksAt_head L _ 0 (Nat.le_refl _) (Nat.zero_le _)
        rw [← hn, ← hle, g1]; simp
      have hlast : ((l[n - 1]?).map Tk.Tok.kind) = some 0 := by
        have := Tk.last_kind L (n - 1) (by rw [hle, hn]; omega)
        rw [hle] at this; exact this
      rw [hle] at hv hnl hcv
      obtain ⟨g, o, cp, rfl, hg, hcs⟩ := hv.cells (by omega)
      rw [hn]
      have hn3 : n ≤ 19501 := by omega
      have Hn := Lib.hid hn
      have Hcs := Lib.hid hcs
      have Hcv := Lib.hid hcv
      have Hlast := Lib.hid hlast
      have Hbz := Lib.hid (Hbw.out.trans (hb3.mono Hbw.out.size))
      have hdn : decide ((n : Int) = 0) = false := decide_eq_false (by omega)
      clear hL hLs hle hnl hn hcv hlast hv hcs hb3
      go_wp2_with fail
      go_loopw [6, 7, 8, 9] (fun s6 s7 s8 s9 wr => ∃ (i b : Nat), s6 = .int .i64 b ∧ s7 = .int .i64 i ∧ Hid (Tk.CV L l n i b) ∧ Hid (Below w3.heap.size w3 wr)) (fun _ s7 _ _ _ => n - (intOf s7).toNat)
      case atStart => exact ⟨0, 0, rfl, rfl, Hcv.out, ext_refl w3⟩
      case round =>
        obtain ⟨i, b, rfl, rfl, hv, hbel⟩ := hrel
        have hi1 := hv.out.le
        by_cases hlt : i < n
        · have hdl : decide ((i : Int) < (n : Int)) = true := decide_eq_true (by omega)
          obtain ⟨kd, tx, q, T, hli, hbq, hfit, htx, hgap, hnext⟩ := hv.out.tok Hn.out hlt
          obtain ⟨c0, c1, c2⟩ := Hcs.out i kd tx q hli
          obtain ⟨S, hS⟩ : ∃ S : ByteArray, S = ⟨tx.toArray⟩ := ⟨_, rfl⟩
          rw [← hS] at c1
          have hSs : S.size = tx.length := by rw [hS]; show tx.toArray.size = _; simp
          rw [← hSs] at hfit htx hnext
          rw [HLs.out] at hfit
          have hsl : Y.extract q (q + S.size) = S := by
            rw [ext_eq Y q (q + S.size) (by omega) (by omega), HL.out, Nat.add_sub_cancel_left, htx, hS]
          have d1 : wr.cell? ⟨g, o + i * 3 + 1, none⟩ = some (.string S) := by rw [hbel.out.cell (p := ⟨g, o + i * 3 + 1, none⟩) hg]; exact c1
          have d2 : wr.cell? ⟨g, o + i * 3 + 2, none⟩ = some (.int .i64 q) := by rw [hbel.out.cell (p := ⟨g, o + i * 3 + 2, none⟩) hg]; exact c2
          have zg : g < wr.heap.size := Nat.lt_of_lt_of_le hg hbel.out.size
          have Hgap := Lib.hid hgap
          have Hnext := Lib.hid hnext
          clear c0 c1 c2 hS htx hgap hnext hli hv hSs
          have e1 : decide ((q : Int) < (b : Int)) = false := decide_eq_false (by omega)
          have e2 : decide ((q : Int) + (S.size : Int) > (Y.size : Int)) = false := decide_eq_false (by omega)
          have e3 : decide ((Y.size : Int) < (q : Int) + (S.size : Int)) = false := decide_eq_false (by omega)
          have e1' : decide (q < b) = false := decide_eq_false (by omega)
          have e2' : decide (q + S.size > Y.size) = false := decide_eq_false (by omega)
          have e3' : decide (Y.size < q + S.size) = false := decide_eq_false (by omega)
          have e4 : IntKind.i64.wrap ((q : Int) + (S.size : Int)) = (q : Int) + (S.size : Int) := by rw [IntKind.wrap_i64]; omega
          go_upto_region 11 with fail
          go_quiet (fail)
          have hb1 : Below wr.heap.size wr (wr.drewN nq) := below_drewN (Below.refl _ _) _
          have hb2 := Lib.hid (hbel.out.trans (hb1.mono hbel.out.size))
          have z2 : g < (wr.drewN nq).heap.size := by simpa using zg
          have f1 : (wr.drewN nq).cell? ⟨g, o + i * 3 + 1, none⟩ = some (.string S) := by rw [hb1.cell (p := ⟨g, o + i * 3 + 1, none⟩) zg]; exact d1
          have f2 : (wr.drewN nq).cell? ⟨g, o + i * 3 + 2, none⟩ = some (.int .i64 q) := by rw [hb1.cell (p := ⟨g, o + i * 3 + 2, none⟩) zg]; exact d2
          clear hb1 d1 d2 zg hbel e1 e1' e2 e2' e3 e3'
          generalize wr.drewN nq = w4 at *
          go_wp2_with fail
          go_loopw [6, 8, 9] (fun s6 s8 s9 wq => ∃ (c : Nat) (f : Bool), s6 = .int .i64 c ∧ s8 = .bool f ∧ Hid (b ≤ c ∧ c ≤ q) ∧ Hid (Tk.Gap L (⟨kd, tx, q⟩ :: T) f c) ∧ Hid (Below w4.heap.size w4 wq)) (fun s6 _ _ _ => q - (intOf s6).toNat)
          case atStart => exact ⟨b, false, rfl, rfl, ⟨Nat.le_refl _, hbq⟩, Hgap.out, ext_refl w4⟩
          case round =>
            obtain ⟨c, f, rfl, rfl, hc, hgp, hbw⟩ := hrel
            have hc1 := hc.out.1
            have hc2 := hc.out.2
            have g1 : wr.cell? ⟨g, o + i * 3 + 1, none⟩ = some (.string S) := by rw [hbw.out.cell (p := ⟨g, o + i * 3 + 1, none⟩) z2]; exact f1
            have g2 : wr.cell? ⟨g, o + i * 3 + 2, none⟩ = some (.int .i64 q) := by rw [hbw.out.cell (p := ⟨g, o + i * 3 + 2, none⟩) z2]; exact f2
            have zq : g < wr.heap.size := Nat.lt_of_lt_of_le z2 hbw.out.size
            by_cases hcq : c < q
            · have hd : decide ((c : Int) < (q : Int)) = true := decide_eq_true (by omega)
              have hcY : c < Y.size := by omega
              go_upto_region 17 with fail
              obtain ⟨m, hm⟩ : ∃ m, (Y[c]'hcY).toNat = m := ⟨_, rfl⟩
              have hstep := gap_step HL.out hgp.out hcq hcY hm
              have Hw := Lib.hid hbw.out
              rw [hm]
              clear hm hgp hbw
              have e5 : IntKind.i64.wrap ((c : Int) + 1) = ((c + 1 : Nat) : Int) := by rw [IntKind.wrap_i64]; simp; omega
              have Hrel : ∀ (s9 : Value) (d : Bool), Tk.Gap L (⟨kd, tx, q⟩ :: T) d (c + 1) → (∃ (c' : Nat) (f' : Bool), Value.int IntKind.i64 ((c : Int) + 1) = .int .i64 c' ∧ Value.bool d = .bool f' ∧ Hid (b ≤ c' ∧ c' ≤ q) ∧ Hid (Tk.Gap L (⟨kd, tx, q⟩ :: T) f' c') ∧ Hid (Below w4.heap.size w4 wr)) := fun s9 d h =>
                ⟨c + 1, d, by simp, rfl, ⟨by omega, by omega⟩, h, Hw.out⟩
              by_cases h10 : m = 10
              · subst h10
                obtain ⟨hg, _⟩ := hstep false false (by simp) (by simp)
                go_wp2_with fail
                go_roundw
                case rel => exact Hrel u9 _ hg
                case measure => simp [intOf]; omega
              · have e10 : decide ((m : Int) = 10) = false := decide_eq_false (by omega)
                have e10' : ((m : Int) == 10) = false := beq_eq_false_iff_ne.2 (by omega)
                by_cases h47 : m = 47
                · subst h47
                  by_cases h1 : c + 1 < Y.size
                  · have e6 : decide ((c : Int) + 1 < (Y.size : Int)) = true := decide_eq_true (by omega)
                    have e6' : decide (c + 1 < Y.size) = true := decide_eq_true h1
                    obtain ⟨m2, hm2⟩ : ∃ m2, (Y[c + 1]'h1).toNat = m2 := ⟨_, rfl⟩
                    by_cases h2 : m2 = 47
                    · obtain ⟨hg, _⟩ := hstep true true ⟨fun _ => ⟨rfl, h1, by rw [hm2, h2]⟩, fun _ => rfl⟩ (by cases f <;> rfl)
                      clear hstep
                      have e7 : ((m2 : Int) == 47) = true := by rw [h2]; rfl
                      clear h2
                      go_wp2_with fail
                      go_roundw
                      case rel => exact Hrel u9 _ hg
                      case measure => simp [intOf]; omega
                    · have hnx : false = true ↔ 47 = 47 ∧ ∃ h : c + 1 < Y.size, (Y[c + 1]'h).toNat = 47 := ⟨(fun h => by cases h), fun ⟨_, _, h⟩ => absurd (hm2.symm.trans h) h2⟩
                      have e7 : ((m2 : Int) == 47) = false := beq_eq_false_iff_ne.2 (by omega)
                      cases f with
                      | false =>
                        obtain ⟨_, hb⟩ := hstep false false hnx (by simp)
                        exfalso; simp at hb
                      | true =>
                        obtain ⟨hg, _⟩ := hstep true false hnx (by simp)
                        clear hstep hnx
                        go_wp2_with fail
                        go_roundw
                        case rel => exact Hrel u9 _ hg
                        case measure => simp [intOf]; omega
                  · have e6 : decide ((c : Int) + 1 < (Y.size : Int)) = false := decide_eq_false (by omega)
                    have e6' : decide (c + 1 < Y.size) = false := decide_eq_false h1
                    have hnx : false = true ↔ 47 = 47 ∧ ∃ h : c + 1 < Y.size, (Y[c + 1]'h).toNat = 47 := ⟨(fun h => by cases h), fun ⟨_, h, _⟩ => absurd h h1⟩
                    cases f with
                    | false =>
                      obtain ⟨_, hb⟩ := hstep false false hnx (by simp)
                      exfalso; simp at hb
                    | true =>
                      obtain ⟨hg, _⟩ := hstep true false hnx (by simp)
                      clear hstep hnx
                      go_wp2_with fail
                      go_roundw
                      case rel => exact Hrel u9 _ hg
                      case measure => simp [intOf]; omega
                · have e47 : decide ((m : Int) = 47) = false := decide_eq_false (by omega)
                  have e47' : ((m : Int) == 47) = false := beq_eq_false_iff_ne.2 (by omega)
                  have hnx : false = true ↔ m = 47 ∧ ∃ h : c + 1 < Y.size, (Y[c + 1]'h).toNat = 47 := ⟨(fun h => by cases h), fun ⟨h, _⟩ => absurd h h47⟩
                  cases f with
                  | true =>
                    obtain ⟨hg, _⟩ := hstep true false hnx (by simp [h10])
                    clear hstep hnx
                    go_wp2_with fail
                    go_roundw
                    case rel => exact Hrel u9 _ hg
                    case measure => simp [intOf]; omega
                  | false =>
                    obtain ⟨hg, hb⟩ := hstep false false hnx (by simp)
                    clear hstep hnx
                    have hb2 : m = 32 ∨ m = 9 ∨ m = 13 := by
                      rcases hb with h | h | h | h | h
                      · cases h
                      · exact .inl h
                      · exact .inr (.inl h)
                      · exact absurd h h10
                      · exact .inr (.inr h)
                    clear hb
                    rcases hb2 with rfl | rfl | rfl
                    · go_wp2_with fail
                      go_roundw
                      case rel => exact Hrel u9 _ hg
                      case measure => simp [intOf]; omega
                    · go_wp2_with fail
                      go_roundw
                      case rel => exact Hrel u9 _ hg
                      case measure => simp [intOf]; omega
                    · go_wp2_with fail
                      go_roundw
                      case rel => exact Hrel u9 _ hg
                      case measure => simp [intOf]; omega
            · have hd : decide ((c : Int) < (q : Int)) = false := decide_eq_false (by omega)
              have hcq2 : c = q := by omega
              subst hcq2
              go_wp2_with fail
              go_roundw
              case rel => exact ⟨i + 1, c + S.size, by simp, by simp, Hnext.out, hb2.out.trans (hbw.out.mono hb2.out.size)⟩
              case measure => simp [intOf]; omega
        · have hdl : decide ((i : Int) < (n : Int)) = false := decide_eq_false (by omega)
          have hin : i = n := by omega
          have hbY : (b : Int) = (Y.size : Int) := by rw [hv.out.done hin, HLs.out]
          obtain ⟨n', rfl⟩ : ∃ n', n = n' + 1 := ⟨n - 1, by omega⟩
          have hla := Hlast.out
          rw [Nat.add_sub_cancel] at hla
          obtain ⟨t, ht, hk⟩ := Option.map_eq_some_iff.1 hla
          obtain ⟨kd, tx, q⟩ := t
          have hk : kd = 0 := hk
          subst hk
          obtain ⟨c0, c1, c2⟩ := Hcs.out n' 0 tx q ht
          clear c1 c2 ht hla
          have hbe := hbel.out
          have d0 : wr.cell? ⟨g, o + n' * 3, none⟩ = some (.int .i64 0) := by rw [hbe.cell (p := ⟨g, o + n' * 3, none⟩) hg]; exact c0
          have zr : g < wr.heap.size := Nat.lt_of_lt_of_le hg hbe.size
          clear c0 hbe hdn
          go_wp2_with fail
          refine (awake_any _).mono ?_
          rintro e w5 ⟨rfl, hb5⟩
          have d5 : w5.cell? ⟨g, o + n' * 3, none⟩ = some (.int .i64 0) := by rw [hb5.cell (p := ⟨g, o + n' * 3, none⟩) zr]; exact d0
          have z5 : g < w5.heap.size := Nat.lt_of_lt_of_le zr hb5.size
          have Hb5 := Lib.hid (hbel.out.trans (hb5.mono hbel.out.size))
          clear d0 zr hb5 hbel
          have hw : IntKind.i64.wrap ((n' : Int) + 1 - 1) = (n' : Int) := by rw [IntKind.wrap_i64]; omega
          have hw2 : (n' : Int) + 1 - 1 = (n' : Int) := by omega
          go_wp2_with fail
          go_ret
          exact ⟨rfl, Hbz.out.trans (Hb5.out.mono Hbz.out.size)⟩
    · have h31 : decide ((s.size : Int) > 2000) = true := decide_eq_true (by omega)
      have h32 : decide ((2000 : Int) < (s.size : Int)) = true := decide_eq_true (by omega)
      clear hr
      go_enter Try.func12, Try.ntmps12
      go_wp2_with fail
      refine (mlight_any _ len _ ⟨a, cap, rfl⟩).mono ?_
      rintro e w' ⟨rfl, rfl⟩
      rw [hl1]
      go_wp2_with fail
      refine (awake_any _).mono ?_
      rintro e w3 ⟨rfl, hb3⟩
      go_wp2_with fail
      go_ret
      exact ⟨rfl, hb3⟩
  · have hl1 : decide (len ≤ 400) = false := decide_eq_false hl
    clear hr
    go_enter Try.func12, Try.ntmps12
    go_wp2_with fail
    refine (mlight_any _ len _ ⟨a, cap, rfl⟩).mono ?_
    rintro e w' ⟨rfl, rfl⟩
    rw [hl1]
    go_wp2_with fail
    refine (awake_any _).mono ?_
    rintro e w3 ⟨rfl, hb3⟩
    go_wp2_with fail
    go_ret
    exact ⟨rfl, hb3⟩
end Go.Proofs.Ytpjdboebambneaa
