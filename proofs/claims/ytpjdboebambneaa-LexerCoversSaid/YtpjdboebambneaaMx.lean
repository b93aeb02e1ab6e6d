/- Texts of modules with changes. -/
import Derived.Test.YtpjdboebambneaaMe
namespace Go.Proofs.Ytpjdboebambneaa
open Go.ChangeShapes Go.WideShapes Go.RowKit

theorem LS.mono {c d : Nat} {A B : Nat → Prop} {w : World} {v : Value} {n : Nat} (h : LS c A w v n) (hcd : c ≤ d) (hk : ∀ g, A g → B g) : LS d B w v n := by
  obtain ⟨p, cap, vs, hv, hn, hh, r⟩ := h
  exact ⟨p, cap, vs, hv, hn, hh.mono hk, List.all_eq_true.2 fun u hu => strB_mono hcd (List.all_eq_true.1 r u hu)⟩

set_option maxRecDepth 100000 in
set_option maxHeartbeats 6400000 in
theorem wrong_any (gd a : Nat) (tv : Value) (ts : List Int) (w : World) (hd : Blk w gd [tv, .int .i64 a]) (ha : a ≤ ts.length) (hnum : NumsAt (fun g => g ≠ gd ∧ g < w.heap.size) w tv ts) :
    Calls Try.prog 60 #[.pointer (some ⟨gd, 0, none⟩)] w fun e w' => ∃ (E : Env) (v : Value) (n : Nat), e = .returned v ∧ 1 ≤ n ∧ n ≤ 3 ∧ E.gd = gd ∧ w.heap.size ≤ E.gp ∧ PE E w' ∧ LS 17500 E.A w' v n ∧ DX gd w w' := by
  go_enter Try.func60, Try.ntmps60
  go_wp2_with fail
  refine (sources_any gd a tv ts w hd ha hnum).mono ?_
  rintro e w1 ⟨E, v, n, rfl, hn1, hn3, rfl, hgp, hE, hL, hD⟩
  have HE := Lib.hid hE
  have HL := Lib.hid hL
  have HD := Lib.hid hD
  clear hE hL hD hd hnum
  go_wp2_with fail
  refine (mnext_any E 4 _ HE.out (by omega) (by omega)).mono ?_
  rintro e w2 ⟨r, rfl, hr0, hr1, hp⟩
  obtain ⟨m0, rfl⟩ := Int.eq_ofNat_of_zero_le hr0
  have hm0 : m0 ≤ 3 := by omega
  have hL2 := HL.out.keep hp.agree
  have hE2 := HE.out.keep hp
  have hD2 := HD.out.pr hp.toPX hgp
  clear hp hr0 hr1 HE HL HD
  go_wp2_with fail
  go_loopw [3, 4] (fun s3 s4 wr => ∃ m : Nat, s4 = .int .i64 m ∧ Hid (m ≤ 3) ∧ Hid (LS (17200 + 100 * (3 - m)) E.A wr s3 n) ∧ Hid (PE E wr) ∧ Hid (DX E.gd w wr)) (fun _ s4 _ => (intOf s4).toNat)
  case atStart => exact ⟨m0, rfl, hm0, hL2.mono (by omega) fun _ x => x, hE2, hD2⟩
  case round =>
    obtain ⟨m, rfl, Hm, HL, HE, HD⟩ := hrel
    have hm := Hm.out
    cases m with
    | zero =>
      have hd1 : decide (((0 : Nat) : Int) > 0) = false := by decide
      have hd2 : decide ((0 : Int) < ((0 : Nat) : Int)) = false := by decide
      go_wp2_with fail
      go_ret
      exact ⟨E, _, n, rfl, hn1, hn3, rfl, hgp, HE.out, HL.out.mono (by omega) fun _ x => x, HD.out⟩
    | succ m =>
      have hd1 : decide (((m + 1 : Nat) : Int) > 0) = true := decide_eq_true (by omega)
      have hd2 : decide ((0 : Int) < ((m + 1 : Nat) : Int)) = true := decide_eq_true (by omega)
      go_wp2_with fail
      refine (edit_any E _ n _ _ HE.out HL.out hn1 hn3 (by omega)).mono ?_
      rintro e w5 ⟨M, Tx, at_, cnt, rfl, hat, hcn, hTx, hp⟩
      have HL5 := Lib.hid (HL.out.keep hp.agree)
      have HE5 := Lib.hid (HE.out.keep hp)
      have HD5 := Lib.hid (HD.out.pr hp.toPX hgp)
      clear hp
      go_wp2_with fail
      refine (apply_any _ n _ M Tx at_ cnt _ HL5.out hn1 hn3 (by omega) hat hcn hTx).mono ?_
      rintro e w6 ⟨v6, rfl, hL6, hb6⟩
      have hL7 : LS (17200 + 100 * (3 - m)) E.A w6 v6 n := hL6.mono (by omega) fun g hg => ⟨by have := HE5.out.ltd; omega, by have := HE5.out.ltp; omega⟩
      have HL7 := Lib.hid hL7
      have HE7 := Lib.hid (HE5.out.below hb6)
      have HD7 := Lib.hid (HD5.out.trans (DX.of_below hb6))
      clear hL6 hL7 hb6
      go_wp2_with fail
      go_roundw
      case rel => exact ⟨m, by simp, by show _ ≤ _; omega, HL7.out, HE7.out, HD7.out⟩
      case measure => simp [intOf]

set_option maxRecDepth 100000 in
set_option maxHeartbeats 6400000 in
theorem text_any (gd a : Nat) (tv : Value) (ts : List Int) (w : World) (hd : Blk w gd [tv, .int .i64 a]) (ha : a ≤ ts.length) (hnum : NumsAt (fun g => g ≠ gd ∧ g < w.heap.size) w tv ts) :
    Calls Try.prog 41 #[.pointer (some ⟨gd, 0, none⟩)] w fun e w' => ∃ S : ByteArray, e = .returned (.string S) ∧ S.size ≤ 17500 ∧ DX gd w w' := by
  go_enter Try.func41, Try.ntmps41
  go_wp2_with fail
  refine (wrong_any gd a tv ts w hd ha hnum).mono ?_
  rintro e w1 ⟨E, v, n, rfl, hn1, hn3, rfl, hgp, hE, hL, hD⟩
  have hL0 := hL
  obtain ⟨p, cap, _, rfl, _, _, _⟩ := hL0
  have HL := Lib.hid hL
  have HD := Lib.hid hD
  clear hL hD hd hnum
  go_wp2_with fail
  refine (mnext_any E n _ hE (by omega) (by omega)).mono ?_
  rintro e w2 ⟨k, rfl, hk0, hk1, hp⟩
  obtain ⟨j, rfl⟩ := Int.eq_ofNat_of_zero_le hk0
  have hjn : j < n := by omega
  obtain ⟨g, o, N, T, rfl, hg, c0, c1, hN, hT⟩ := (HL.out.keep hp.agree).at hjn
  have HD2 := Lib.hid (HD.out.pr hp.toPX hgp)
  clear hp
  go_wp2_with fail
  go_ret
  exact ⟨T, rfl, hT, HD2.out⟩
end Go.Proofs.Ytpjdboebambneaa
