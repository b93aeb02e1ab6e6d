/- The reference's Tokens. -/
import Derived.Test.YtpjdboebambneaaTkX
import Derived.Test.YtpjdboebambneaaLx
namespace Go.Proofs.Ytpjdboebambneaa
open Go.ChangeShapes Go.WideShapes Go.RowKit

theorem TS.step {w0 wr wd : World} {l : List UInt8} {k n j : Nat} {v vd : Value} {out : List Tk.Tok} (h : TS w0 wr l k v n out) (htl : Tk.toksAt l k = tokOf l k :: Tk.toksAt l (k + j)) (hj : 0 < j)
    (ho : wd.ownsRow w0.heap.size 74 3 vd (n + 1) (cellsT out ++ tokCells (tokOf l k))) (hb : Below w0.heap.size w0 wd) : TS w0 wd l (k + j) vd (n + 1) (out ++ [tokOf l k]) :=
  ⟨by rw [cellsT_snoc]; exact ho, by rw [List.length_append, h.len]; rfl, by have := h.le; omega, by rw [List.append_assoc, List.singleton_append, ← htl]; exact h.all, hb⟩
theorem TS.skip {w0 wr : World} {l : List UInt8} {k n j : Nat} {v : Value} {out : List Tk.Tok} (h : TS w0 wr l k v n out) (htl : Tk.toksAt l k = Tk.toksAt l (k + j)) : TS w0 wr l (k + j) v n out :=
  ⟨h.own, h.len, by have := h.le; omega, by rw [← htl]; exact h.all, h.bel⟩
theorem blank_nat (c : UInt8) : Tk.blank c = (c.toNat == 32 || c.toNat == 9 || c.toNat == 10 || c.toNat == 13) := rfl

set_option maxRecDepth 100000 in
set_option maxHeartbeats 3200000 in
theorem rtokens_any (s : ByteArray) (w : World) (hs : s.size ≤ 20000) :
    Calls Try.prog 44 #[.string s] w fun e w' => ∃ v, e = .returned v ∧ w'.ownsRow w.heap.size 74 3 v (Tk.toksAt s.data.toList 0).length (cellsT (Tk.toksAt s.data.toList 0)) ∧ Below w.heap.size w w' := by
  have Hlen : Hid (s.data.toList.length = s.size) := by show _ = _; simp
  have hd0 : decide ((s.size : Int) > 20000) = false := by simp; omega
  have hd01 : decide ((20000 : Int) < (s.size : Int)) = false := by simp; omega
  go_enter Try.func44, Try.ntmps44
  go_wp2_with fail
  clear hd0 hd01
  go_loopw [3, 4] (fun s3 s4 wr => ∃ (k n : Nat) (out : List Tk.Tok), s4 = .int .i64 k ∧ Hid (TS w wr s.data.toList k s3 n out) ∧ Hid (k ≤ s.size)) (fun _ s4 _ => s.size - (intOf s4).toNat)
  case atStart => exact ⟨0, 0, [], rfl, ⟨World.ownsRow_nil _ _ _ _, rfl, Nat.zero_le _, rfl, ext_refl w⟩, Nat.zero_le _⟩
  case round =>
    obtain ⟨k, n, out, rfl, hT, hks⟩ := hrel
    have hks2 := hks.out
    by_cases hlt : k < s.size
    · have hd : decide ((k : Int) < (s.size : Int)) = true := by simp; omega
      have Hkl : Hid (k < s.data.toList.length) := by show _ < _; rw [Hlen.out]; exact hlt
      obtain ⟨b, hb⟩ : ∃ b, Tk.blank (s[k]'hlt) = b := ⟨_, rfl⟩
      have Hb := Lib.hid hb
      rw [blank_nat] at hb
      have Hb2 := Lib.hid hb
      clear hb
      obtain ⟨p, hp⟩ : ∃ p, [47, 47].isPrefixOf (s.data.toList.drop k) = p := ⟨_, rfl⟩
      have Hp := Lib.hid hp
      clear hp
      go_upto_region 12 with fail
      go_cut [39] (fun s39 wx => s39 = .bool b ∧ wr = wx)
      case first =>
        by_cases e1 : (s[k]'hlt).toNat = 32
        · have f1 : (((s[k]'hlt).toNat : Int) == 32) = true := by rw [beq_iff_eq]; omega
          go_wp2_with fail
          go_meet
          refine ⟨?_, rfl⟩
          rw [← Hb2.out, e1]; rfl
        · have f1 : (((s[k]'hlt).toNat : Int) == 32) = false := by rw [beq_eq_false_iff_ne]; omega
          by_cases e2 : (s[k]'hlt).toNat = 9
          · have f2 : (((s[k]'hlt).toNat : Int) == 9) = true := by rw [beq_iff_eq]; omega
            go_wp2_with fail
            go_meet
            refine ⟨?_, rfl⟩
            rw [← Hb2.out, e2]; rfl
          · have f2 : (((s[k]'hlt).toNat : Int) == 9) = false := by rw [beq_eq_false_iff_ne]; omega
            by_cases e3 : (s[k]'hlt).toNat = 10
            · have f3 : (((s[k]'hlt).toNat : Int) == 10) = true := by rw [beq_iff_eq]; omega
              go_wp2_with fail
              go_meet
              refine ⟨?_, rfl⟩
              rw [← Hb2.out, e3]; rfl
            · have f3 : (((s[k]'hlt).toNat : Int) == 10) = false := by rw [beq_eq_false_iff_ne]; omega
              by_cases e4 : (s[k]'hlt).toNat = 13
              · have f4 : (((s[k]'hlt).toNat : Int) == 13) = true := by rw [beq_iff_eq]; omega
                go_wp2_with fail
                go_meet
                refine ⟨?_, rfl⟩
                rw [← Hb2.out, e4]; rfl
              · have f4 : (((s[k]'hlt).toNat : Int) == 13) = false := by rw [beq_eq_false_iff_ne]; omega
                go_wp2_with fail
                go_meet
                refine ⟨?_, rfl⟩
                rw [← Hb2.out, beq_eq_false_iff_ne.2 e1, beq_eq_false_iff_ne.2 e2, beq_eq_false_iff_ne.2 e3, beq_eq_false_iff_ne.2 e4]; rfl
      case rest =>
      obtain ⟨rfl, hwc⟩ := hcut
      subst hwc
      cases b with
      | true =>
        go_wp2_with fail
        go_roundw
        case rel => exact ⟨k + 1, n, out, by simp, hT.out.skip (Tk.toksAt_step _ (Tk.step_blank Hkl.out Hb.out) (by omega)), hlt⟩
        case measure => simp [intOf]; omega
      | false =>
        go_upto_region 14 with fail
        go_cut [56] (fun s56 wx => s56 = .bool p ∧ wr = wx)
        case first =>
          by_cases h2 : k + 1 < s.size
          · have hd2 : decide ((k : Int) + 1 < (s.size : Int)) = true := by simp; omega
            have hpt := Tk.pre_two (l := s.data.toList) (p := k) 47 47 (by rw [Hlen.out]; exact h2)
            rw [Hp.out] at hpt
            have hpt2 : p = ((((s[k]'hlt).toNat : Int) == 47) && (((s[k + 1]'h2).toNat : Int) == 47)) := by
              rw [hpt, Bool.beq_comm (a := 47) (b := s.data.toList[k]), Bool.beq_comm (a := 47) (b := s.data.toList[k + 1]), u8_int, u8_int]; rfl
            have Hpt := Lib.hid hpt2
            clear hpt hpt2
            by_cases e1 : ((((s[k]'hlt).toNat : Int) == 47)) = true
            · by_cases e2 : ((((s[k + 1]'h2).toNat : Int) == 47)) = true
              · go_wp2_with fail
                go_meet
                exact ⟨by rw [Hpt.out, e1, e2]; rfl, rfl⟩
              · have e2' := Bool.eq_false_iff.2 e2
                go_wp2_with fail
                go_meet
                exact ⟨by rw [Hpt.out, e1, e2']; rfl, rfl⟩
            · have e1' := Bool.eq_false_iff.2 e1
              go_wp2_with fail
              go_meet
              exact ⟨by rw [Hpt.out, e1']; rfl, rfl⟩
          · have hd2 : decide ((k : Int) + 1 < (s.size : Int)) = false := by simp; omega
            have hpt := Tk.pre_short (l := s.data.toList) (p := k) 47 47 (by rw [Hlen.out]; exact h2)
            rw [Hp.out] at hpt
            have Hpt := Lib.hid hpt
            clear hpt
            by_cases e1 : ((((s[k]'hlt).toNat : Int) == 47)) = true
            · go_wp2_with fail
              go_meet
              exact ⟨by rw [Hpt.out], rfl⟩
            · have e1' := Bool.eq_false_iff.2 e1
              go_wp2_with fail
              go_meet
              exact ⟨by rw [Hpt.out], rfl⟩
        case rest =>
        obtain ⟨rfl, hwc⟩ := hcut
        subst hwc
        cases p with
        | true =>
          go_wp2_with fail
          have hst := Tk.step_comment Hkl.out Hb.out Hp.out
          have hpos := Tk.comment_two Hkl.out Hp.out
          have Hst := Lib.hid hst
          have Hpos := Lib.hid hpos
          clear hst hpos
          go_loop [4] (fun i => ∃ m : Nat, i = .int .i64 ((k + m : Nat) : Int) ∧ Hid (k + m ≤ s.size) ∧ Hid (Tk.wh (fun x => x != 10) s.data.toList (k + m) + m = Tk.wh (fun x => x != 10) s.data.toList k)) (fun i => s.size - (intOf i).toNat)
          case atStart => exact ⟨0, rfl, hks2, rfl⟩
          case round =>
            obtain ⟨m, rfl, hm, hwm⟩ := hrel
            have hm2 := hm.out
            obtain ⟨j, hj⟩ : ∃ j, k + m = j := ⟨_, rfl⟩
            rw [hj] at hm hwm hm2 ⊢
            have Hj := Lib.hid hj
            clear hj
            by_cases hjs : j < s.size
            · have hdj : decide ((j : Int) < (s.size : Int)) = true := by simp; omega
              by_cases e1 : (s[j]'hjs).toNat = 10
              · have f1 : (((s[j]'hjs).toNat : Int) == 10) = true := by rw [beq_iff_eq]; omega
                have f2 : (((s[j]'hjs).toNat : Int) != 10) = false := by rw [bne, f1]; rfl
                have hz := Tk.wh_no (fun x => x != 10) (l := s.data.toList) (p := j) (by rw [Hlen.out]; exact hjs) (by
                  rw [show s.data.toList[j]'(by rw [Hlen.out]; exact hjs) = s[j]'hjs from rfl, UInt8.toNat_inj.1 (show (s[j]'hjs).toNat = (10 : UInt8).toNat from e1)]; rfl)
                have Hz := Lib.hid hz
                clear hz
                go_wp2_with fail
                go_roundw
                case rel =>
                  refine ⟨j, n, out, rfl, ?_, hm2⟩
                  have h1 := hwm.out
                  rw [Hz.out, Nat.zero_add] at h1
                  rw [← h1] at Hst Hpos
                  have h2 := hT.out.skip (Tk.toksAt_step _ Hst.out Hpos.out)
                  rw [Hj.out] at h2
                  exact h2
                case measure =>
                  have h1 := hwm.out
                  rw [Hz.out, Nat.zero_add] at h1
                  have h2 := Hpos.out
                  have h3 := Hj.out
                  rw [← h1] at h2
                  simp [intOf]; omega
              · have f1 : (((s[j]'hjs).toNat : Int) == 10) = false := by rw [beq_eq_false_iff_ne]; omega
                have f2 : (((s[j]'hjs).toNat : Int) != 10) = true := by rw [bne, f1]; rfl
                have hy := Tk.wh_yes (fun x => x != 10) (l := s.data.toList) (p := j) (by rw [Hlen.out]; exact hjs) (by
                  show ((s[j]'hjs) != 10) = true
                  rw [bne_iff_ne]
                  intro he
                  exact e1 (by rw [he]; rfl))
                have Hy := Lib.hid hy
                clear hy
                go_wp2_with fail
                go_round
                case rel =>
                  have h1 := hwm.out
                  have h2 := Hy.out
                  have h3 := Hj.out
                  refine ⟨m + 1, by simp; omega, by show _ ≤ _; omega, ?_⟩
                  show _ + _ = _
                  rw [show k + (m + 1) = j + 1 by omega]
                  omega
                case measure => simp [intOf]; omega
            · have hdj : decide ((j : Int) < (s.size : Int)) = false := by simp; omega
              have Hz := Lib.hid (Tk.wh_end (fun x => x != 10) (l := s.data.toList) (p := j) (by rw [Hlen.out]; omega))
              go_wp2_with fail
              go_roundw
              case rel =>
                refine ⟨j, n, out, rfl, ?_, hm2⟩
                have h1 := hwm.out
                rw [Hz.out, Nat.zero_add] at h1
                rw [← h1] at Hst Hpos
                have h2 := hT.out.skip (Tk.toksAt_step _ Hst.out Hpos.out)
                rw [Hj.out] at h2
                exact h2
              case measure =>
                have h1 := hwm.out
                rw [Hz.out, Nat.zero_add] at h1
                have h2 := Hpos.out
                have h3 := Hj.out
                rw [← h1] at h2
                simp [intOf]; omega
        | false =>
          obtain ⟨q, hq⟩ : ∃ q, Tk.part (s[k]'hlt) = q := ⟨_, rfl⟩
          have Hq := Lib.hid hq
          clear hq
          have hst := Tk.step_none Hkl.out Hb.out Hp.out
          obtain ⟨kd, S, hv, hc, hS⟩ := tokOf_parts s.data.toList k Hkl.out
          have hkS := Tk.tokLen_at Hkl.out
          have hSp := Tk.tokLen_pos (s.data.toList.drop k)
          have htl := toksAt_of Hkl.out hst
          have Htl := Lib.hid htl
          rw [Hlen.out] at hkS
          have Hv := Lib.hid hv
          have Hc := Lib.hid hc
          have HS := Lib.hid hS
          clear hv hc hS htl hst
          cases q with
          | true =>
            go_wp2_with (go_at_call 64; refine (in_any (s[k]'hlt) _).mono ?_; rintro e w' ⟨rfl, rfl⟩; rw [Hq.out])
            have hpos : 0 < Tk.wh Tk.part s.data.toList k := by rw [Tk.wh_yes _ Hkl.out Hq.out]; omega
            have Hpos := Lib.hid hpos
            clear hpos
            go_loop [6] (fun i => ∃ m : Nat, i = .int .i64 ((k + m : Nat) : Int) ∧ Hid (k + m ≤ s.size) ∧ Hid (Tk.wh Tk.part s.data.toList (k + m) + m = Tk.wh Tk.part s.data.toList k)) (fun i => s.size - (intOf i).toNat)
            case atStart => exact ⟨0, rfl, hks2, rfl⟩
            case round =>
              obtain ⟨m, rfl, hm, hwm⟩ := hrel
              have hm2 := hm.out
              obtain ⟨j, hj⟩ : ∃ j, k + m = j := ⟨_, rfl⟩
              rw [hj] at hm hwm hm2 ⊢
              have Hj := Lib.hid hj
              clear hj
              by_cases hjs : j < s.size
              · have hdj : decide ((j : Int) < (s.size : Int)) = true := by simp; omega
                obtain ⟨q2, hq2⟩ : ∃ q, Tk.part (s[j]'hjs) = q := ⟨_, rfl⟩
                have Hq2 := Lib.hid hq2
                clear hq2
                cases q2 with
                | true =>
                  have hy := Tk.wh_yes Tk.part (l := s.data.toList) (p := j) (by rw [Hlen.out]; exact hjs) Hq2.out
                  have Hy := Lib.hid hy
                  clear hy
                  go_wp2_with (go_at_call 64; refine (in_any (s[j]'hjs) _).mono ?_; rintro e w' ⟨rfl, rfl⟩; rw [Hq2.out])
                  go_round
                  case rel =>
                    have h1 := hwm.out
                    have h2 := Hy.out
                    have h3 := Hj.out
                    refine ⟨m + 1, by simp; omega, by show _ ≤ _; omega, ?_⟩
                    show _ + _ = _
                    rw [show k + (m + 1) = j + 1 by omega]
                    omega
                  case measure => simp [intOf]; omega
                | false =>
                  have hz := Tk.wh_no Tk.part (l := s.data.toList) (p := j) (by rw [Hlen.out]; exact hjs) Hq2.out
                  have Hz := Lib.hid hz
                  clear hz
                  go_upto_region 21 with (go_at_call 64; refine (in_any (s[j]'hjs) _).mono ?_; rintro e w' ⟨rfl, rfl⟩; rw [Hq2.out])
                  have hwk := hwm.out
                  rw [Hz.out, Nat.zero_add] at hwk
                  have hrun : Tk.runLen (s.data.toList.drop k) = j - k := by
                    show Tk.wh Tk.part s.data.toList k = _
                    rw [← hwk, ← Hj.out]; omega
                  have hkj : k < j := by have := Hpos.out; have := Hj.out; omega
                  have hkj2 : k ≤ j := by omega
                  have htok := (tok_run hrun hkj (ext_eq s k j (by omega) hm2)).trans Hv.out
                  simp only [Value.agg.injEq, Array.mk.injEq, List.cons.injEq, Value.int.injEq, Value.string.injEq, true_and, and_true] at htok
                  obtain ⟨hkd, hex⟩ := htok
                  have hsz : (s.extract k j).size = j - k := by rw [ByteArray.size_extract]; omega
                  have hSsz : S.size = j - k := by rw [← hex]; exact hsz
                  have htl2 := Htl.out
                  rw [← HS.out, hSsz] at htl2
                  have Htl2 := Lib.hid htl2
                  have Hkd := Lib.hid hkd
                  have Hex := Lib.hid hex
                  have hz := hT.out.own.lt
                  clear htl2 hkd hwk hrun hz
                  have hsz1 : 0 < (s.extract k j).size := by omega
                  have hsz2 : (s.extract k j).size ≤ 1000000 := by omega
                  clear hex hsz
                  have hnk := hT.out.le
                  refine Lx.region Lx.below_steps [(0, true), (1, true), (2, true), (3, true), (4, true), (6, true), (7, true), (8, true), (9, true), (10, true), (5, false), (11, true), (12, false)] [(13, false), (14, false)] (fun w' => (∀ b o, b < wr.heap.size → w'.cell? ⟨b, o, none⟩ = wr.cell? ⟨b, o, none⟩) ∧ (∀ b o, b < wr.heap.size → w'.frozen? ⟨b, o, none⟩ = wr.frozen? ⟨b, o, none⟩) ∧ Below wr.heap.size wr w') (by kernel_rfl) (by kernel_rfl) (fun _ _ _ _ _ h => h) (fun _ h => held_below h) (fun _ _ h hb => held_call h hb) ?_; intro xa hbxa; replace hbxa : Below wr.heap.size wr xa := hbxa; simp only [Lx.pick, List.filterMap_cons, List.filterMap_nil, List.getElem?_cons_succ, List.getElem?_cons_zero, List.map_cons, List.map_nil]; have hSxa := held_below hbxa
                  repeat (first | (refine Lx.takeY ?_ (by rfl) ?_ (by assumption) ?_; rotate_left; (focus (intro w' hSw; (try dsimp only at hSw); go_simp; (try with_reducible rfl))); simp only [Act.put, List.setIfInBounds_toArray, List.set_cons_zero, List.set_cons_succ]) | (refine Lx.takeN (by rfl) (by assumption) ?_; simp only [Act.put, List.setIfInBounds_toArray, List.set_cons_zero, List.set_cons_succ]))
                  refine Lx.go ?_; intro K hK; go_simp; go_at_call 65; refine (rkind_any _ _ hsz1 hsz2).mono ?_; rintro e w0xb ⟨rfl, hb0xb⟩; refine hK _ _ hb0xb ?_; clear hK K; intro wxb hbxb; replace hbxb : Below w0xb.heap.size w0xb wxb := hbxb; have hSxb := held_call (held_call hSxa hb0xb) hbxb; try simp only [Act.put, List.setIfInBounds_toArray, List.set_cons_zero, List.set_cons_succ]
                  rw [Hkd.out, Hex.out]
                  repeat (first | (refine Lx.takeY ?_ (by rfl) ?_ (by assumption) ?_; rotate_left; (focus (intro w' hSw; (try dsimp only at hSw); go_simp; (try with_reducible rfl))); simp only [Act.put, List.setIfInBounds_toArray, List.set_cons_zero, List.set_cons_succ]) | (refine Lx.takeN (by rfl) (by assumption) ?_; simp only [Act.put, List.setIfInBounds_toArray, List.set_cons_zero, List.set_cons_succ]))
                  refine Lx.go ?_; intro K hK; go_simp
                  obtain ⟨xc0, hxc0, BE, hbe⟩ := fresh_blk wxb [Value.int IntKind.i64 kd, Value.string S, Value.int IntKind.i64 k] 74
                  rw [hxc0]
                  refine hK _ _ hbe ?_; clear hK K; intro xc hbxc; replace hbxc : Below xc0.heap.size xc0 xc := hbxc; have hSxc := held_call (held_call hSxb hbe) hbxc; try simp only [Act.put, List.setIfInBounds_toArray, List.set_cons_zero, List.set_cons_succ]
                  have BE2 := BE.call hbxc
                  have hbwc : Below wr.heap.size wr xc := hSxc.2.2
                  have hsrc : Src Try.prog 3 68 (.slice (some ⟨wxb.heap.size, 0, none⟩) 1 1) 1 (tokCells (tokOf s.data.toList k)) xc :=
                    Src.ofSlice xc (e' := 74) Try.underlying68 _ 1 1 _ (by rw [Hc.out]; rfl) (fun j u hj => by rw [Addr.add_lit, Nat.zero_add]; exact (BE2.cells j).trans (by rw [← hj, Hc.out])) (tokCells_one _)
                  have hown := ownsRow_below hT.out.own hbwc
                  have hbelb : Below w.heap.size w xc := ext_trans hT.out.bel hbwc
                  have hbig := hbelb.size
                  have Hbelb := Lib.hid hbelb
                  have Hsrc := Lib.hid hsrc
                  have Hown := Lib.hid hown
                  clear hSxa hSxb hSxc hbe hbxc hxc0 BE BE2 hsrc hown hbelb hbxb hb0xb hbxa hbwc
                  refine Lx.tail ?_
                  refine app_at _ _ 68 68 74 (.agg #[.int .i64 0, .string ⟨#[]⟩, .int .i64 0]) 3 32 rfl rfl Try.underlying68 (by kernel_rfl) rfl (by decide) w.heap.size Hown.out hbig rfl rfl Hsrc.out ?c1 ?c2 ?_
                  case c1 => unfold maxLen; omega
                  case c2 => omega
                  intro vd wd Ho Hg hat
                  have hbd := below_own Hbelb.out Hown.out Hg hbig
                  have HTS := Lib.hid (hT.out.step Htl2.out (by omega) Ho hbd)
                  clear hbd Ho Hg hat Hsrc Hown Hbelb
                  go_wp2_with fail
                  go_roundw
                  case rel => exact ⟨j, n + 1, _, rfl, by have h2 := HTS.out; rw [show k + (j - k) = j by omega] at h2; exact h2, hm2⟩
                  case measure => simp [intOf]; omega
              · have hdj : decide ((j : Int) < (s.size : Int)) = false := by simp; omega
                have Hz := Lib.hid (Tk.wh_end Tk.part (l := s.data.toList) (p := j) (by rw [Hlen.out]; omega))
                go_upto_region 21 with fail
                have hwk := hwm.out
                rw [Hz.out, Nat.zero_add] at hwk
                have hrun : Tk.runLen (s.data.toList.drop k) = j - k := by
                  show Tk.wh Tk.part s.data.toList k = _
                  rw [← hwk, ← Hj.out]; omega
                have hkj : k < j := by have := Hpos.out; have := Hj.out; omega
                have hkj2 : k ≤ j := by omega
                have htok := (tok_run hrun hkj (ext_eq s k j (by omega) hm2)).trans Hv.out
                simp only [Value.agg.injEq, Array.mk.injEq, List.cons.injEq, Value.int.injEq, Value.string.injEq, true_and, and_true] at htok
                obtain ⟨hkd, hex⟩ := htok
                have hsz : (s.extract k j).size = j - k := by rw [ByteArray.size_extract]; omega
                have hSsz : S.size = j - k := by rw [← hex]; exact hsz
                have htl2 := Htl.out
                rw [← HS.out, hSsz] at htl2
                have Htl2 := Lib.hid htl2
                have Hkd := Lib.hid hkd
                have Hex := Lib.hid hex
                have hz := hT.out.own.lt
                clear htl2 hkd hwk hrun hz
                have hsz1 : 0 < (s.extract k j).size := by omega
                have hsz2 : (s.extract k j).size ≤ 1000000 := by omega
                clear hex hsz
                have hnk := hT.out.le
                refine Lx.region Lx.below_steps [(0, true), (1, true), (2, true), (3, true), (4, true), (6, true), (7, true), (8, true), (9, true), (10, true), (5, false), (11, true), (12, false)] [(13, false), (14, false)] (fun w' => (∀ b o, b < wr.heap.size → w'.cell? ⟨b, o, none⟩ = wr.cell? ⟨b, o, none⟩) ∧ (∀ b o, b < wr.heap.size → w'.frozen? ⟨b, o, none⟩ = wr.frozen? ⟨b, o, none⟩) ∧ Below wr.heap.size wr w') (by kernel_rfl) (by kernel_rfl) (fun _ _ _ _ _ h => h) (fun _ h => held_below h) (fun _ _ h hb => held_call h hb) ?_; intro xa hbxa; replace hbxa : Below wr.heap.size wr xa := hbxa; simp only [Lx.pick, List.filterMap_cons, List.filterMap_nil, List.getElem?_cons_succ, List.getElem?_cons_zero, List.map_cons, List.map_nil]; have hSxa := held_below hbxa
                repeat (first | (refine Lx.takeY ?_ (by rfl) ?_ (by assumption) ?_; rotate_left; (focus (intro w' hSw; (try dsimp only at hSw); go_simp; (try with_reducible rfl))); simp only [Act.put, List.setIfInBounds_toArray, List.set_cons_zero, List.set_cons_succ]) | (refine Lx.takeN (by rfl) (by assumption) ?_; simp only [Act.put, List.setIfInBounds_toArray, List.set_cons_zero, List.set_cons_succ]))
                refine Lx.go ?_; intro K hK; go_simp; go_at_call 65; refine (rkind_any _ _ hsz1 hsz2).mono ?_; rintro e w0xb ⟨rfl, hb0xb⟩; refine hK _ _ hb0xb ?_; clear hK K; intro wxb hbxb; replace hbxb : Below w0xb.heap.size w0xb wxb := hbxb; have hSxb := held_call (held_call hSxa hb0xb) hbxb; try simp only [Act.put, List.setIfInBounds_toArray, List.set_cons_zero, List.set_cons_succ]
                rw [Hkd.out, Hex.out]
                repeat (first | (refine Lx.takeY ?_ (by rfl) ?_ (by assumption) ?_; rotate_left; (focus (intro w' hSw; (try dsimp only at hSw); go_simp; (try with_reducible rfl))); simp only [Act.put, List.setIfInBounds_toArray, List.set_cons_zero, List.set_cons_succ]) | (refine Lx.takeN (by rfl) (by assumption) ?_; simp only [Act.put, List.setIfInBounds_toArray, List.set_cons_zero, List.set_cons_succ]))
                refine Lx.go ?_; intro K hK; go_simp
                obtain ⟨xc0, hxc0, BE, hbe⟩ := fresh_blk wxb [Value.int IntKind.i64 kd, Value.string S, Value.int IntKind.i64 k] 74
                rw [hxc0]
                refine hK _ _ hbe ?_; clear hK K; intro xc hbxc; replace hbxc : Below xc0.heap.size xc0 xc := hbxc; have hSxc := held_call (held_call hSxb hbe) hbxc; try simp only [Act.put, List.setIfInBounds_toArray, List.set_cons_zero, List.set_cons_succ]
                have BE2 := BE.call hbxc
                have hbwc : Below wr.heap.size wr xc := hSxc.2.2
                have hsrc : Src Try.prog 3 68 (.slice (some ⟨wxb.heap.size, 0, none⟩) 1 1) 1 (tokCells (tokOf s.data.toList k)) xc :=
                  Src.ofSlice xc (e' := 74) Try.underlying68 _ 1 1 _ (by rw [Hc.out]; rfl) (fun j u hj => by rw [Addr.add_lit, Nat.zero_add]; exact (BE2.cells j).trans (by rw [← hj, Hc.out])) (tokCells_one _)
                have hown := ownsRow_below hT.out.own hbwc
                have hbelb : Below w.heap.size w xc := ext_trans hT.out.bel hbwc
                have hbig := hbelb.size
                have Hbelb := Lib.hid hbelb
                have Hsrc := Lib.hid hsrc
                have Hown := Lib.hid hown
                clear hSxa hSxb hSxc hbe hbxc hxc0 BE BE2 hsrc hown hbelb hbxb hb0xb hbxa hbwc
                refine Lx.tail ?_
                refine app_at _ _ 68 68 74 (.agg #[.int .i64 0, .string ⟨#[]⟩, .int .i64 0]) 3 32 rfl rfl Try.underlying68 (by kernel_rfl) rfl (by decide) w.heap.size Hown.out hbig rfl rfl Hsrc.out ?c1 ?c2 ?_
                case c1 => unfold maxLen; omega
                case c2 => omega
                intro vd wd Ho Hg hat
                have hbd := below_own Hbelb.out Hown.out Hg hbig
                have HTS := Lib.hid (hT.out.step Htl2.out (by omega) Ho hbd)
                clear hbd Ho Hg hat Hsrc Hown Hbelb
                go_wp2_with fail
                go_roundw
                case rel => exact ⟨j, n + 1, _, rfl, by have h2 := HTS.out; rw [show k + (j - k) = j by omega] at h2; exact h2, hm2⟩
                case measure => simp [intOf]; omega
          | false =>
            go_upto_region 7 with (go_at_call 64; refine (in_any (s[k]'hlt) _).mono ?_; rintro e w' ⟨rfl, rfl⟩; rw [Hq.out])
            have hrun : Tk.runLen (s.data.toList.drop k) = 0 := Tk.wh_no Tk.part Hkl.out Hq.out
            have Hrun := Lib.hid hrun
            have hml := Tk.mark_len (s.data.toList.drop k) (by intro he; have := congrArg List.length he; simp at this; have := Hlen.out; omega)
            have hnn := mark_nn (s.data.toList.drop k)
            rw [List.length_drop, Hlen.out] at hml
            obtain ⟨m, hm⟩ : ∃ m : Nat, Tk.mark (s.data.toList.drop k) = m := ⟨_, (Int.toNat_of_nonneg hnn).symm⟩
            rw [hm] at hml
            have Hm := Lib.hid hm
            clear hrun hnn hm
            have hml2 : k + m ≤ s.size := by omega
            clear hml
            by_cases hm0 : 0 < m
            · have hd3 : ((m : Int) == (0 : Int)) = false := by rw [beq_eq_false_iff_ne]; omega
              have hex := (tok_mark Hrun.out Hm.out hm0 (ext_eq s k (k + m) (by omega) hml2)).trans Hv.out
              simp only [Value.agg.injEq, Array.mk.injEq, List.cons.injEq, Value.int.injEq, Value.string.injEq, true_and, and_true] at hex
              have Hkd := Lib.hid hex.1
              have Hex := Lib.hid hex.2
              have htl2 := Htl.out
              rw [Tk.tokLen_mark Hrun.out Hm.out hm0] at htl2
              have Htl2 := Lib.hid htl2
              clear hex htl2
              obtain ⟨wb, hwb, HB6, hbb⟩ := fresh_blk wr [Value.int IntKind.i64 4, Value.string (s.extract k (k + m)), Value.int IntKind.i64 k] 74
              have hsrc : Src Try.prog 3 68 (.slice (some ⟨wr.heap.size, 0, none⟩) 1 1) 1 (tokCells (tokOf s.data.toList k)) wb :=
                Src.ofSlice wb (e' := 74) Try.underlying68 _ 1 1 _ (by rw [Hc.out]; rfl) (fun j u hj => by rw [Addr.add_lit, Nat.zero_add]; exact (HB6.cells j).trans (by rw [← hj, Hc.out, ← Hkd.out, ← Hex.out])) (tokCells_one _)
              have hown := ownsRow_below hT.out.own hbb
              have hbelb : Below w.heap.size w wb := ext_trans hT.out.bel hbb
              have hbig := hbelb.size
              have Hbelb := Lib.hid hbelb
              have Hsrc := Lib.hid hsrc
              have Hown := Lib.hid hown
              clear hsrc hown hbelb HB6 hbb
              have hnk := hT.out.le
              go_upto_region 11 with (first | (go_at_call 66; refine (rmark_any s k _ hlt (by omega)).mono ?_; rintro e w' ⟨rfl, rfl⟩; rw [Hm.out]) | (at_builtin; (try rw [hwb]); refine app_at _ _ 68 68 74 (.agg #[.int .i64 0, .string ⟨#[]⟩, .int .i64 0]) 3 32 rfl rfl Try.underlying68 (by kernel_rfl) rfl (by decide) w.heap.size Hown.out hbig rfl rfl Hsrc.out ?c1 ?c2 ?_))
              case c1 => unfold maxLen; omega
              case c2 => omega
              intro vd wd Ho Hg hat
              have hbd := below_own Hbelb.out Hown.out Hg hbig
              have HTS := Lib.hid (hT.out.step Htl2.out (by omega) Ho hbd)
              clear hbd Ho Hg hat Hsrc Hown Hbelb
              go_wp2_with fail
              go_roundw
              case rel => exact ⟨k + m, n + 1, _, by simp, HTS.out, by show _ ≤ _; omega⟩
              case measure => simp [intOf]; omega
            · have hm1 : m = 0 := by omega
              subst hm1
              have hex := (tok_bad Hrun.out (by rw [Hm.out]; omega) (ext_eq s k (k + 1) (by omega) (by omega))).trans Hv.out
              simp only [Value.agg.injEq, Array.mk.injEq, List.cons.injEq, Value.int.injEq, Value.string.injEq, true_and, and_true] at hex
              have Hkd := Lib.hid hex.1
              have Hex := Lib.hid hex.2
              have htl2 := Htl.out
              rw [Tk.tokLen_bad Hrun.out (by rw [Hm.out]; omega)] at htl2
              have Htl2 := Lib.hid htl2
              clear hex htl2
              obtain ⟨wb, hwb, HB6, hbb⟩ := fresh_blk wr [Value.int IntKind.i64 5, Value.string (s.extract k (k + 1)), Value.int IntKind.i64 k] 74
              have hsrc : Src Try.prog 3 68 (.slice (some ⟨wr.heap.size, 0, none⟩) 1 1) 1 (tokCells (tokOf s.data.toList k)) wb :=
                Src.ofSlice wb (e' := 74) Try.underlying68 _ 1 1 _ (by rw [Hc.out]; rfl) (fun j u hj => by rw [Addr.add_lit, Nat.zero_add]; exact (HB6.cells j).trans (by rw [← hj, Hc.out, ← Hkd.out, ← Hex.out])) (tokCells_one _)
              have hown := ownsRow_below hT.out.own hbb
              have hbelb : Below w.heap.size w wb := ext_trans hT.out.bel hbb
              have hbig := hbelb.size
              have Hbelb := Lib.hid hbelb
              have Hsrc := Lib.hid hsrc
              have Hown := Lib.hid hown
              clear hsrc hown hbelb HB6 hbb
              have hnk := hT.out.le
              go_upto_region 11 with (first | (go_at_call 66; refine (rmark_any s k _ hlt (by omega)).mono ?_; rintro e w' ⟨rfl, rfl⟩; rw [Hm.out]) | (at_builtin; (try rw [hwb]); refine app_at _ _ 68 68 74 (.agg #[.int .i64 0, .string ⟨#[]⟩, .int .i64 0]) 3 32 rfl rfl Try.underlying68 (by kernel_rfl) rfl (by decide) w.heap.size Hown.out hbig rfl rfl Hsrc.out ?c1 ?c2 ?_))
              case c1 => unfold maxLen; omega
              case c2 => omega
              intro vd wd Ho Hg hat
              have hbd := below_own Hbelb.out Hown.out Hg hbig
              have HTS := Lib.hid (hT.out.step Htl2.out (by omega) Ho hbd)
              clear hbd Ho Hg hat Hsrc Hown Hbelb
              go_wp2_with fail
              go_roundw
              case rel => exact ⟨k + 1, n + 1, _, by simp, HTS.out, by show _ ≤ _; omega⟩
              case measure => simp [intOf]; omega
    · have hd : decide ((k : Int) < (s.size : Int)) = false := by simp; omega
      have hks3 : k = s.size := by omega
      have hend := Tk.toksAt_end (l := s.data.toList) (p := k) (by rw [Hlen.out]; exact hks3)
      have Hend := Lib.hid hend
      clear hend
      obtain ⟨wb, hwb, HB6, hbb⟩ := fresh_blk wr [Value.int IntKind.i64 0, Value.string ⟨#[]⟩, Value.int IntKind.i64 s.size] 74
      have hcv : tokCells ⟨0, [], k⟩ = [Value.int IntKind.i64 0, Value.string ⟨#[]⟩, Value.int IntKind.i64 s.size] := by rw [hks3]; rfl
      have hsrc : Src Try.prog 3 68 (.slice (some ⟨wr.heap.size, 0, none⟩) 1 1) 1 (tokCells ⟨0, [], k⟩) wb :=
        Src.ofSlice wb (e' := 74) Try.underlying68 _ 1 1 _ rfl (fun j u hj => by rw [Addr.add_lit, Nat.zero_add]; exact (HB6.cells j).trans (by rw [← hj, hcv])) (tokCells_one _)
      have hown := ownsRow_below hT.out.own hbb
      have hbelb : Below w.heap.size w wb := ext_trans hT.out.bel hbb
      have hbig := hbelb.size
      have Hbelb := Lib.hid hbelb
      have Hsrc := Lib.hid hsrc
      have Hown := Lib.hid hown
      have hnk := hT.out.le
      clear hsrc hown hbelb HB6 hbb hcv
      go_wp2_with (at_builtin; (try rw [hwb]); refine app_at _ _ 68 68 74 (.agg #[.int .i64 0, .string ⟨#[]⟩, .int .i64 0]) 3 32 rfl rfl Try.underlying68 (by kernel_rfl) rfl (by decide) w.heap.size Hown.out hbig rfl rfl Hsrc.out ?c1 ?c2 ?_)
      case c1 => unfold maxLen; omega
      case c2 => omega
      intro vd wd Ho Hg hat
      go_wp2_with fail
      go_ret
      refine ⟨vd, rfl, ?_, below_own Hbelb.out Hown.out Hg hbig⟩
      try rw [← hks3] at Ho
      rw [← hT.out.all, Hend.out, cellsT_snoc, List.length_append, hT.out.len]
      exact Ho

theorem rtokens_long (s : ByteArray) (w : World) (hs : 20000 < s.size) :
    Calls Try.prog 44 #[.string s] w fun e w' => e = .returned (.slice none 0 0) ∧ w = w' := by
  have hd0 : decide ((s.size : Int) > 20000) = true := by simp; omega
  have hd01 : decide ((20000 : Int) < (s.size : Int)) = true := by simp; omega
  go_enter Try.func44, Try.ntmps44
  go_wp2_with fail
  go_ret
  exact ⟨rfl, rfl⟩
end Go.Proofs.Ytpjdboebambneaa
