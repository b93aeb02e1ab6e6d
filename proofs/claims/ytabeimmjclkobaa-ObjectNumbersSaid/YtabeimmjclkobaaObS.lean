/- Objects: numbers are read, by the reference. -/
import Derived.Test.YtabeimmjclkobaaObR
namespace Go.Proofs.Ytabeimmjclkobaa
open Go.ChangeShapes Go.WideShapes Go.RowKit

set_option maxRecDepth 100000 in
set_option maxHeartbeats 1600000 in
theorem rreadnumber_any {A : Nat → Prop} (v : Value) (bs : List UInt8) (w : World) (hv : BRow A w v bs) (hn : bs.length ≤ 1000000000000) :
    Calls Try.prog 12 #[v] w fun e w' => e = .returned (readVal (Ob.read bs)) ∧ w' = w := by
  obtain ⟨p, c1, rfl, Hp, hcap⟩ := hv
  have HP := Lib.hid Hp
  obtain ⟨n, hl⟩ : ∃ n, bs.length = n := ⟨_, rfl⟩
  have Hl := Lib.hid hl
  rw [hl] at hn hcap ⊢
  clear Hp hl
  go_enter Try.func12, Try.ntmps12
  go_upto_region 3 with fail
  go_loopw [5, 6] (fun u i wr => wr = w ∧ ∃ k : Nat, i = .int .i64 k ∧ k ≤ n ∧ k ≤ 10 ∧ u = .int .u64 (Ob.val (bs.take k)) ∧ Hid (∀ x ∈ bs.take k, 128 ≤ x.toNat)) (fun _ i _ => n - (intOf i).toNat)
  case atStart => exact ⟨rfl, 0, rfl, Nat.zero_le _, Nat.zero_le _, by rw [List.take_zero]; rfl, by show ∀ x ∈ _, _; simp⟩
  case round =>
    obtain ⟨rfl, k, rfl, hk, hk10, rfl, hno⟩ := hrel
    by_cases hlt : k < n
    · have d1 : decide ((k : Int) < (n : Int)) = true := decide_eq_true (by omega)
      by_cases h10 : k < 10
      · have d2 : decide ((k : Int) < 10) = true := decide_eq_true (by omega)
        have hkl : k < bs.length := by rw [Hl.out]; exact hlt
        obtain ⟨ga, oa, rfl, _, hga, hca⟩ := HP.out.at (by rw [List.length_map]; omega)
        obtain ⟨c, hc⟩ : ∃ c, bs[k] = c := ⟨_, rfl⟩
        have hck : bs[k]? = some c := by rw [← hc]; exact List.getElem?_eq_getElem hkl
        have d0 := hca k (byteVal c) (by rw [List.getElem?_map, hck]; rfl)
        unfold byteVal at d0
        have Hck := Lib.hid hck
        have hc256 := c.toNat_lt
        clear hca hc hck hkl
        by_cases hbad : k = 9 ∧ 1 < c.toNat
        · obtain ⟨h9, hc1⟩ := hbad
          subst h9
          have hres : Hid (Ob.read bs = (0, 0, false)) := Ob.read_bad hno.out Hck.out (.inl ⟨rfl, hc1⟩)
          have q2 : decide (1 < (c.toNat : Int)) = true := decide_eq_true (by omega)
          clear hc1
          go_wp2_with fail
          refine bodyPost_ret (v := .tuple #[.int .i64 0, .int .i64 0, .bool false]) (by simp [results, Try.results12, go_sem]) rfl ⟨?_, rfl⟩
          rw [hres.out]; rfl
        · have Hbad := Lib.hid hbad
          clear hbad
          go_upto_region 5 with fail
          go_cut [26] (fun s wx => s = .bool false ∧ wr = wx)
          case first =>
            by_cases h9 : k = 9
            · subst h9
              have q2 : decide (1 < (c.toNat : Int)) = false := decide_eq_false (by have := Hbad.out; omega)
              go_wp2_with fail
              go_meet
              exact ⟨rfl, rfl⟩
            · have q9 : ((k : Int) == 9) = false := by simp; omega
              clear h9
              go_wp2_with fail
              go_meet
              exact ⟨rfl, rfl⟩
          case rest =>
            obtain ⟨rfl, rfl⟩ := hcut
            have hand := u8_and127 (x := (c.toNat : Int)) (by omega) (by omega)
            have hv := Ob.val_lt (bs.take k)
            rw [List.length_take, Hl.out, Nat.min_eq_left (by omega)] at hv
            have hx : 128 ^ k * (c.toNat % 128) < 18446744073709551616 ∧ 128 ^ k * (c.toNat % 128) + 128 ^ k ≤ 18446744073709551616 := by
              by_cases h9 : k = 9
              · subst h9
                have := Hbad.out
                rw [Ob.pow9]
                omega
              · have h1 : 128 ^ k ≤ 128 ^ 8 := Nat.pow_le_pow_right (by decide) (by omega)
                have h2 : 128 ^ k * (c.toNat % 128) ≤ 128 ^ 8 * 127 := Nat.mul_le_mul h1 (by omega)
                have h3 : (128 : Nat) ^ 8 = 72057594037927936 := by decide
                rw [h3] at h1 h2
                omega
            have hor := or_shift (Ob.val (bs.take k)) k (c.toNat % 128) (by omega) hv hx.1
            rw [show ((c.toNat % 128 : Nat) : Int) = (c.toNat : Int) % 128 by omega] at hor
            obtain ⟨U, hU⟩ : ∃ U, Ob.val (bs.take k) + 128 ^ k * (c.toNat % 128) = U := ⟨_, rfl⟩
            rw [hU] at hor
            have hU64 : U < 18446744073709551616 := by omega
            have hsnoc : Ob.val (bs.take (k + 1)) = U := by
              rw [List.take_add_one, Hck.out]
              show Ob.val (bs.take k ++ [c]) = U
              rw [Ob.val_snoc, List.length_take, Hl.out, Nat.min_eq_left (by omega), hU]
            have Hsnoc := Lib.hid hsnoc
            have HU := Lib.hid hU
            obtain ⟨V, hV⟩ : ∃ V, Ob.val (bs.take k) = V := ⟨_, rfl⟩
            rw [hV] at hor ⊢
            have HV := Lib.hid hV
            have Htk : Hid (bs.take (k + 1) = bs.take k ++ [c]) := by show _ = _; rw [List.take_add_one, Hck.out]; rfl
            clear hv hx hU hsnoc hV
            go_upto_region 8 with fail
            clear hand hor
            by_cases hc128 : c.toNat < 128
            · have q1 : decide ((c.toNat : Int) < 128) = true := decide_eq_true (by omega)
              have hcm : c.toNat % 128 = c.toNat := Nat.mod_eq_of_lt hc128
              by_cases hzb : c.toNat = 0 ∧ 0 < k
              · have hres : Hid (Ob.read bs = (0, 0, false)) := Ob.read_bad hno.out Hck.out (.inr hzb)
                have q3 : decide (0 < k) = true := decide_eq_true (by omega)
                replace d0 : wr.cell? ⟨ga, oa + k, none⟩ = some (.int .u8 0) := by rw [hzb.1] at d0; exact d0
                clear hzb hcm q1 hc128 hc256
                go_wp2_with fail
                refine bodyPost_ret (v := .tuple #[.int .i64 0, .int .i64 0, .bool false]) (by simp [results, Try.results12, go_sem]) rfl ⟨?_, rfl⟩
                rw [hres.out]; rfl
              · have hres : Hid (Ob.read bs = (Ob.unzz U, k + 1, true)) := by
                  have h1 := Ob.read_end hno.out Hck.out hc128 (by have := Hbad.out; omega) (fun h0 hc => hzb ⟨hc, h0⟩)
                  have h2 := HU.out
                  rw [hcm] at h2
                  show Ob.read bs = _
                  rw [h1, h2]
                clear hcm
                by_cases hz : c.toNat = 0
                · have hk0 : k = 0 := by omega
                  have q3 : decide (0 < k) = false := decide_eq_false (by omega)
                  clear hk0
                  replace d0 : wr.cell? ⟨ga, oa + k, none⟩ = some (.int .u8 0) := by rw [hz] at d0; exact d0
                  clear hzb hz q1 hc128 hc256
                  by_cases hpar : U % 2 = 0
                  · have hand := Lib.u64_and1 (U : Int) (by omega) (by omega)
                    rw [show (U : Int) % 2 = 0 by omega] at hand
                    have hz2 : Hid (Ob.unzz U = (U : Int) / 2) := by show _ = _; unfold Ob.unzz; rw [if_pos hpar]; omega
                    clear hpar
                    go_wp2_with fail
                    refine bodyPost_ret (v := .tuple #[.int .i64 ((U : Int) / 2), .int .i64 _, .bool true]) (by simp [results, Try.results12, go_sem]; rfl) rfl ⟨?_, rfl⟩
                    rw [hres.out]; unfold readVal; rw [hz2.out]; rfl
                  · have hand := Lib.u64_and1 (U : Int) (by omega) (by omega)
                    rw [show (U : Int) % 2 = 1 by omega] at hand
                    have hz2 : Hid (Ob.unzz U = -((U : Int) / 2) - 1) := by show _ = _; unfold Ob.unzz; rw [if_neg hpar]; omega
                    clear hpar
                    go_wp2_with fail
                    refine bodyPost_ret (v := .tuple #[.int .i64 (-((U : Int) / 2) - 1), .int .i64 _, .bool true]) (by simp [results, Try.results12, go_sem]; rfl) rfl ⟨?_, rfl⟩
                    rw [hres.out]; unfold readVal; rw [hz2.out]; rfl
                · have q4 : ((c.toNat : Int) == 0) = false := by simp; omega
                  clear hzb hz
                  by_cases hpar : U % 2 = 0
                  · have hand := Lib.u64_and1 (U : Int) (by omega) (by omega)
                    rw [show (U : Int) % 2 = 0 by omega] at hand
                    have hz2 : Hid (Ob.unzz U = (U : Int) / 2) := by show _ = _; unfold Ob.unzz; rw [if_pos hpar]; omega
                    clear hpar
                    go_wp2_with fail
                    refine bodyPost_ret (v := .tuple #[.int .i64 ((U : Int) / 2), .int .i64 _, .bool true]) (by simp [results, Try.results12, go_sem]; rfl) rfl ⟨?_, rfl⟩
                    rw [hres.out]; unfold readVal; rw [hz2.out]; rfl
                  · have hand := Lib.u64_and1 (U : Int) (by omega) (by omega)
                    rw [show (U : Int) % 2 = 1 by omega] at hand
                    have hz2 : Hid (Ob.unzz U = -((U : Int) / 2) - 1) := by show _ = _; unfold Ob.unzz; rw [if_neg hpar]; omega
                    clear hpar
                    go_wp2_with fail
                    refine bodyPost_ret (v := .tuple #[.int .i64 (-((U : Int) / 2) - 1), .int .i64 _, .bool true]) (by simp [results, Try.results12, go_sem]; rfl) rfl ⟨?_, rfl⟩
                    rw [hres.out]; unfold readVal; rw [hz2.out]; rfl
            · have q1 : decide ((c.toNat : Int) < 128) = false := decide_eq_false (by omega)
              have hno2 : Hid (∀ x ∈ bs.take (k + 1), 128 ≤ x.toNat) := fun x hx => by
                rw [Htk.out] at hx
                rcases List.mem_append.1 hx with h | h
                · exact hno.out x h
                · rw [List.mem_singleton.1 h]; omega
              clear hc128
              go_wp2_with fail
              go_roundw
              case rel => exact ⟨by trivial, k + 1, val_int (by omega), by omega, by omega, by rw [Hsnoc.out], hno2⟩
              case measure => simp [intOf]; omega
      · have d2 : decide ((k : Int) < 10) = false := decide_eq_false (by omega)
        have hres : Hid (Ob.read bs = (0, 0, false)) := Ob.read_big hno.out (.inr (by omega))
        go_wp2_with fail
        refine bodyPost_ret (v := .tuple #[.int .i64 0, .int .i64 0, .bool false]) (by simp [results, Try.results12, go_sem]) rfl ⟨?_, rfl⟩
        rw [hres.out]; rfl
    · have d1 : decide ((k : Int) < (n : Int)) = false := decide_eq_false (by omega)
      have hres : Hid (Ob.read bs = (0, 0, false)) := Ob.read_big hno.out (.inl (by rw [Hl.out]; omega))
      go_wp2_with fail
      refine bodyPost_ret (v := .tuple #[.int .i64 0, .int .i64 0, .bool false]) (by simp [results, Try.results12, go_sem]) rfl ⟨?_, rfl⟩
      rw [hres.out]; rfl
end Go.Proofs.Ytabeimmjclkobaa
