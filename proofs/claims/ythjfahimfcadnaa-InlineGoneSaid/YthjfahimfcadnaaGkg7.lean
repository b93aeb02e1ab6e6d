import Derived.Test.YthjfahimfcadnaaGkg4
import Derived.Test.YthjfahimfcadnaaGkg6
/- Objects: numbers are read. -/
namespace Go.Proofs.Ythjfahimfcadnaa
open Go.ChangeShapes Go.WideShapes Go.RowKit

theorem length1_any (c : UInt8) (w : World) : Calls Try.prog 142 #[.int .u8 c.toNat] w fun e w' => e = .returned (.bool (decide (c.toNat < 128))) ∧ w' = w := by
  have hc := c.toNat_lt
  generalize c.toNat = x at *
  go_enter Try.func142, Try.ntmps142
  go_wp2_with fail
  go_ret
  exact ⟨ret_bool (by simp; omega), rfl⟩

set_option maxRecDepth 100000 in
set_option maxHeartbeats 800000 in
theorem indexfunc_any {A : Nat → Prop} (v : Value) (bs : List UInt8) (w : World) (hv : BRow A w v bs) (hn : bs.length ≤ 1000000000000) :
    Calls Try.prog 141 #[v, .func (.func 142) #[] #[]] w fun e w' => e = .returned (.int .i64 ((Ob.len bs : Int) - 1)) ∧ w' = w := by
  obtain ⟨p, c1, rfl, Hp, _⟩ := hv
  have HP := Lib.hid Hp
  obtain ⟨n, hl⟩ : ∃ n, bs.length = n := ⟨_, rfl⟩
  have Hl := Lib.hid hl
  rw [hl] at hn ⊢
  clear Hp hl
  go_enter Try.func141, Try.ntmps141
  go_upto_region 2 with fail
  go_loopw [8] (fun i wr => wr = w ∧ ∃ k : Nat, i = .int .i64 k ∧ k ≤ n ∧ Hid (∀ x ∈ bs.take k, 128 ≤ x.toNat)) (fun i _ => n - (intOf i).toNat)
  case atStart => exact ⟨rfl, 0, rfl, Nat.zero_le _, by show ∀ x ∈ _, _; simp⟩
  case round =>
    obtain ⟨rfl, k, rfl, hk, hno⟩ := hrel
    by_cases hlt : k < n
    · have hd : decide ((k : Int) < (n : Int)) = true := by simp; omega
      have hkl : k < bs.length := by rw [Hl.out]; exact hlt
      obtain ⟨ga, oa, rfl, _, hga, hca⟩ := HP.out.at (by rw [List.length_map]; omega)
      obtain ⟨c, hc⟩ : ∃ c, bs[k] = c := ⟨_, rfl⟩
      have hck : bs[k]? = some c := by rw [← hc]; exact List.getElem?_eq_getElem hkl
      have d0 := hca k (byteVal c) (by rw [List.getElem?_map, hck]; rfl)
      unfold byteVal at d0
      have Hck := Lib.hid hck
      have Htk : Hid (bs.take (k + 1) = bs.take k ++ [c]) := by show _ = _; rw [List.take_succ_eq_append_getElem hkl, hc]
      clear hca hc hck hkl
      go_wp2_with fail
      refine (length1_any c wr).mono ?_
      rintro e w2 ⟨rfl, rfl⟩
      by_cases hc128 : c.toNat < 128
      · rw [decide_eq_true hc128]
        have hlen : Hid ((k : Int) = (Ob.len bs : Int) - 1) := by
          have h1 := Ob.len_at hno.out Hck.out hc128
          show (k : Int) = _
          omega
        clear hc128
        go_wp2_with fail
        go_ret
        exact ⟨by rw [← hlen.out]; rfl, rfl⟩
      · rw [decide_eq_false hc128]
        have hno2 : Hid (∀ x ∈ bs.take (k + 1), 128 ≤ x.toNat) := fun x hx => by
          rw [Htk.out] at hx
          rcases List.mem_append.1 hx with h | h
          · exact hno.out x h
          · rw [List.mem_singleton.1 h]; omega
        clear hc128
        go_wp2_with fail
        go_roundw
        case rel => exact ⟨by trivial, k + 1, val_int (by omega), hlt, hno2⟩
        case measure => simp [intOf]; omega
    · have hd : decide ((k : Int) < (n : Int)) = false := by simp; omega
      have hlen : Hid ((-1 : Int) = (Ob.len bs : Int) - 1) := by
        have h1 := hno.out
        rw [List.take_of_length_le (by rw [Hl.out]; omega)] at h1
        show (-1 : Int) = _
        rw [Ob.len_none h1]; rfl
      go_wp2_with fail
      go_ret
      exact ⟨by rw [← hlen.out]; rfl, rfl⟩

theorem length_any {A : Nat → Prop} (v : Value) (bs : List UInt8) (w : World) (hv : BRow A w v bs) (hn : bs.length ≤ 1000000000000) :
    Calls Try.prog 136 #[v] w fun e w' => e = .returned (.int .i64 (Ob.len bs)) ∧ w' = w := by
  have H := Lib.hid (indexfunc_any v bs w hv hn)
  have hle := Ob.len_le bs
  obtain ⟨p, c1, rfl, Hp, _⟩ := hv
  generalize Ob.len bs = L at *
  clear Hp
  go_enter Try.func136, Try.ntmps136
  go_wp2_with fail
  refine H.out.mono ?_
  rintro e w2 ⟨rfl, rfl⟩
  clear H
  go_wp2_with fail
  go_ret
  exact ⟨ret_int (by omega), rfl⟩

theorem pow7 (k : Nat) : (2 : Nat) ^ (7 * k) = 128 ^ k := by rw [Nat.pow_mul]
theorem or_shift (V k x : Nat) (hk : k ≤ 9) (hV : V < 128 ^ k) (hx : 128 ^ k * x < 18446744073709551616) : bits .or .u64 (V : Int) (IntKind.u64.wrap ((x : Int) * 2 ^ (7 * k))) = ((V + 128 ^ k * x : Nat) : Int) := by
  have e : (x : Int) * 2 ^ (7 * k) = ((128 ^ k * x : Nat) : Int) := by
    have h : x * 2 ^ (7 * k) = 128 ^ k * x := by rw [pow7, Nat.mul_comm]
    exact_mod_cast h
  have e2 : IntKind.u64.wrap ((128 ^ k * x : Nat) : Int) = ((128 ^ k * x : Nat) : Int) := by rw [IntKind.wrap_u64]; omega
  have h9 : 128 ^ k ≤ 128 ^ 9 := Nat.pow_le_pow_right (by decide) hk
  rw [Ob.pow9] at h9
  have hV2 : V < 2 ^ (7 * k) := by rw [pow7]; exact hV
  have hm : (128 ^ k * x) % 2 ^ (7 * k) = 0 := by rw [pow7]; exact Nat.mul_mod_right _ _
  rw [e, e2]
  have h2 := bits_join_low .u64 64 (by decide) wraps_u64 (7 * k) (V : Int) ((128 ^ k * x : Nat) : Int) (by omega) (by exact_mod_cast hV2) (by omega) (by omega) (by exact_mod_cast hm) (by exact_mod_cast hx)
  rw [h2]
  omega
theorem xor_zero {x : Nat} (hx : x < 9223372036854775808) : bits .xor .i64 (x : Int) 0 = (x : Int) := by
  show IntKind.i64.wrap ((BitVec.ofInt 64 (x : Int) ^^^ BitVec.ofInt 64 0).toNat : Int) = _
  have h2 : (BitVec.ofInt 64 (x : Int)).toNat = x := by
    rw [BitVec.ofInt_natCast, BitVec.toNat_ofNat]; exact Nat.mod_eq_of_lt (by omega)
  rw [BitVec.toNat_xor, h2, show (BitVec.ofInt 64 0).toNat = 0 by decide, Nat.xor_zero, IntKind.wrap_i64]
  omega
theorem xor_ones {x : Nat} (hx : x < 9223372036854775808) : bits .xor .i64 (x : Int) (-1) = -(x : Int) - 1 := by
  have h := Lib.i64_not x hx
  rw [← h]
  show IntKind.i64.wrap ((BitVec.ofInt 64 (x : Int) ^^^ BitVec.ofInt 64 (-1)).toNat : Int) = IntKind.i64.wrap ((BitVec.ofInt 64 (-1) ^^^ BitVec.ofInt 64 (x : Int)).toNat : Int)
  rw [BitVec.xor_comm]
/-- what ReadNumber returns, as a value -/
def readVal (r : Int × Nat × Bool) : Value := .tuple #[.int .i64 r.1, .int .i64 r.2.1, .bool r.2.2]

set_option maxRecDepth 100000 in
set_option maxHeartbeats 1600000 in
theorem readnumber_any {A : Nat → Prop} (v : Value) (bs : List UInt8) (w : World) (hv : BRow A w v bs) (hn : bs.length ≤ 1000000000000) :
    Calls Try.prog 135 #[v] w fun e w' => e = .returned (readVal (Ob.read bs)) ∧ w' = w := by
  have H := Lib.hid (length_any v bs w hv hn)
  have hle := Ob.len_le bs
  obtain ⟨p, c1, rfl, Hp, hcap⟩ := hv
  have HP := Lib.hid Hp
  obtain ⟨n, hl⟩ : ∃ n, bs.length = n := ⟨_, rfl⟩
  have Hl := Lib.hid hl
  rw [hl] at hn hle hcap H ⊢
  obtain ⟨L, hL⟩ : ∃ L, Ob.len bs = L := ⟨_, rfl⟩
  have HL := Lib.hid hL
  rw [hL] at H hle
  clear Hp hl hL
  go_enter Try.func135, Try.ntmps135
  go_wp2_with fail
  refine H.out.mono ?_
  rintro e w2 ⟨rfl, rfl⟩
  clear H
  go_upto_region 2 with fail
  go_cut [40] (fun s wx => s = .bool (!Ob.good bs) ∧ w2 = wx)
  case first =>
    by_cases hL10 : 10 < L
    · have hgd : Hid (Ob.good bs = false) := Ob.good_none (.inr (by rw [HL.out]; exact hL10))
      have q1 : ((L : Int) == 0) = false := by simp; omega
      have q2 : decide (10 < (L : Int)) = true := decide_eq_true (by omega)
      go_wp2_with fail
      go_meet
      exact ⟨by rw [hgd.out]; rfl, rfl⟩
    · have hcase : L = 0 ∨ L = 1 ∨ L = 2 ∨ L = 3 ∨ L = 4 ∨ L = 5 ∨ L = 6 ∨ L = 7 ∨ L = 8 ∨ L = 9 ∨ L = 10 := by omega
      rcases hcase with rfl | rfl | rfl | rfl | rfl | rfl | rfl | rfl | rfl | rfl | rfl
      · have hgd : Hid (Ob.good bs = false) := Ob.good_none (.inl HL.out)
        go_wp2_with fail
        go_meet
        exact ⟨by rw [hgd.out]; rfl, rfl⟩
      · skip
        obtain ⟨ga, oa, rfl, _, hga, hca⟩ := HP.out.at (by rw [List.length_map, Hl.out]; omega)
        have hml : 0 < bs.length := by rw [Hl.out]; omega
        obtain ⟨c, hc⟩ : ∃ c, bs[0] = c := ⟨_, rfl⟩
        have hcm : bs[0]? = some c := by rw [← hc]; exact List.getElem?_eq_getElem hml
        have d0 := hca 0 (byteVal c) (by rw [List.getElem?_map, hcm]; rfl)
        unfold byteVal at d0
        have hgd := Lib.hid (Ob.good_at HL.out hcm)
        clear hca hc hcm hml hL10
        go_wp2_with fail
        go_meet
        exact ⟨by rw [hgd.out]; simp, rfl⟩
      · skip
        obtain ⟨ga, oa, rfl, _, hga, hca⟩ := HP.out.at (by rw [List.length_map, Hl.out]; omega)
        have hml : 1 < bs.length := by rw [Hl.out]; omega
        obtain ⟨c, hc⟩ : ∃ c, bs[1] = c := ⟨_, rfl⟩
        have hcm : bs[1]? = some c := by rw [← hc]; exact List.getElem?_eq_getElem hml
        have d0 := hca 1 (byteVal c) (by rw [List.getElem?_map, hcm]; rfl)
        unfold byteVal at d0
        have hgd := Lib.hid (Ob.good_at HL.out hcm)
        clear hca hc hcm hml hL10
        by_cases hc0 : c.toNat = 0
        · have q0 : Hid (c.toNat = 0) := hc0
          rw [hc0] at d0
          clear hc0
          go_wp2_with fail
          go_meet
          exact ⟨by rw [hgd.out, q0.out]; rfl, rfl⟩
        · have q0 : Hid (¬ c.toNat = 0) := hc0
          have q1 : ((c.toNat : Int) == 0) = false := by simp; omega
          go_wp2_with fail
          go_meet
          exact ⟨by rw [hgd.out]; simp [q0.out], rfl⟩
      · skip
        obtain ⟨ga, oa, rfl, _, hga, hca⟩ := HP.out.at (by rw [List.length_map, Hl.out]; omega)
        have hml : 2 < bs.length := by rw [Hl.out]; omega
        obtain ⟨c, hc⟩ : ∃ c, bs[2] = c := ⟨_, rfl⟩
        have hcm : bs[2]? = some c := by rw [← hc]; exact List.getElem?_eq_getElem hml
        have d0 := hca 2 (byteVal c) (by rw [List.getElem?_map, hcm]; rfl)
        unfold byteVal at d0
        have hgd := Lib.hid (Ob.good_at HL.out hcm)
        clear hca hc hcm hml hL10
        by_cases hc0 : c.toNat = 0
        · have q0 : Hid (c.toNat = 0) := hc0
          rw [hc0] at d0
          clear hc0
          go_wp2_with fail
          go_meet
          exact ⟨by rw [hgd.out, q0.out]; rfl, rfl⟩
        · have q0 : Hid (¬ c.toNat = 0) := hc0
          have q1 : ((c.toNat : Int) == 0) = false := by simp; omega
          go_wp2_with fail
          go_meet
          exact ⟨by rw [hgd.out]; simp [q0.out], rfl⟩
      · skip
        obtain ⟨ga, oa, rfl, _, hga, hca⟩ := HP.out.at (by rw [List.length_map, Hl.out]; omega)
        have hml : 3 < bs.length := by rw [Hl.out]; omega
        obtain ⟨c, hc⟩ : ∃ c, bs[3] = c := ⟨_, rfl⟩
        have hcm : bs[3]? = some c := by rw [← hc]; exact List.getElem?_eq_getElem hml
        have d0 := hca 3 (byteVal c) (by rw [List.getElem?_map, hcm]; rfl)
        unfold byteVal at d0
        have hgd := Lib.hid (Ob.good_at HL.out hcm)
        clear hca hc hcm hml hL10
        by_cases hc0 : c.toNat = 0
        · have q0 : Hid (c.toNat = 0) := hc0
          rw [hc0] at d0
          clear hc0
          go_wp2_with fail
          go_meet
          exact ⟨by rw [hgd.out, q0.out]; rfl, rfl⟩
        · have q0 : Hid (¬ c.toNat = 0) := hc0
          have q1 : ((c.toNat : Int) == 0) = false := by simp; omega
          go_wp2_with fail
          go_meet
          exact ⟨by rw [hgd.out]; simp [q0.out], rfl⟩
      · skip
        obtain ⟨ga, oa, rfl, _, hga, hca⟩ := HP.out.at (by rw [List.length_map, Hl.out]; omega)
        have hml : 4 < bs.length := by rw [Hl.out]; omega
        obtain ⟨c, hc⟩ : ∃ c, bs[4] = c := ⟨_, rfl⟩
        have hcm : bs[4]? = some c := by rw [← hc]; exact List.getElem?_eq_getElem hml
        have d0 := hca 4 (byteVal c) (by rw [List.getElem?_map, hcm]; rfl)
        unfold byteVal at d0
        have hgd := Lib.hid (Ob.good_at HL.out hcm)
        clear hca hc hcm hml hL10
        by_cases hc0 : c.toNat = 0
        · have q0 : Hid (c.toNat = 0) := hc0
          rw [hc0] at d0
          clear hc0
          go_wp2_with fail
          go_meet
          exact ⟨by rw [hgd.out, q0.out]; rfl, rfl⟩
        · have q0 : Hid (¬ c.toNat = 0) := hc0
          have q1 : ((c.toNat : Int) == 0) = false := by simp; omega
          go_wp2_with fail
          go_meet
          exact ⟨by rw [hgd.out]; simp [q0.out], rfl⟩
      · skip
        obtain ⟨ga, oa, rfl, _, hga, hca⟩ := HP.out.at (by rw [List.length_map, Hl.out]; omega)
        have hml : 5 < bs.length := by rw [Hl.out]; omega
        obtain ⟨c, hc⟩ : ∃ c, bs[5] = c := ⟨_, rfl⟩
        have hcm : bs[5]? = some c := by rw [← hc]; exact List.getElem?_eq_getElem hml
        have d0 := hca 5 (byteVal c) (by rw [List.getElem?_map, hcm]; rfl)
        unfold byteVal at d0
        have hgd := Lib.hid (Ob.good_at HL.out hcm)
        clear hca hc hcm hml hL10
        by_cases hc0 : c.toNat = 0
        · have q0 : Hid (c.toNat = 0) := hc0
          rw [hc0] at d0
          clear hc0
          go_wp2_with fail
          go_meet
          exact ⟨by rw [hgd.out, q0.out]; rfl, rfl⟩
        · have q0 : Hid (¬ c.toNat = 0) := hc0
          have q1 : ((c.toNat : Int) == 0) = false := by simp; omega
          go_wp2_with fail
          go_meet
          exact ⟨by rw [hgd.out]; simp [q0.out], rfl⟩
      · skip
        obtain ⟨ga, oa, rfl, _, hga, hca⟩ := HP.out.at (by rw [List.length_map, Hl.out]; omega)
        have hml : 6 < bs.length := by rw [Hl.out]; omega
        obtain ⟨c, hc⟩ : ∃ c, bs[6] = c := ⟨_, rfl⟩
        have hcm : bs[6]? = some c := by rw [← hc]; exact List.getElem?_eq_getElem hml
        have d0 := hca 6 (byteVal c) (by rw [List.getElem?_map, hcm]; rfl)
        unfold byteVal at d0
        have hgd := Lib.hid (Ob.good_at HL.out hcm)
        clear hca hc hcm hml hL10
        by_cases hc0 : c.toNat = 0
        · have q0 : Hid (c.toNat = 0) := hc0
          rw [hc0] at d0
          clear hc0
          go_wp2_with fail
          go_meet
          exact ⟨by rw [hgd.out, q0.out]; rfl, rfl⟩
        · have q0 : Hid (¬ c.toNat = 0) := hc0
          have q1 : ((c.toNat : Int) == 0) = false := by simp; omega
          go_wp2_with fail
          go_meet
          exact ⟨by rw [hgd.out]; simp [q0.out], rfl⟩
      · skip
        obtain ⟨ga, oa, rfl, _, hga, hca⟩ := HP.out.at (by rw [List.length_map, Hl.out]; omega)
        have hml : 7 < bs.length := by rw [Hl.out]; omega
        obtain ⟨c, hc⟩ : ∃ c, bs[7] = c := ⟨_, rfl⟩
        have hcm : bs[7]? = some c := by rw [← hc]; exact List.getElem?_eq_getElem hml
        have d0 := hca 7 (byteVal c) (by rw [List.getElem?_map, hcm]; rfl)
        unfold byteVal at d0
        have hgd := Lib.hid (Ob.good_at HL.out hcm)
        clear hca hc hcm hml hL10
        by_cases hc0 : c.toNat = 0
        · have q0 : Hid (c.toNat = 0) := hc0
          rw [hc0] at d0
          clear hc0
          go_wp2_with fail
          go_meet
          exact ⟨by rw [hgd.out, q0.out]; rfl, rfl⟩
        · have q0 : Hid (¬ c.toNat = 0) := hc0
          have q1 : ((c.toNat : Int) == 0) = false := by simp; omega
          go_wp2_with fail
          go_meet
          exact ⟨by rw [hgd.out]; simp [q0.out], rfl⟩
      · skip
        obtain ⟨ga, oa, rfl, _, hga, hca⟩ := HP.out.at (by rw [List.length_map, Hl.out]; omega)
        have hml : 8 < bs.length := by rw [Hl.out]; omega
        obtain ⟨c, hc⟩ : ∃ c, bs[8] = c := ⟨_, rfl⟩
        have hcm : bs[8]? = some c := by rw [← hc]; exact List.getElem?_eq_getElem hml
        have d0 := hca 8 (byteVal c) (by rw [List.getElem?_map, hcm]; rfl)
        unfold byteVal at d0
        have hgd := Lib.hid (Ob.good_at HL.out hcm)
        clear hca hc hcm hml hL10
        by_cases hc0 : c.toNat = 0
        · have q0 : Hid (c.toNat = 0) := hc0
          rw [hc0] at d0
          clear hc0
          go_wp2_with fail
          go_meet
          exact ⟨by rw [hgd.out, q0.out]; rfl, rfl⟩
        · have q0 : Hid (¬ c.toNat = 0) := hc0
          have q1 : ((c.toNat : Int) == 0) = false := by simp; omega
          go_wp2_with fail
          go_meet
          exact ⟨by rw [hgd.out]; simp [q0.out], rfl⟩
      · skip
        obtain ⟨ga, oa, rfl, _, hga, hca⟩ := HP.out.at (by rw [List.length_map, Hl.out]; omega)
        have hml : 9 < bs.length := by rw [Hl.out]; omega
        obtain ⟨c, hc⟩ : ∃ c, bs[9] = c := ⟨_, rfl⟩
        have hcm : bs[9]? = some c := by rw [← hc]; exact List.getElem?_eq_getElem hml
        have d0 := hca 9 (byteVal c) (by rw [List.getElem?_map, hcm]; rfl)
        unfold byteVal at d0
        have hgd := Lib.hid (Ob.good_at HL.out hcm)
        clear hca hc hcm hml hL10
        by_cases hc0 : c.toNat = 0
        · have q0 : Hid (c.toNat = 0) := hc0
          rw [hc0] at d0
          clear hc0
          go_wp2_with fail
          go_meet
          exact ⟨by rw [hgd.out, q0.out]; rfl, rfl⟩
        · by_cases hc1 : 1 < c.toNat
          · have q0 : Hid (¬ c.toNat ≤ 1) := by show ¬ _; omega
            have q1 : decide (1 < (c.toNat : Int)) = true := decide_eq_true (by omega)
            go_wp2_with fail
            go_meet
            exact ⟨by rw [hgd.out]; simp [q0.out], rfl⟩
          · have q0 : Hid (c.toNat = 1) := by show _ = _; omega
            rw [q0.out] at d0
            clear hc0 hc1
            go_wp2_with fail
            go_meet
            exact ⟨by rw [hgd.out, q0.out]; rfl, rfl⟩
  case rest =>
    obtain ⟨rfl, rfl⟩ := hcut
    by_cases hg : Ob.good bs = true
    · have hg2 := hg
      unfold Ob.good at hg2
      rw [HL.out] at hg2
      obtain ⟨g1, g2, _, _⟩ := of_decide_eq_true hg2
      rw [hg]
      obtain ⟨pa, hra, hHa⟩ := slice_take (P := Try.prog) 61 5 1 1 (.int .u8 0) Try.underlying61 rfl (by kernel_rfl) p n c1 L HP.out (by omega)
      rw [Nat.mul_one, ← List.map_take] at hHa
      have HA := Lib.hid hHa
      have Hg := Lib.hid hg
      clear hg2 hg hHa
      go_upto_region 6 with fail
      go_loopw [6, 45] (fun u i wr => w2 = wr ∧ ∃ k : Nat, i = .int .i64 k ∧ k ≤ L ∧ u = .int .u64 (Ob.val (bs.take k))) (fun _ i _ => L - (intOf i).toNat)
      case atStart => exact ⟨rfl, 0, rfl, Nat.zero_le _, by rw [List.take_zero]; rfl⟩
      case round =>
        obtain ⟨rfl, k, rfl, hk, rfl⟩ := hrel
        by_cases hlt : k < L
        · have hd : decide ((k : Int) < (L : Int)) = true := decide_eq_true (by omega)
          have hkl : k < bs.length := by rw [Hl.out]; omega
          obtain ⟨ga, oa, rfl, _, hga, hca⟩ := HA.out.at (by rw [List.length_map, List.length_take, Hl.out]; omega)
          obtain ⟨c, hc⟩ : ∃ c, bs[k] = c := ⟨_, rfl⟩
          have hck : bs[k]? = some c := by rw [← hc]; exact List.getElem?_eq_getElem hkl
          have d0 := hca k (byteVal c) (by rw [List.getElem?_map, List.getElem?_take, if_pos hlt, hck]; rfl)
          unfold byteVal at d0
          have hand := u8_and127 (x := (c.toNat : Int)) (by omega) (by have := c.toNat_lt; omega)
          have hv := Ob.val_lt (bs.take k)
          rw [List.length_take, Hl.out, Nat.min_eq_left (by omega)] at hv
          obtain ⟨V, hV⟩ : ∃ V, Ob.val (bs.take k) = V := ⟨_, rfl⟩
          rw [hV] at hv ⊢
          have HV := Lib.hid hV
          have Hck := Lib.hid hck
          have Hv := Lib.hid hv
          clear hca hc hck hkl hV hv
          have hor : bits .or .u64 (V : Int) (IntKind.u64.wrap ((c.toNat : Int) % 128 * 2 ^ (7 * k))) = ((Ob.val (bs.take (k + 1)) : Nat) : Int) := by
            have hx : 128 ^ k * (c.toNat % 128) < 18446744073709551616 := by
              have hm : c.toNat % 128 < 128 := Nat.mod_lt _ (by decide)
              by_cases h9 : k = 9
              · subst h9
                have hc1 : c.toNat ≤ 1 := by
                  have h1 := Hg.out
                  rw [Ob.good_at (k := 9) (by rw [HL.out]; omega) Hck.out] at h1
                  exact (of_decide_eq_true h1).2.1 rfl
                rw [Ob.pow9]
                omega
              · have h1 : 128 ^ k ≤ 128 ^ 8 := Nat.pow_le_pow_right (by decide) (by omega)
                have h2 : 128 ^ k * (c.toNat % 128) ≤ 128 ^ 8 * 127 := Nat.mul_le_mul h1 (by omega)
                exact Nat.lt_of_le_of_lt h2 (by decide)
            have h := or_shift V k (c.toNat % 128) (by omega) Hv.out hx
            rw [show ((c.toNat % 128 : Nat) : Int) = (c.toNat : Int) % 128 by omega] at h
            rw [h, List.take_add_one, Hck.out]
            show _ = ((Ob.val (bs.take k ++ [c]) : Nat) : Int)
            rw [Ob.val_snoc, HV.out, List.length_take, Hl.out, Nat.min_eq_left (by omega)]
          go_upto_region 9 with fail
          clear hand
          go_wp2_with fail
          go_roundw
          case rel => exact ⟨by trivial, k + 1, val_int (by omega), hlt, by rfl⟩
          case measure => simp [intOf]; omega
        · have hd : decide ((k : Int) < (L : Int)) = false := decide_eq_false (by omega)
          have hkL : k = L := by omega
          have hres : Hid (Ob.read bs = (Ob.unzz (Ob.val (bs.take k)), L, true)) := by
            show _ = _
            unfold Ob.read
            rw [if_pos Hg.out, HL.out, hkL]
          have hU : Ob.val (bs.take k) < 18446744073709551616 := by have h1 := Ob.val_good Hg.out; rw [HL.out, ← hkL] at h1; exact h1
          obtain ⟨U, hUe⟩ : ∃ U, Ob.val (bs.take k) = U := ⟨_, rfl⟩
          rw [hUe] at hU hres ⊢
          clear hUe hkL
          by_cases hpar : U % 2 = 0
          · have hand := Lib.u64_and1 (U : Int) (by omega) (by omega)
            rw [show (U : Int) % 2 = 0 by omega] at hand
            have hx0 := xor_zero (x := U / 2) (by omega)
            have hcast : ((U / 2 : Nat) : Int) = (U : Int) / 2 := by omega
            rw [hcast] at hx0
            have hz : Hid (Ob.unzz U = (U : Int) / 2) := by show _ = _; unfold Ob.unzz; rw [if_pos hpar, hcast]
            clear hpar
            go_wp2_with fail
            refine bodyPost_ret (v := .tuple #[.int .i64 ((U : Int) / 2), .int .i64 L, .bool true]) (by simp [results, Try.results135, go_sem]) rfl ⟨?_, rfl⟩
            rw [hres.out]; unfold readVal; rw [hz.out]
          · have hand := Lib.u64_and1 (U : Int) (by omega) (by omega)
            rw [show (U : Int) % 2 = 1 by omega] at hand
            have hx0 := xor_ones (x := U / 2) (by omega)
            have hcast : ((U / 2 : Nat) : Int) = (U : Int) / 2 := by omega
            rw [hcast] at hx0
            have hz : Hid (Ob.unzz U = -((U : Int) / 2) - 1) := by show _ = _; unfold Ob.unzz; rw [if_neg hpar, hcast]
            clear hpar
            go_wp2_with fail
            refine bodyPost_ret (v := .tuple #[.int .i64 (-((U : Int) / 2) - 1), .int .i64 L, .bool true]) (by simp [results, Try.results135, go_sem]) rfl ⟨?_, rfl⟩
            rw [hres.out]; unfold readVal; rw [hz.out]
    · have hg2 : Ob.good bs = false := by simpa using hg
      rw [hg2]
      have hres : Hid (Ob.read bs = (0, 0, false)) := by
        show _ = _
        unfold Ob.read
        rw [if_neg hg]
      clear hg hg2
      go_wp2_with fail
      refine bodyPost_ret (v := .tuple #[.int .i64 0, .int .i64 0, .bool false]) (by simp [results, Try.results135, go_sem]) rfl ⟨?_, rfl⟩
      rw [hres.out]; rfl
end Go.Proofs.Ythjfahimfcadnaa
/- Objects: numbers are read, by the reference. -/
namespace Go.Proofs.Ythjfahimfcadnaa
open Go.ChangeShapes Go.WideShapes Go.RowKit

set_option maxRecDepth 100000 in
set_option maxHeartbeats 1600000 in
theorem rreadnumber_any {A : Nat → Prop} (v : Value) (bs : List UInt8) (w : World) (hv : BRow A w v bs) (hn : bs.length ≤ 1000000000000) :
    Calls Try.prog 134 #[v] w fun e w' => e = .returned (readVal (Ob.read bs)) ∧ w' = w := by
  obtain ⟨p, c1, rfl, Hp, hcap⟩ := hv
  have HP := Lib.hid Hp
  obtain ⟨n, hl⟩ : ∃ n, bs.length = n := ⟨_, rfl⟩
  have Hl := Lib.hid hl
  rw [hl] at hn hcap ⊢
  clear Hp hl
  go_enter Try.func134, Try.ntmps134
  go_upto_region 3 with fail
  go_loopw [5, 6] (fun u i wr => wr = w ∧ ∃ k : Nat, i = .int .i64 k ∧ k ≤ n ∧ k ≤ 10 ∧ u = .int .u64 (Ob.val (bs.take k)) ∧ Hid (∀ x ∈ bs.take k, 128 ≤ x.toNat)) (fun _ i _ => n - (intOf i).toNat)
  case atStart => exact ⟨rfl, 0, rfl, Nat.zero_le _, Nat.zero_le _, by rw [List.take_zero]; rfl, by show ∀ x ∈ _, _; simp⟩
  case round =>
    obtain ⟨rfl, k, rfl, hk, hk10, rfl, hno⟩ := hrel
    by_cases hlt : k < n
    · have d1 : decide ((k : Int) < (n : Int)) = true := decide_eq_true (by omega)
      by_cases h10 : k < 10
      · have d2 : decide ((k : Int) < 10) = true := decide_eq_true (by omega)
        have hkl : k < bs.length := by rw [Hl.out]; exact hlt
        obtain ⟨ga, oa, rfl, _, hga, hca⟩ := HP.out.at (by rw [List.length_map]; omega)
        obtain ⟨c, hc⟩ : ∃ c, bs[k] = c := ⟨_, rfl⟩
        have hck : bs[k]? = some c := by rw [← hc]; exact List.getElem?_eq_getElem hkl
        have d0 := hca k (byteVal c) (by rw [List.getElem?_map, hck]; rfl)
        unfold byteVal at d0
        have Hck := Lib.hid hck
        have hc256 := c.toNat_lt
        clear hca hc hck hkl
        by_cases hbad : k = 9 ∧ 1 < c.toNat
        · obtain ⟨h9, hc1⟩ := hbad
          subst h9
          have hres : Hid (Ob.read bs = (0, 0, false)) := Ob.read_bad hno.out Hck.out (.inl ⟨rfl, hc1⟩)
          have q2 : decide (1 < (c.toNat : Int)) = true := decide_eq_true (by omega)
          clear hc1
          go_wp2_with fail
          refine bodyPost_ret (v := .tuple #[.int .i64 0, .int .i64 0, .bool false]) (by simp [results, Try.results134, go_sem]) rfl ⟨?_, rfl⟩
          rw [hres.out]; rfl
        · have Hbad := Lib.hid hbad
          clear hbad
          go_upto_region 5 with fail
          go_cut [26] (fun s wx => s = .bool false ∧ wr = wx)
          case first =>
            by_cases h9 : k = 9
            · subst h9
              have q2 : decide (1 < (c.toNat : Int)) = false := decide_eq_false (by have := Hbad.out; omega)
              go_wp2_with fail
              go_meet
              exact ⟨rfl, rfl⟩
            · have q9 : ((k : Int) == 9) = false := by simp; omega
              clear h9
              go_wp2_with fail
              go_meet
              exact ⟨rfl, rfl⟩
          case rest =>
            obtain ⟨rfl, rfl⟩ := hcut
            have hand := u8_and127 (x := (c.toNat : Int)) (by omega) (by omega)
            have hv := Ob.val_lt (bs.take k)
            rw [List.length_take, Hl.out, Nat.min_eq_left (by omega)] at hv
            have hx : 128 ^ k * (c.toNat % 128) < 18446744073709551616 ∧ 128 ^ k * (c.toNat % 128) + 128 ^ k ≤ 18446744073709551616 := by
              by_cases h9 : k = 9
              · subst h9
                have := Hbad.out
                rw [Ob.pow9]
                omega
              · have h1 : 128 ^ k ≤ 128 ^ 8 := Nat.pow_le_pow_right (by decide) (by omega)
                have h2 : 128 ^ k * (c.toNat % 128) ≤ 128 ^ 8 * 127 := Nat.mul_le_mul h1 (by omega)
                have h3 : (128 : Nat) ^ 8 = 72057594037927936 := by decide
                rw [h3] at h1 h2
                omega
            have hor := or_shift (Ob.val (bs.take k)) k (c.toNat % 128) (by omega) hv hx.1
            rw [show ((c.toNat % 128 : Nat) : Int) = (c.toNat : Int) % 128 by omega] at hor
            obtain ⟨U, hU⟩ : ∃ U, Ob.val (bs.take k) + 128 ^ k * (c.toNat % 128) = U := ⟨_, rfl⟩
            rw [hU] at hor
            have hU64 : U < 18446744073709551616 := by omega
            have hsnoc : Ob.val (bs.take (k + 1)) = U := by
              rw [List.take_add_one, Hck.out]
              show Ob.val (bs.take k ++ [c]) = U
              rw [Ob.val_snoc, List.length_take, Hl.out, Nat.min_eq_left (by omega), hU]
            have Hsnoc := Lib.hid hsnoc
            have HU := Lib.hid hU
            obtain ⟨V, hV⟩ : ∃ V, Ob.val (bs.take k) = V := ⟨_, rfl⟩
            rw [hV] at hor ⊢
            have HV := Lib.hid hV
            have Htk : Hid (bs.take (k + 1) = bs.take k ++ [c]) := by show _ = _; rw [List.take_add_one, Hck.out]; rfl
            clear hv hx hU hsnoc hV
            go_upto_region 8 with fail
            clear hand hor
            by_cases hc128 : c.toNat < 128
            · have q1 : decide ((c.toNat : Int) < 128) = true := decide_eq_true (by omega)
              have hcm : c.toNat % 128 = c.toNat := Nat.mod_eq_of_lt hc128
              by_cases hzb : c.toNat = 0 ∧ 0 < k
              · have hres : Hid (Ob.read bs = (0, 0, false)) := Ob.read_bad hno.out Hck.out (.inr hzb)
                have q3 : decide (0 < k) = true := decide_eq_true (by omega)
                replace d0 : wr.cell? ⟨ga, oa + k, none⟩ = some (.int .u8 0) := by rw [hzb.1] at d0; exact d0
                clear hzb hcm q1 hc128 hc256
                go_wp2_with fail
                refine bodyPost_ret (v := .tuple #[.int .i64 0, .int .i64 0, .bool false]) (by simp [results, Try.results134, go_sem]) rfl ⟨?_, rfl⟩
                rw [hres.out]; rfl
              · have hres : Hid (Ob.read bs = (Ob.unzz U, k + 1, true)) := by
                  have h1 := Ob.read_end hno.out Hck.out hc128 (by have := Hbad.out; omega) (fun h0 hc => hzb ⟨hc, h0⟩)
                  have h2 := HU.out
                  rw [hcm] at h2
                  show Ob.read bs = _
                  rw [h1, h2]
                clear hcm
                by_cases hz : c.toNat = 0
                · have hk0 : k = 0 := by omega
                  have q3 : decide (0 < k) = false := decide_eq_false (by omega)
                  clear hk0
                  replace d0 : wr.cell? ⟨ga, oa + k, none⟩ = some (.int .u8 0) := by rw [hz] at d0; exact d0
                  clear hzb hz q1 hc128 hc256
                  by_cases hpar : U % 2 = 0
                  · have hand := Lib.u64_and1 (U : Int) (by omega) (by omega)
                    rw [show (U : Int) % 2 = 0 by omega] at hand
                    have hz2 : Hid (Ob.unzz U = (U : Int) / 2) := by show _ = _; unfold Ob.unzz; rw [if_pos hpar]; omega
                    clear hpar
                    go_wp2_with fail
                    refine bodyPost_ret (v := .tuple #[.int .i64 ((U : Int) / 2), .int .i64 _, .bool true]) (by simp [results, Try.results134, go_sem]; rfl) rfl ⟨?_, rfl⟩
                    rw [hres.out]; unfold readVal; rw [hz2.out]; rfl
                  · have hand := Lib.u64_and1 (U : Int) (by omega) (by omega)
                    rw [show (U : Int) % 2 = 1 by omega] at hand
                    have hz2 : Hid (Ob.unzz U = -((U : Int) / 2) - 1) := by show _ = _; unfold Ob.unzz; rw [if_neg hpar]; omega
                    clear hpar
                    go_wp2_with fail
                    refine bodyPost_ret (v := .tuple #[.int .i64 (-((U : Int) / 2) - 1), .int .i64 _, .bool true]) (by simp [results, Try.results134, go_sem]; rfl) rfl ⟨?_, rfl⟩
                    rw [hres.out]; unfold readVal; rw [hz2.out]; rfl
                · have q4 : ((c.toNat : Int) == 0) = false := by simp; omega
                  clear hzb hz
                  by_cases hpar : U % 2 = 0
                  · have hand := Lib.u64_and1 (U : Int) (by omega) (by omega)
                    rw [show (U : Int) % 2 = 0 by omega] at hand
                    have hz2 : Hid (Ob.unzz U = (U : Int) / 2) := by show _ = _; unfold Ob.unzz; rw [if_pos hpar]; omega
                    clear hpar
                    go_wp2_with fail
                    refine bodyPost_ret (v := .tuple #[.int .i64 ((U : Int) / 2), .int .i64 _, .bool true]) (by simp [results, Try.results134, go_sem]; rfl) rfl ⟨?_, rfl⟩
                    rw [hres.out]; unfold readVal; rw [hz2.out]; rfl
                  · have hand := Lib.u64_and1 (U : Int) (by omega) (by omega)
                    rw [show (U : Int) % 2 = 1 by omega] at hand
                    have hz2 : Hid (Ob.unzz U = -((U : Int) / 2) - 1) := by show _ = _; unfold Ob.unzz; rw [if_neg hpar]; omega
                    clear hpar
                    go_wp2_with fail
                    refine bodyPost_ret (v := .tuple #[.int .i64 (-((U : Int) / 2) - 1), .int .i64 _, .bool true]) (by simp [results, Try.results134, go_sem]; rfl) rfl ⟨?_, rfl⟩
                    rw [hres.out]; unfold readVal; rw [hz2.out]; rfl
            · have q1 : decide ((c.toNat : Int) < 128) = false := decide_eq_false (by omega)
              have hno2 : Hid (∀ x ∈ bs.take (k + 1), 128 ≤ x.toNat) := fun x hx => by
                rw [Htk.out] at hx
                rcases List.mem_append.1 hx with h | h
                · exact hno.out x h
                · rw [List.mem_singleton.1 h]; omega
              clear hc128
              go_wp2_with fail
              go_roundw
              case rel => exact ⟨by trivial, k + 1, val_int (by omega), by omega, by omega, by rw [Hsnoc.out], hno2⟩
              case measure => simp [intOf]; omega
      · have d2 : decide ((k : Int) < 10) = false := decide_eq_false (by omega)
        have hres : Hid (Ob.read bs = (0, 0, false)) := Ob.read_big hno.out (.inr (by omega))
        go_wp2_with fail
        refine bodyPost_ret (v := .tuple #[.int .i64 0, .int .i64 0, .bool false]) (by simp [results, Try.results134, go_sem]) rfl ⟨?_, rfl⟩
        rw [hres.out]; rfl
    · have d1 : decide ((k : Int) < (n : Int)) = false := decide_eq_false (by omega)
      have hres : Hid (Ob.read bs = (0, 0, false)) := Ob.read_big hno.out (.inl (by rw [Hl.out]; omega))
      go_wp2_with fail
      refine bodyPost_ret (v := .tuple #[.int .i64 0, .int .i64 0, .bool false]) (by simp [results, Try.results134, go_sem]) rfl ⟨?_, rfl⟩
      rw [hres.out]; rfl
end Go.Proofs.Ythjfahimfcadnaa
