/- Objects: the bytes of a number. -/
import Derived.Test.YtabeimmjclkobaaObP
import Derived.Test.YtabeimmjclkobaaSl
import Derived.Test.YtabeimmjclkobaaAf
import Derived.Test.YtabeimmjclkobaaMm
import Derived.Lib.Zigzag
import Derived.Lib.VarintBits
namespace Go.Proofs.Ytabeimmjclkobaa
open Go.ChangeShapes Go.WideShapes Go.RowKit

/-- only the row's own block has changed, and memory was made; the row's block is the old one or a new one -/
structure Grew (w w' : World) (v v' : Value) : Prop where
  os : w'.os = w.os
  tape : w'.tape = w.tape
  output : w'.output = w.output
  size : w.heap.size ≤ w'.heap.size
  block : ∀ k, k < w.heap.size → some k ≠ v.ownBlock → w'.heap[k]? = w.heap[k]?
  own : v'.ownBlock = v.ownBlock ∨ ∀ k, v'.ownBlock = some k → w.heap.size ≤ k
theorem Grew.refl (w : World) (v : Value) : Grew w w v v := ⟨rfl, rfl, rfl, Nat.le_refl _, fun _ _ _ => rfl, .inl rfl⟩
theorem Grew.of_below {w w' : World} (h : Below w.heap.size w w') (v : Value) : Grew w w' v v := ⟨h.os, h.tape, h.output, h.size, fun k hk _ => h.block k hk, .inl rfl⟩
theorem Grew.of_grown {w w' : World} {v v' : Value} (hg : w.grownBy w' v.ownBlock) (ha : v'.ownBlock = v.ownBlock ∨ v'.ownBlock = some w.heap.size) : Grew w w' v v' :=
  ⟨hg.os, hg.tape, hg.output, hg.size, fun k hk h => hg.block k hk h, ha.imp id fun e k hk => by rw [e] at hk; injection hk with hk; omega⟩
theorem Grew.trans {a b c : World} {u v x : Value} (h : Grew a b u v) (k : Grew b c v x) : Grew a c u x := by
  have hs := h.size
  refine ⟨k.os.trans h.os, k.tape.trans h.tape, k.output.trans h.output, Nat.le_trans h.size k.size, fun j hj hn => ?_, ?_⟩
  · refine (k.block j (Nat.lt_of_lt_of_le hj h.size) fun e => ?_).trans (h.block j hj hn)
    rcases h.own with h1 | h1
    · exact hn (by rw [e, h1])
    · have := h1 j e.symm; omega
  · rcases k.own with h2 | h2
    · rw [h2]; exact h.own
    · exact .inr fun j hj => Nat.le_trans h.size (h2 j hj)
theorem Grew.below {w0 w w' : World} {v v' : Value} {B : Nat} (h : Grew w w' v v') (hb : Below B w0 w) (hB : B ≤ w.heap.size) (hv : ∀ k, v.ownBlock = some k → B ≤ k) : Below B w0 w' :=
  ⟨h.os.trans hb.os, h.tape.trans hb.tape, h.output.trans hb.output, Nat.le_trans hb.size h.size, fun k hk => (h.block k (by omega) fun e => by have := hv k e.symm; omega).trans (hb.block k hk)⟩
theorem Grew.agree {w w' : World} {v v' : Value} {A : Nat → Prop} (h : Grew w w' v v') (hA : ∀ k, A k → some k ≠ v.ownBlock) : Agree A w w' := fun g hg hlt => h.block g hlt (hA g hg)

theorem wf_i64 {n : Int} (h : (Lit.int .i64 n).wf = true) : -9223372036854775808 ≤ n ∧ n ≤ 9223372036854775807 := by
  simp [Lit.wf, IntKind.min, IntKind.max, IntKind.bits, IntKind.signed] at h
  exact h
theorem zz_bits {n : Int} (h0 : -9223372036854775808 ≤ n) (h1 : n ≤ 9223372036854775807) :
    bits .xor .u64 (IntKind.u64.wrap (IntKind.u64.wrap n * 2)) (IntKind.u64.wrap (n / 9223372036854775808)) = ((Ob.zz n : Nat) : Int) := by
  by_cases hn : n < 0
  · have e1 : IntKind.u64.wrap (IntKind.u64.wrap n * 2) = (((2 * n + 18446744073709551616).toNat : Nat) : Int) := by
      rw [IntKind.wrap_u64, IntKind.wrap_u64]
      omega
    have e2 : IntKind.u64.wrap (n / 9223372036854775808) = ((2 ^ 64 - 1 : Nat) : Int) := by
      rw [IntKind.wrap_u64]
      omega
    rw [e1, e2, bits_xor_u64_nat _ _ (by omega) (by decide), Nat.xor_comm, Lib.xor_ones64 _ (by omega)]
    unfold Ob.zz
    rw [if_pos hn]
    omega
  · have e1 : IntKind.u64.wrap (IntKind.u64.wrap n * 2) = (((2 * n).toNat : Nat) : Int) := by
      rw [IntKind.wrap_u64, IntKind.wrap_u64]
      omega
    have e2 : IntKind.u64.wrap (n / 9223372036854775808) = ((0 : Nat) : Int) := by
      rw [IntKind.wrap_u64]
      omega
    rw [e1, e2, bits_xor_u64_nat _ _ (by omega) (by decide), Nat.xor_zero]
    unfold Ob.zz
    rw [if_neg hn]
    omega
theorem big_byte (x : Nat) : byteVal (UInt8.ofNat (x % 128 + 128)) = .int .u8 ((x : Int) % 128 + 128) := by
  unfold byteVal; rw [Ob.u8_small (by omega)]; congr 1
theorem small_byte {x : Nat} (h : x < 128) : byteVal (UInt8.ofNat x) = .int .u8 (x : Int) := by
  unfold byteVal; rw [Ob.u8_small (by omega)]
theorem or_byte (x : Nat) : bits .or .u8 ((x : Int) % 256) 128 = ((x : Int) % 128 + 128) := by
  rw [Lib.u8_or128_any _ (by omega) (by omega)]
  omega

set_option maxRecDepth 100000 in
set_option maxHeartbeats 800000 in
theorem appended_gen (base : Nat) (v : Value) (bs : List UInt8) (n : Int) (w : World) (ho : Row2 base 5 1 w v bs.length (bs.map byteVal)) (hb : base ≤ w.heap.size) (hl : bs.length ≤ 1000000000) (hn : (Lit.int .i64 n).wf = true) :
    Calls Try.prog 31 #[v, .int .i64 n] w fun e w' => ∃ v', e = .returned v' ∧ w'.ownsRow base 5 1 v' (bs ++ Ob.num n).length ((bs ++ Ob.num n).map byteVal) ∧ Grew w w' v v' := by
  have hg0 := Grew.refl w v
  obtain ⟨v0, hv0⟩ : ∃ x, x = v := ⟨_, rfl⟩
  rw [← hv0] at ho ⊢
  have Hg0 : Hid (Grew w w v0 v0) := by rw [hv0]; exact hg0
  clear hg0 hv0 v
  obtain ⟨p, cap, hv⟩ := ho.parts
  have HO := Lib.hid ho
  obtain ⟨q, hq⟩ : ∃ q, bs.length = q := ⟨_, rfl⟩
  rw [hq] at HO hl
  have Hq := Lib.hid hq
  obtain ⟨hn0, hn1⟩ := wf_i64 hn
  have hzz := zz_bits hn0 hn1
  have Hnl := Lib.hid (Ob.num_len hn0 hn1)
  have hz64 := Ob.zz_lt hn0 hn1
  have hdone : Hid ([] ++ Ob.enc (Ob.zz n) = Ob.num n) := rfl
  obtain ⟨z, hz⟩ : ∃ z, Ob.zz n = z := ⟨_, rfl⟩
  rw [hz] at hzz hz64 hdone
  obtain ⟨V, hV⟩ : ∃ V, V = v0 := ⟨_, rfl⟩
  have HV := Lib.hid hV
  subst hv
  rw [hq] at HV ⊢
  have Hg0 := Hg0
  rw [hq, ← HV.out] at Hg0
  rw [hq, ← HV.out] at HO
  clear ho hq hn hn0 hn1 hz hV
  go_enter Try.func31, Try.ntmps31
  go_upto_region 2 with fail
  clear hzz
  go_loopw [0, 5] (fun v0 u wr => ∃ (x : Nat) (done : List UInt8), u = .int .u64 x ∧ x < 18446744073709551616 ∧ Hid (done ++ Ob.enc x = Ob.num n) ∧ Hid (Row2 base 5 1 wr v0 (q + done.length) ((bs ++ done).map byteVal)) ∧ Hid (Grew w wr V v0)) (fun _ u _ => (intOf u).toNat)
  case atStart => exact ⟨z, [], rfl, hz64, hdone, by rw [List.append_nil]; rw [HV.out] at HO; exact HO, by have := Hg0.out; rw [HV.out] at this ⊢; exact this⟩
  case round =>
    obtain ⟨x, done, rfl, hx, hD, hO, hG⟩ := hrel
    have hsz := hG.out.size
    have hdl : done.length < 10 := by
      have h1 := congrArg List.length hD.out
      rw [List.length_append] at h1
      have h2 := List.length_pos_iff.2 (Ob.enc_ne x)
      have := Hnl.out
      omega
    obtain ⟨d, hd⟩ : ∃ d, done.length = d := ⟨_, rfl⟩
    rw [hd] at hO hdl
    have Hd := Lib.hid hd
    clear hd
    by_cases h1 : x < 128
    · have d1 : decide ((x : Int) ≥ 128) = false := decide_eq_false (by omega)
      obtain ⟨wb, hwb, hbv, hbb⟩ := fresh_blk wr [Value.int .u8 (x : Int)] 5
      have hsrc : Src Try.prog 1 22 (.slice (some ⟨wr.heap.size, 0, none⟩) 1 1) 1 [Value.int .u8 (x : Int)] wb :=
        Src.ofSlice wb (e' := 5) Try.underlying22 _ 1 1 _ rfl (fun j u hj => by rw [Addr.add_lit, Nat.zero_add]; exact (hbv.cells j).trans hj) (fun u hu => by rw [List.mem_singleton.1 hu]; rfl)
      have Hsrc := Lib.hid hsrc
      have HOb := Lib.hid (hO.out.below hbb)
      have HGb := Lib.hid (hG.out.trans (Grew.of_below hbb u0))
      have hsb : base ≤ wb.heap.size := Nat.le_trans hb (Nat.le_trans hsz hbb.size)
      obtain ⟨p0, c0, rfl⟩ := hO.out.parts
      clear hsrc hbv hbb hO hG
      go_wp2_with (at_builtin; (try rw [hwb]); refine app_two _ _ 22 22 5 (.int .u8 0) 1 1 rfl rfl Try.underlying22 (by kernel_rfl) rfl (by decide) base HOb.out hsb rfl rfl Hsrc.out (by decide) (by unfold maxLen; omega) (by omega) ?_)
      intro v9 w9 ho9 hg9 ha9
      have HO9 : Hid (w9.ownsRow base 5 1 v9 (bs ++ Ob.num n).length ((bs ++ Ob.num n).map byteVal)) := by
        have h2 := hD.out
        rw [Ob.enc, dif_pos h1] at h2
        rw [← h2, ← List.append_assoc]
        show w9.ownsRow base _ 1 v9 (bs ++ done ++ [UInt8.ofNat x]).length ((bs ++ done ++ [UInt8.ofNat x]).map byteVal)
        have h3 := ho9
        rw [← List.append_assoc, ← List.map_append] at h3
        rw [List.length_append, List.length_append, Hq.out, Hd.out, List.map_append, List.map_singleton, small_byte h1]
        exact h3
      have HG9 := Lib.hid (HGb.out.trans (Grew.of_grown hg9 ha9))
      clear ho9 hg9 ha9 hwb
      go_wp2_with fail
      go_ret
      exact ⟨v9, rfl, HO9.out, by have h1 := HG9.out; rw [HV.out] at h1; exact h1⟩
    · have d1 : decide ((x : Int) ≥ 128) = true := decide_eq_true (by omega)
      have hor := or_byte x
      obtain ⟨wb, hwb, hbv, hbb⟩ := fresh_blk wr [Value.int .u8 ((x : Int) % 128 + 128)] 5
      have hsrc : Src Try.prog 1 22 (.slice (some ⟨wr.heap.size, 0, none⟩) 1 1) 1 [Value.int .u8 ((x : Int) % 128 + 128)] wb :=
        Src.ofSlice wb (e' := 5) Try.underlying22 _ 1 1 _ rfl (fun j u hj => by rw [Addr.add_lit, Nat.zero_add]; exact (hbv.cells j).trans hj) (fun u hu => by rw [List.mem_singleton.1 hu]; rfl)
      have Hsrc := Lib.hid hsrc
      have HOb := Lib.hid (hO.out.below hbb)
      have HGb := Lib.hid (hG.out.trans (Grew.of_below hbb u0))
      have hsb : base ≤ wb.heap.size := Nat.le_trans hb (Nat.le_trans hsz hbb.size)
      obtain ⟨p0, c0, rfl⟩ := hO.out.parts
      clear hsrc hbv hbb hO hG
      go_wp2_with (at_builtin; (try rw [hwb]); refine app_two _ _ 22 22 5 (.int .u8 0) 1 1 rfl rfl Try.underlying22 (by kernel_rfl) rfl (by decide) base HOb.out hsb rfl rfl Hsrc.out (by decide) (by unfold maxLen; omega) (by omega) ?_)
      intro v9 w9 ho9 hg9 ha9
      have HO9 : Hid (w9.ownsRow base 5 1 v9 (q + (done ++ [UInt8.ofNat (x % 128 + 128)]).length) ((bs ++ (done ++ [UInt8.ofNat (x % 128 + 128)])).map byteVal)) := by
        show w9.ownsRow base _ 1 v9 _ _
        have h3 := ho9
        rw [← List.append_assoc, ← List.map_append] at h3
        rw [← List.append_assoc, List.length_append, Hd.out, List.map_append, List.map_singleton, big_byte]
        exact h3
      have hD9 : Hid ((done ++ [UInt8.ofNat (x % 128 + 128)]) ++ Ob.enc (x / 128) = Ob.num n) := by
        have h2 := hD.out
        rw [Ob.enc, dif_neg h1] at h2
        rw [← h2, List.append_assoc]
        rfl
      have HG9 := Lib.hid (HGb.out.trans (Grew.of_grown hg9 ha9))
      clear ho9 hg9 ha9 hwb hor
      go_wp2_with fail
      go_roundw
      case rel => exact ⟨x / 128, _, val_int (by omega), by omega, hD9, .inl HO9.out, HG9⟩
      case measure => simp [intOf]; omega
theorem appended_any (base : Nat) (v : Value) (bs : List UInt8) (n : Int) (w : World) (ho : w.ownsRow base 5 1 v bs.length (bs.map byteVal)) (hb : base ≤ w.heap.size) (hl : bs.length ≤ 1000000000) (hn : (Lit.int .i64 n).wf = true) :
    Calls Try.prog 31 #[v, .int .i64 n] w fun e w' => ∃ v', e = .returned v' ∧ w'.ownsRow base 5 1 v' (bs ++ Ob.num n).length ((bs ++ Ob.num n).map byteVal) ∧ Grew w w' v v' :=
  appended_gen base v bs n w (.inl ho) hb hl hn
theorem and_word (x : Nat) (h : x < 18446744073709551616) : bits .and .u64 (x : Int) 127 = (x : Int) % 128 := by
  have h := bits_mask .u64 64 (by decide) wraps_u64 7 (by decide) (x : Int) (by omega) (by omega)
  simpa using h
theorem or_byte2 (x : Nat) : bits .or .u8 ((x : Int) % 128) 128 = (x : Int) % 128 + 128 := by
  rw [Lib.u8_or128_any _ (by omega) (by omega)]
  omega
theorem zz_zigzag (n : Int) : Lib.zigzag n = Ob.zz n := by
  unfold Lib.zigzag Ob.zz
  by_cases h : n < 0
  · rw [if_neg (by omega), if_pos h]; congr 1; omega
  · rw [if_pos (by omega), if_neg h]; congr 1; omega

theorem number_any (n : Int) (w : World) (hn : (Lit.int .i64 n).wf = true) :
    Calls Try.prog 9 #[.int .i64 n] w fun e w' => ∃ v', e = .returned v' ∧ w'.ownsRow w.heap.size 5 1 v' (Ob.num n).length ((Ob.num n).map byteVal) ∧ Below w.heap.size w w' := by
  have H := Lib.hid (appended_any w.heap.size (.slice none 0 0) [] n w (World.ownsRow_nil _ _ _ _) (Nat.le_refl _) (by simp) hn)
  go_enter Try.func9, Try.ntmps9
  go_wp2_with fail
  refine H.out.mono ?_
  rintro e w2 ⟨v2, rfl, ho2, hg2⟩
  have HO := Lib.hid ho2
  have HB := Lib.hid (hg2.below (Below.refl w.heap.size w) (Nat.le_refl _) fun k hk => by cases hk)
  clear ho2 hg2
  go_wp2_with fail
  go_ret
  exact ⟨v2, rfl, HO.out, HB.out⟩

set_option maxRecDepth 100000 in
set_option maxHeartbeats 800000 in
theorem rnumber_any (n : Int) (w : World) (hn : (Lit.int .i64 n).wf = true) :
    Calls Try.prog 11 #[.int .i64 n] w fun e w' => ∃ v', e = .returned v' ∧ w'.ownsRow w.heap.size 5 1 v' (Ob.num n).length ((Ob.num n).map byteVal) ∧ Below w.heap.size w w' := by
  obtain ⟨hn0, hn1⟩ := wf_i64 hn
  have Hnl := Lib.hid (Ob.num_len hn0 hn1)
  have hz64 := Ob.zz_lt hn0 hn1
  have hdone : Hid ([] ++ Ob.enc (Ob.zz n) = Ob.num n) := rfl
  obtain ⟨z, hz⟩ : ∃ z, Ob.zz n = z := ⟨_, rfl⟩
  have Hz := Lib.hid hz
  rw [hz] at hz64 hdone
  clear hz hn
  go_enter Try.func11, Try.ntmps11
  by_cases hneg : n < 0
  · go_upto_region 5 with fail
    rw [Lib.zigzag_neg hn0 hneg, zz_zigzag, Hz.out]
    clear hneg hn0 hn1
    go_loopw [3, 4] (fun u v0 wr => ∃ (x : Nat) (done : List UInt8), u = .int .u64 x ∧ x < 18446744073709551616 ∧ Hid (done ++ Ob.enc x = Ob.num n) ∧ Hid (wr.ownsRow w.heap.size 5 1 v0 (done.length) (done.map byteVal)) ∧ Hid (Grew w wr (.slice none 0 0) v0)) (fun u _ _ => (intOf u).toNat)
    case atStart => exact ⟨z, [], rfl, hz64, hdone, World.ownsRow_nil _ _ _ _, Grew.refl _ _⟩
    case round =>
      obtain ⟨x, done, rfl, hx, hD, hO, hG⟩ := hrel
      have hsz := hG.out.size
      have hdl : done.length < 10 := by
        have h1 := congrArg List.length hD.out
        rw [List.length_append] at h1
        have h2 := List.length_pos_iff.2 (Ob.enc_ne x)
        have := Hnl.out
        omega
      obtain ⟨d, hd⟩ : ∃ d, done.length = d := ⟨_, rfl⟩
      rw [hd] at hO hdl
      have Hd := Lib.hid hd
      clear hd
      by_cases h1 : x < 128
      · have d1 : decide ((x : Int) ≥ 128) = false := decide_eq_false (by omega)
        obtain ⟨wb, hwb, hbv, hbb⟩ := fresh_blk wr [Value.int .u8 (x : Int)] 5
        have hsrc : Src Try.prog 1 22 (.slice (some ⟨wr.heap.size, 0, none⟩) 1 1) 1 [Value.int .u8 (x : Int)] wb :=
          Src.ofSlice wb (e' := 5) Try.underlying22 _ 1 1 _ rfl (fun j u hj => by rw [Addr.add_lit, Nat.zero_add]; exact (hbv.cells j).trans hj) (fun u hu => by rw [List.mem_singleton.1 hu]; rfl)
        have Hsrc := Lib.hid hsrc
        have HOb := Lib.hid (ownsRow_below hO.out hbb)
        have HGb := Lib.hid (hG.out.trans (Grew.of_below hbb u4))
        have hsb : w.heap.size ≤ wb.heap.size := Nat.le_trans hsz hbb.size
        obtain ⟨p0, c0, rfl, _, _⟩ := ownsRow_holds3 hO.out
        clear hsrc hbv hbb hO hG
        go_wp2_with (at_builtin; (try rw [hwb]); refine app_at _ _ 22 22 5 (.int .u8 0) 1 1 rfl rfl Try.underlying22 (by kernel_rfl) rfl (by decide) w.heap.size HOb.out hsb rfl rfl Hsrc.out (by unfold maxLen; omega) (by omega) ?_)
        intro v9 w9 ho9 hg9 ha9
        have HO9 : Hid (w9.ownsRow w.heap.size 5 1 v9 (Ob.num n).length ((Ob.num n).map byteVal)) := by
          have h2 := hD.out
          rw [Ob.enc, dif_pos h1] at h2
          rw [← h2]
          show w9.ownsRow w.heap.size _ 1 v9 (done ++ [UInt8.ofNat x]).length ((done ++ [UInt8.ofNat x]).map byteVal)
          rw [List.length_append, Hd.out, List.map_append, List.map_singleton, small_byte h1]
          exact ho9
        have HG9 := Lib.hid (HGb.out.trans (Grew.of_grown hg9 ha9))
        clear ho9 hg9 ha9 hwb
        go_wp2_with fail
        go_ret
        exact ⟨v9, rfl, HO9.out, HG9.out.below (Below.refl _ _) (Nat.le_refl _) fun k hk => by cases hk⟩
      · have d1 : decide ((x : Int) ≥ 128) = true := decide_eq_true (by omega)
        have hor := or_byte2 x
        have hand := and_word x hx
        obtain ⟨wb, hwb, hbv, hbb⟩ := fresh_blk wr [Value.int .u8 ((x : Int) % 128 + 128)] 5
        have hsrc : Src Try.prog 1 22 (.slice (some ⟨wr.heap.size, 0, none⟩) 1 1) 1 [Value.int .u8 ((x : Int) % 128 + 128)] wb :=
          Src.ofSlice wb (e' := 5) Try.underlying22 _ 1 1 _ rfl (fun j u hj => by rw [Addr.add_lit, Nat.zero_add]; exact (hbv.cells j).trans hj) (fun u hu => by rw [List.mem_singleton.1 hu]; rfl)
        have Hsrc := Lib.hid hsrc
        have HOb := Lib.hid (ownsRow_below hO.out hbb)
        have HGb := Lib.hid (hG.out.trans (Grew.of_below hbb u4))
        have hsb : w.heap.size ≤ wb.heap.size := Nat.le_trans hsz hbb.size
        obtain ⟨p0, c0, rfl, _, _⟩ := ownsRow_holds3 hO.out
        clear hsrc hbv hbb hO hG
        go_wp2_with (at_builtin; (try rw [hwb]); refine app_at _ _ 22 22 5 (.int .u8 0) 1 1 rfl rfl Try.underlying22 (by kernel_rfl) rfl (by decide) w.heap.size HOb.out hsb rfl rfl Hsrc.out (by unfold maxLen; omega) (by omega) ?_)
        intro v9 w9 ho9 hg9 ha9
        have HO9 : Hid (w9.ownsRow w.heap.size 5 1 v9 ((done ++ [UInt8.ofNat (x % 128 + 128)]).length) ((done ++ [UInt8.ofNat (x % 128 + 128)]).map byteVal)) := by
          show w9.ownsRow w.heap.size _ 1 v9 _ _
          rw [List.length_append, Hd.out, List.map_append, List.map_singleton, big_byte]
          exact ho9
        have hD9 : Hid ((done ++ [UInt8.ofNat (x % 128 + 128)]) ++ Ob.enc (x / 128) = Ob.num n) := by
          have h2 := hD.out
          rw [Ob.enc, dif_neg h1] at h2
          rw [← h2, List.append_assoc]
          rfl
        have HG9 := Lib.hid (HGb.out.trans (Grew.of_grown hg9 ha9))
        clear ho9 hg9 ha9 hwb hor hand
        go_wp2_with fail
        go_roundw
        case rel => exact ⟨x / 128, _, val_int (by omega), by omega, hD9, HO9, HG9⟩
        case measure => simp [intOf]; omega
  · go_upto_region 5 with fail
    rw [show n * 2 = (z : Int) by have := Hz.out; unfold Ob.zz at this; rw [if_neg (by omega)] at this; omega]
    clear hneg hn0 hn1
    go_loopw [3, 4] (fun u v0 wr => ∃ (x : Nat) (done : List UInt8), u = .int .u64 x ∧ x < 18446744073709551616 ∧ Hid (done ++ Ob.enc x = Ob.num n) ∧ Hid (wr.ownsRow w.heap.size 5 1 v0 (done.length) (done.map byteVal)) ∧ Hid (Grew w wr (.slice none 0 0) v0)) (fun u _ _ => (intOf u).toNat)
    case atStart => exact ⟨z, [], rfl, hz64, hdone, World.ownsRow_nil _ _ _ _, Grew.refl _ _⟩
    case round =>
      obtain ⟨x, done, rfl, hx, hD, hO, hG⟩ := hrel
      have hsz := hG.out.size
      have hdl : done.length < 10 := by
        have h1 := congrArg List.length hD.out
        rw [List.length_append] at h1
        have h2 := List.length_pos_iff.2 (Ob.enc_ne x)
        have := Hnl.out
        omega
      obtain ⟨d, hd⟩ : ∃ d, done.length = d := ⟨_, rfl⟩
      rw [hd] at hO hdl
      have Hd := Lib.hid hd
      clear hd
      by_cases h1 : x < 128
      · have d1 : decide ((x : Int) ≥ 128) = false := decide_eq_false (by omega)
        obtain ⟨wb, hwb, hbv, hbb⟩ := fresh_blk wr [Value.int .u8 (x : Int)] 5
        have hsrc : Src Try.prog 1 22 (.slice (some ⟨wr.heap.size, 0, none⟩) 1 1) 1 [Value.int .u8 (x : Int)] wb :=
          Src.ofSlice wb (e' := 5) Try.underlying22 _ 1 1 _ rfl (fun j u hj => by rw [Addr.add_lit, Nat.zero_add]; exact (hbv.cells j).trans hj) (fun u hu => by rw [List.mem_singleton.1 hu]; rfl)
        have Hsrc := Lib.hid hsrc
        have HOb := Lib.hid (ownsRow_below hO.out hbb)
        have HGb := Lib.hid (hG.out.trans (Grew.of_below hbb u4))
        have hsb : w.heap.size ≤ wb.heap.size := Nat.le_trans hsz hbb.size
        obtain ⟨p0, c0, rfl, _, _⟩ := ownsRow_holds3 hO.out
        clear hsrc hbv hbb hO hG
        go_wp2_with (at_builtin; (try rw [hwb]); refine app_at _ _ 22 22 5 (.int .u8 0) 1 1 rfl rfl Try.underlying22 (by kernel_rfl) rfl (by decide) w.heap.size HOb.out hsb rfl rfl Hsrc.out (by unfold maxLen; omega) (by omega) ?_)
        intro v9 w9 ho9 hg9 ha9
        have HO9 : Hid (w9.ownsRow w.heap.size 5 1 v9 (Ob.num n).length ((Ob.num n).map byteVal)) := by
          have h2 := hD.out
          rw [Ob.enc, dif_pos h1] at h2
          rw [← h2]
          show w9.ownsRow w.heap.size _ 1 v9 (done ++ [UInt8.ofNat x]).length ((done ++ [UInt8.ofNat x]).map byteVal)
          rw [List.length_append, Hd.out, List.map_append, List.map_singleton, small_byte h1]
          exact ho9
        have HG9 := Lib.hid (HGb.out.trans (Grew.of_grown hg9 ha9))
        clear ho9 hg9 ha9 hwb
        go_wp2_with fail
        go_ret
        exact ⟨v9, rfl, HO9.out, HG9.out.below (Below.refl _ _) (Nat.le_refl _) fun k hk => by cases hk⟩
      · have d1 : decide ((x : Int) ≥ 128) = true := decide_eq_true (by omega)
        have hor := or_byte2 x
        have hand := and_word x hx
        obtain ⟨wb, hwb, hbv, hbb⟩ := fresh_blk wr [Value.int .u8 ((x : Int) % 128 + 128)] 5
        have hsrc : Src Try.prog 1 22 (.slice (some ⟨wr.heap.size, 0, none⟩) 1 1) 1 [Value.int .u8 ((x : Int) % 128 + 128)] wb :=
          Src.ofSlice wb (e' := 5) Try.underlying22 _ 1 1 _ rfl (fun j u hj => by rw [Addr.add_lit, Nat.zero_add]; exact (hbv.cells j).trans hj) (fun u hu => by rw [List.mem_singleton.1 hu]; rfl)
        have Hsrc := Lib.hid hsrc
        have HOb := Lib.hid (ownsRow_below hO.out hbb)
        have HGb := Lib.hid (hG.out.trans (Grew.of_below hbb u4))
        have hsb : w.heap.size ≤ wb.heap.size := Nat.le_trans hsz hbb.size
        obtain ⟨p0, c0, rfl, _, _⟩ := ownsRow_holds3 hO.out
        clear hsrc hbv hbb hO hG
        go_wp2_with (at_builtin; (try rw [hwb]); refine app_at _ _ 22 22 5 (.int .u8 0) 1 1 rfl rfl Try.underlying22 (by kernel_rfl) rfl (by decide) w.heap.size HOb.out hsb rfl rfl Hsrc.out (by unfold maxLen; omega) (by omega) ?_)
        intro v9 w9 ho9 hg9 ha9
        have HO9 : Hid (w9.ownsRow w.heap.size 5 1 v9 ((done ++ [UInt8.ofNat (x % 128 + 128)]).length) ((done ++ [UInt8.ofNat (x % 128 + 128)]).map byteVal)) := by
          show w9.ownsRow w.heap.size _ 1 v9 _ _
          rw [List.length_append, Hd.out, List.map_append, List.map_singleton, big_byte]
          exact ho9
        have hD9 : Hid ((done ++ [UInt8.ofNat (x % 128 + 128)]) ++ Ob.enc (x / 128) = Ob.num n) := by
          have h2 := hD.out
          rw [Ob.enc, dif_neg h1] at h2
          rw [← h2, List.append_assoc]
          rfl
        have HG9 := Lib.hid (HGb.out.trans (Grew.of_grown hg9 ha9))
        clear ho9 hg9 ha9 hwb hor hand
        go_wp2_with fail
        go_roundw
        case rel => exact ⟨x / 128, _, val_int (by omega), by omega, hD9, HO9, HG9⟩
        case measure => simp [intOf]; omega
end Go.Proofs.Ytabeimmjclkobaa
