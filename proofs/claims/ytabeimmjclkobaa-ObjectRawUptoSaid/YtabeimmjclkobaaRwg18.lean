import Derived.Test.YtabeimmjclkobaaRwg11
import Derived.Test.YtabeimmjclkobaaRwg6
import Derived.Test.YtabeimmjclkobaaRwg9
import Derived.Test.YtabeimmjclkobaaRwg16
/- Objects: what an image needs: check values, which functions can stand in it. -/
namespace Go.Proofs.Ytabeimmjclkobaa
open Go.ChangeShapes Go.WideShapes Go.RowKit

theorem wrap_byte (c : UInt8) : IntKind.u64.wrap (c.toNat : Int) = (c.toNat : Int) := by
  have := c.toNat_lt
  rw [IntKind.wrap_u64]; omega
theorem fp_bits {h : Nat} (hh : h < 18446744073709551616) (c : UInt8) : IntKind.u64.wrap (bits .xor .u64 (h : Int) (c.toNat : Int) * 1099511628211) = ((Ob.fpStep h c : Nat) : Int) := by
  have hc := c.toNat_lt
  rw [u64_xor_nat h c.toNat hh (by omega), IntKind.wrap_u64]
  unfold Ob.fpStep
  generalize h ^^^ c.toNat = x
  omega

set_option maxRecDepth 100000 in
set_option maxHeartbeats 800000 in
theorem fingerprint_any (S : ByteArray) (w : World) (hS : S.size ≤ 1000000000000) :
    Calls Try.prog 66 #[.string S] w fun e w' => e = .returned (.int .u64 (Ob.fp S.data.toList : Nat)) ∧ w' = w := by
  have hlS : S.data.toList.length = S.size := by simp
  go_enter Try.func66, Try.ntmps66
  go_upto_region 3 with fail
  go_loopw [3, 7] (fun u i wr => wr = w ∧ ∃ k h : Nat, i = .int .i64 k ∧ k ≤ S.size ∧ u = .int .u64 h ∧ h < 18446744073709551616 ∧ Hid (h = Ob.fp (S.data.toList.take k))) (fun _ i _ => S.size - (intOf i).toNat)
  case atStart => exact ⟨rfl, 0, 14695981039346656037, rfl, Nat.zero_le _, rfl, by omega, by show _ = _; rw [List.take_zero]; rfl⟩
  case round =>
    obtain ⟨rfl, k, h, rfl, hk, rfl, hh, hf⟩ := hrel
    by_cases hlt : k < S.size
    · have d1 : decide ((k : Int) < (S.size : Int)) = true := decide_eq_true (by omega)
      have hx := fp_bits hh S[k]
      have hnext : Hid (Ob.fpStep h S[k] = Ob.fp (S.data.toList.take (k + 1))) := by show _ = _; rw [take_snoc S k hlt, Ob.fp_snoc, ← hf.out]
      have hlt2 := Ob.fpStep_lt h S[k]
      have H2 := Lib.hid hh
      clear hh
      go_wp2_with fail
      go_roundw
      case rel => exact ⟨by trivial, k + 1, Ob.fpStep h S[k], val_int (by omega), hlt, by rw [← hx, wrap_byte], hlt2, hnext⟩
      case measure => simp [intOf]; omega
    · have d1 : decide ((k : Int) < (S.size : Int)) = false := decide_eq_false (by omega)
      have he : Hid (h = Ob.fp S.data.toList) := by
        have h1 := hf.out
        rw [List.take_of_length_le (by omega)] at h1
        exact h1
      go_wp2_with fail
      go_ret
      exact ⟨by rw [← he.out]; rfl, rfl⟩

/-- an operation as a value -/
def opVal (o : Ob.Op) (u : Value) : Value := .agg #[.int .i64 o.kind, .int .i64 o.a, .int .i64 o.b, .int .i64 o.c, u, .string ⟨o.sym.toArray⟩]
set_option maxRecDepth 100000 in
set_option maxHeartbeats 800000 in
theorem linked1_any (o : Ob.Op) (u : Value) (w : World) : Calls Try.prog 69 #[opVal o u] w fun e w' => e = .returned (.bool (Ob.badOp o)) ∧ Below w.heap.size w w' := by
  obtain ⟨kd, oa, ob, oc, ls, sy⟩ := o
  unfold opVal
  dsimp only
  obtain ⟨S, hS⟩ : ∃ S : ByteArray, ⟨sy.toArray⟩ = S := ⟨_, rfl⟩
  have hSd : S.data.toList = sy := by rw [← hS]
  rw [hS]
  obtain ⟨w1, hw1, B1, hb1⟩ := fresh_blk w [.int .i64 kd, .int .i64 oa, .int .i64 ob, .int .i64 oc, u, .string S] 53
  have c0 := B1.cells 0
  have c5 := B1.cells 5
  have cl := B1.lt
  simp only [List.getElem?_cons_zero, List.getElem?_cons_succ] at c0 c5
  have Hw1 := Lib.hid hw1
  have Hb1 := Lib.hid hb1
  have hres : Hid (Ob.badOp ⟨kd, oa, ob, oc, ls, sy⟩ = (kd == 19 || (kd == 14 && !sy.isEmpty))) := rfl
  clear hw1 B1 hb1 hS
  go_enter Try.func69, Try.ntmps69
  go_upto_region 1 with fail
  rw [Hw1.out]
  by_cases h19 : kd = 19
  · subst h19
    go_wp2_with fail
    go_ret
    exact ⟨by rw [hres.out]; rfl, Hb1.out⟩
  · have q19 : (kd == 19) = false := by simp [h19]
    by_cases h14 : kd = 14
    · subst h14
      go_wp2_with fail
      go_ret
      refine ⟨?_, Hb1.out⟩
      rw [hres.out, ← hSd, ← ByteArray.toList_eq]
      rfl
    · have q14 : (kd == 14) = false := by simp [h14]
      clear h14 h19
      go_wp2_with fail
      go_ret
      exact ⟨by rw [hres.out, q19, q14]; rfl, Hb1.out⟩

set_option maxRecDepth 100000 in
set_option maxHeartbeats 800000 in
/-- which operations: a slice of operations that is only read, and a function of the program -/
theorem indexop_any {A : Nat → Prop} (fn : Nat) (q : Ob.Op → Bool) (v : Value) (l : List Ob.Op) (w : World) (hv : OpsAt A w v l) (hn : l.length ≤ 1000000000000) (hcf : ∀ args w, (callFunc fn args).run Try.prog w = .ok (.enter fn args) w)
    (hf : ∀ (o : Ob.Op) (u : Value) (w : World), o ∈ l → Calls Try.prog fn #[opVal o u] w fun e w' => e = .returned (.bool (q o)) ∧ Below w.heap.size w w') :
    Calls Try.prog 82 #[v, .func (.func fn) #[] #[]] w fun e w' => ∃ i : Int, e = .returned (.int .i64 i) ∧ (decide (0 ≤ i) = l.any q) ∧ -1 ≤ i ∧ i ≤ 1000000000000 ∧ Below w.heap.size w w' := by
  obtain ⟨p, c1, rfl⟩ := hv.parts
  have HP := Lib.hid hv
  obtain ⟨n, hl⟩ : ∃ n, l.length = n := ⟨_, rfl⟩
  have Hl := Lib.hid hl
  have Hf := Lib.hid hf
  have Hcf := Lib.hid hcf
  rw [hl] at hn HP ⊢
  clear hv hl hf hcf
  go_enter Try.func82, Try.ntmps82
  go_upto_region 2 with fail
  go_loopw [8] (fun i wr => Hid (Below w.heap.size w wr) ∧ ∃ k : Nat, i = .int .i64 k ∧ k ≤ n ∧ Hid (∀ x ∈ l.take k, q x = false)) (fun i _ => n - (intOf i).toNat)
  case atStart => exact ⟨Below.refl _ _, 0, rfl, Nat.zero_le _, by show ∀ x ∈ _, _; simp⟩
  case round =>
    obtain ⟨hB, k, rfl, hk, hno⟩ := hrel
    by_cases hlt : k < n
    · have hd : decide ((k : Int) < (n : Int)) = true := by simp; omega
      have hkl : k < l.length := by rw [Hl.out]; exact hlt
      obtain ⟨gr, ro, rfl, hAr, hgr, hc⟩ := (HP.out.keep (agree_below hB.out)).all (by omega)
      obtain ⟨o, hoo⟩ : ∃ o, l[k] = o := ⟨_, rfl⟩
      have ho : l[k]? = some o := by rw [← hoo]; exact List.getElem?_eq_getElem hkl
      obtain ⟨e0, e1, e2, e3, ⟨ul, e4, hnl⟩, e5⟩ := hc k o ho
      have Ho := Lib.hid ho
      have Htk : Hid (l.take (k + 1) = l.take k ++ [o]) := by show _ = _; rw [List.take_succ_eq_append_getElem hkl, hoo]
      have H := Lib.hid (Hf.out o ul wr (List.mem_of_getElem? ho))
      unfold opVal at H
      clear hc hkl hoo ho hnl
      go_wp2_with fail
      rw [Hcf.out]
      refine H.out.mono ?_
      rintro e w2 ⟨rfl, hb2⟩
      have HB2 := Lib.hid (hB.out.trans (hb2.mono hB.out.size))
      clear H hb2 e0 e1 e2 e3 e4 e5
      cases hq : q o with
      | true =>
        have hany : Hid (l.any q = true) := by show _ = _; rw [List.any_eq_true]; exact ⟨o, List.mem_of_getElem? Ho.out, hq⟩
        clear hq
        go_wp2_with fail
        go_ret
        exact ⟨_, rfl, by rw [hany.out]; exact decide_eq_true (by omega), by omega, by omega, HB2.out⟩
      | false =>
        have hno2 : Hid (∀ x ∈ l.take (k + 1), q x = false) := fun x hx => by
          rw [Htk.out] at hx
          rcases List.mem_append.1 hx with h | h
          · exact hno.out x h
          · rw [List.mem_singleton.1 h]; exact hq
        clear hq
        go_wp2_with fail
        go_roundw
        case rel => exact ⟨HB2, k + 1, val_int (by omega), hlt, hno2⟩
        case measure => simp [intOf]; omega
    · have hd : decide ((k : Int) < (n : Int)) = false := by simp; omega
      have hany : Hid (l.any q = false) := by
        have h1 := hno.out
        rw [List.take_of_length_le (by rw [Hl.out]; omega)] at h1
        show _ = _
        rw [List.any_eq_false]
        exact fun x hx => by rw [h1 x hx]; simp
      go_wp2_with fail
      go_ret
      exact ⟨_, rfl, by rw [hany.out]; rfl, by omega, by omega, hB.out⟩

set_option maxRecDepth 100000 in
set_option maxHeartbeats 800000 in
theorem containsop_any {A : Nat → Prop} (fn : Nat) (q : Ob.Op → Bool) (v : Value) (l : List Ob.Op) (w : World) (hv : OpsAt A w v l) (hn : l.length ≤ 1000000000000) (hcf : ∀ args w, (callFunc fn args).run Try.prog w = .ok (.enter fn args) w)
    (hf : ∀ (o : Ob.Op) (u : Value) (w : World), o ∈ l → Calls Try.prog fn #[opVal o u] w fun e w' => e = .returned (.bool (q o)) ∧ Below w.heap.size w w') :
    Calls Try.prog 68 #[v, .func (.func fn) #[] #[]] w fun e w' => e = .returned (.bool (l.any q)) ∧ Below w.heap.size w w' := by
  have H := Lib.hid (indexop_any fn q v l w hv hn hcf hf)
  obtain ⟨p, c1, rfl⟩ := hv.parts
  clear hf hv hcf
  go_enter Try.func68, Try.ntmps68
  go_wp2_with fail
  refine H.out.mono ?_
  rintro e w2 ⟨i, rfl, hi, _, _, hb2⟩
  have Hi := Lib.hid hi
  have HB2 := Lib.hid hb2
  clear H hi hb2
  go_wp2_with fail
  go_ret
  exact ⟨by rw [← Hi.out]; rfl, HB2.out⟩

set_option maxRecDepth 100000 in
set_option maxHeartbeats 800000 in
theorem linked_any {A : Nat → Prop} (v : Value) (p : Ob.Plc) (w : World) (hv : PlcAt A w v p) (hn : p.ops.length ≤ 1000000000000) :
    Calls Try.prog 48 #[v] w fun e w' => e = .returned (.bool (!Ob.bad p)) ∧ Below w.heap.size w w' := by
  obtain ⟨u1, u2, rfl, h1, h2⟩ := hv
  obtain ⟨w1, hw1, B1, hb1⟩ := fresh_blk w [.int .i64 p.slots, u1, .int .i64 p.params, .int .i64 p.regs, u2] 42
  have H := Lib.hid (containsop_any 69 Ob.badOp u2 p.ops w1 (h2.keep (agree_below hb1)) hn (fun args w => by rfl) fun o u w _ => linked1_any o u w)
  have hres : Hid (Ob.bad p = p.ops.any Ob.badOp) := rfl
  obtain ⟨pa, ca, rfl⟩ := h1.parts
  obtain ⟨po, co, rfl⟩ := h2.parts
  have c4 := B1.cells 4
  have cl := B1.lt
  simp only [List.getElem?_cons_zero, List.getElem?_cons_succ] at c4
  have Hw1 := Lib.hid hw1
  have Hb1 := Lib.hid hb1
  obtain ⟨slots, at_, params, regs, ops⟩ := p
  dsimp only at *
  clear hw1 B1 hb1 h1 h2 hn
  go_enter Try.func48, Try.ntmps48
  go_upto_region 1 with fail
  rw [Hw1.out]
  go_wp2_with fail
  refine H.out.mono ?_
  rintro e w2 ⟨rfl, hb2⟩
  have HB2 := Lib.hid (Hb1.out.trans (hb2.mono Hb1.out.size))
  clear H hb2
  rw [← hres.out]
  go_wp2_with fail
  go_ret
  exact ⟨by trivial, HB2.out⟩
end Go.Proofs.Ytabeimmjclkobaa
/- Objects: check values; images are read. -/
namespace Go.Proofs.Ytabeimmjclkobaa
open Go.ChangeShapes Go.WideShapes Go.RowKit

theorem chkN_len (h : Nat) : ∀ k, (Ob.chkN h k).length = k
  | 0 => rfl
  | k + 1 => by unfold Ob.chkN; rw [List.length_append, chkN_len h k]; rfl
set_option maxRecDepth 100000 in
set_option maxHeartbeats 800000 in
theorem sum_any (S : ByteArray) (w : World) (hS : S.size ≤ 1000000000000) :
    Calls Try.prog 45 #[.string S] w fun e w' => e = .returned (.string ⟨(Ob.chk S.data.toList).toArray⟩) ∧ Below w.heap.size w w' := by
  have H := Lib.hid (fingerprint_any S w hS)
  obtain ⟨h, hh⟩ : ∃ h, Ob.fp S.data.toList = h := ⟨_, rfl⟩
  have hlt := Ob.fp_lt S.data.toList
  have hres : Hid (Ob.chk S.data.toList = Ob.chkN h 8) := by show _ = _; unfold Ob.chk; rw [hh]
  rw [hh] at H hlt
  clear hh hS
  go_enter Try.func45, Try.ntmps45
  go_wp2_with fail
  refine H.out.mono ?_
  rintro e w2 ⟨rfl, rfl⟩
  clear H
  go_upto_region 4 with fail
  go_loopw [4, 8] (fun u i wr => ∃ k : Nat, i = .int .i64 k ∧ k ≤ 8 ∧ Hid (wr.ownsRow w2.heap.size 5 1 u k ((Ob.chkN h k).map byteVal)) ∧ Hid (Below w2.heap.size w2 wr)) (fun _ i _ => 8 - (intOf i).toNat)
  case atStart => exact ⟨0, rfl, Nat.zero_le _, World.ownsRow_nil _ _ _ _, Below.refl _ _⟩
  case round =>
    obtain ⟨k, rfl, hk, hO, hB⟩ := hrel
    generalize wr = wk at *
    by_cases hlt8 : k < 8
    · have d1 : decide ((k : Int) < 8) = true := decide_eq_true (by omega)
      have hbyte : Hid ((h : Int) / 2 ^ (8 * (7 - k)) % 256 = ((UInt8.ofNat (h / 256 ^ (7 - k) % 256)).toNat : Int)) := by
        show _ = _
        have e1 : (UInt8.ofNat (h / 256 ^ (7 - k) % 256)).toNat = h / 256 ^ (7 - k) % 256 := Ob.u8_small (Nat.mod_lt _ (by decide))
        have e2 : h / 2 ^ (8 * (7 - k)) % 256 = h / 256 ^ (7 - k) % 256 := by rw [Nat.pow_mul]
        rw [e1, ← e2]
        exact_mod_cast rfl
      obtain ⟨c, hc⟩ : ∃ c : UInt8, UInt8.ofNat (h / 256 ^ (7 - k) % 256) = c := ⟨_, rfl⟩
      have hnext : Hid ((Ob.chkN h (k + 1)).map byteVal = (Ob.chkN h k).map byteVal ++ [Value.int .u8 (c.toNat : Int)]) := by
        show _ = _
        rw [← hc]
        show (Ob.chkN h k ++ [_]).map byteVal = _
        rw [List.map_append]; rfl
      rw [hc] at hbyte
      obtain ⟨wb, hwb, hbv, hbb⟩ := fresh_blk wk [Value.int .u8 (c.toNat : Int)] 5
      have hsrc : Src Try.prog 1 22 (.slice (some ⟨wk.heap.size, 0, none⟩) 1 1) 1 [Value.int .u8 (c.toNat : Int)] wb :=
        Src.ofSlice wb (e' := 5) Try.underlying22 _ 1 1 _ rfl (fun j u hj => by rw [Addr.add_lit, Nat.zero_add]; exact (hbv.cells j).trans hj) (fun u hu => by rw [List.mem_singleton.1 hu]; rfl)
      have Hsrc := Lib.hid hsrc
      have HO3 := Lib.hid (ownsRow_below hO.out hbb)
      have hBb := hB.out.trans (hbb.mono hB.out.size)
      have HBb := Lib.hid hBb
      have hsb : w2.heap.size ≤ wb.heap.size := hBb.size
      clear hsrc hbv hbb hBb hO hc
      go_upto_region 6 with fail
      go_wp2_with (at_builtin; (try rw [hbyte.out]); (try rw [hwb]); refine app_src _ _ 22 22 5 (.int .u8 0) 1 1 rfl rfl Try.underlying22 (by kernel_rfl) rfl (by decide) w2.heap.size HO3.out hsb rfl rfl Hsrc.out (by unfold maxLen; omega) (by omega) ?_)
      intro v9 w9 ho9 hg9
      rw [← hnext.out] at ho9
      have HO9 := Lib.hid ho9
      have HB9 := Lib.hid (below_own HBb.out HO3.out hg9 hsb)
      clear ho9 hg9 hwb
      go_wp2_with fail
      go_roundw
      case rel => exact ⟨k + 1, val_int (by omega), hlt8, HO9, HB9⟩
      case measure => simp [intOf]; omega
    · have d1 : decide ((k : Int) < 8) = false := decide_eq_false (by omega)
      obtain rfl : k = 8 := by omega
      obtain ⟨p9, cap9, rfl, hh9, hcap9⟩ := ownsRow_holds3 hO.out
      have s1 := conv_bytes (P := Try.prog) (w := wk) (n := 8) (cap := cap9) Try.underlying22 Try.underlying5 Try.underlying9 hh9 (chkN_len h 8)
      clear hO hh9
      go_wp2_with fail
      go_ret
      exact ⟨by rw [hres.out]; rfl, hB.out⟩
end Go.Proofs.Ytabeimmjclkobaa
