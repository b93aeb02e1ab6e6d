/- Objects: check values; images are read. -/
import Derived.Test.YtabeimmjclkobaaObJ
import Derived.Test.YtabeimmjclkobaaObF
namespace Go.Proofs.Ytabeimmjclkobaa
open Go.ChangeShapes Go.WideShapes Go.RowKit

theorem chkN_len (h : Nat) : ∀ k, (Ob.chkN h k).length = k
  | 0 => rfl
  | k + 1 => by unfold Ob.chkN; rw [List.length_append, chkN_len h k]; rfl
set_option maxRecDepth 100000 in
set_option maxHeartbeats 800000 in
theorem sum_any (S : ByteArray) (w : World) (hS : S.size ≤ 1000000000000) :
    Calls Try.prog 45 #[.string S] w fun e w' => e = .returned (.string ⟨(Ob.chk S.data.toList).toArray⟩) ∧ Below w.heap.size w w' := by
  have H := Lib.hid (fingerprint_any S w hS)
  obtain ⟨h, hh⟩ : ∃ h, Ob.fp S.data.toList = h := ⟨_, rfl⟩
  have hlt := Ob.fp_lt S.data.toList
  have hres : Hid (Ob.chk S.data.toList = Ob.chkN h 8) := by show _ = _; unfold Ob.chk; rw [hh]
  rw [hh] at H hlt
  clear hh hS
  go_enter Try.func45, Try.ntmps45
  go_wp2_with fail
  refine H.out.mono ?_
  rintro e w2 ⟨rfl, rfl⟩
  clear H
  go_upto_region 4 with fail
  go_loopw [4, 8] (fun u i wr => ∃ k : Nat, i = .int .i64 k ∧ k ≤ 8 ∧ Hid (wr.ownsRow w2.heap.size 5 1 u k ((Ob.chkN h k).map byteVal)) ∧ Hid (Below w2.heap.size w2 wr)) (fun _ i _ => 8 - (intOf i).toNat)
  case atStart => exact ⟨0, rfl, Nat.zero_le _, World.ownsRow_nil _ _ _ _, Below.refl _ _⟩
  case round =>
    obtain ⟨k, rfl, hk, hO, hB⟩ := hrel
    generalize wr = wk at *
    by_cases hlt8 : k < 8
    · have d1 : decide ((k : Int) < 8) = true := decide_eq_true (by omega)
      have hbyte : Hid ((h : Int) / 2 ^ (8 * (7 - k)) % 256 = ((UInt8.ofNat (h / 256 ^ (7 - k) % 256)).toNat : Int)) := by
        show _ = _
        have e1 : (UInt8.ofNat (h / 256 ^ (7 - k) % 256)).toNat = h / 256 ^ (7 - k) % 256 := Ob.u8_small (Nat.mod_lt _ (by decide))
        have e2 : h / 2 ^ (8 * (7 - k)) % 256 = h / 256 ^ (7 - k) % 256 := by rw [Nat.pow_mul]
        rw [e1, ← e2]
        exact_mod_cast rfl
      obtain ⟨c, hc⟩ : ∃ c : UInt8, UInt8.ofNat (h / 256 ^ (7 - k) % 256) = c := ⟨_, rfl⟩
      have hnext : Hid ((Ob.chkN h (k + 1)).map byteVal = (Ob.chkN h k).map byteVal ++ [Value.int .u8 (c.toNat : Int)]) := by
        show _ = _
        rw [← hc]
        show (Ob.chkN h k ++ [_]).map byteVal = _
        rw [List.map_append]; rfl
      rw [hc] at hbyte
      obtain ⟨wb, hwb, hbv, hbb⟩ := fresh_blk wk [Value.int .u8 (c.toNat : Int)] 5
      have hsrc : Src Try.prog 1 22 (.slice (some ⟨wk.heap.size, 0, none⟩) 1 1) 1 [Value.int .u8 (c.toNat : Int)] wb :=
        Src.ofSlice wb (e' := 5) Try.underlying22 _ 1 1 _ rfl (fun j u hj => by rw [Addr.add_lit, Nat.zero_add]; exact (hbv.cells j).trans hj) (fun u hu => by rw [List.mem_singleton.1 hu]; rfl)
      have Hsrc := Lib.hid hsrc
      have HO3 := Lib.hid (ownsRow_below hO.out hbb)
      have hBb := hB.out.trans (hbb.mono hB.out.size)
      have HBb := Lib.hid hBb
      have hsb : w2.heap.size ≤ wb.heap.size := hBb.size
      clear hsrc hbv hbb hBb hO hc
      go_upto_region 6 with fail
      go_wp2_with (at_builtin; (try rw [hbyte.out]); (try rw [hwb]); refine app_src _ _ 22 22 5 (.int .u8 0) 1 1 rfl rfl Try.underlying22 (by kernel_rfl) rfl (by decide) w2.heap.size HO3.out hsb rfl rfl Hsrc.out (by unfold maxLen; omega) (by omega) ?_)
      intro v9 w9 ho9 hg9
      rw [← hnext.out] at ho9
      have HO9 := Lib.hid ho9
      have HB9 := Lib.hid (below_own HBb.out HO3.out hg9 hsb)
      clear ho9 hg9 hwb
      go_wp2_with fail
      go_roundw
      case rel => exact ⟨k + 1, val_int (by omega), hlt8, HO9, HB9⟩
      case measure => simp [intOf]; omega
    · have d1 : decide ((k : Int) < 8) = false := decide_eq_false (by omega)
      obtain rfl : k = 8 := by omega
      obtain ⟨p9, cap9, rfl, hh9, hcap9⟩ := ownsRow_holds3 hO.out
      have s1 := conv_bytes (P := Try.prog) (w := wk) (n := 8) (cap := cap9) Try.underlying22 Try.underlying5 Try.underlying9 hh9 (chkN_len h 8)
      clear hO hh9
      go_wp2_with fail
      go_ret
      exact ⟨by rw [hres.out]; rfl, hB.out⟩
end Go.Proofs.Ytabeimmjclkobaa
