/- The program's Tokens. -/
import Derived.Test.YtpjdboebambneaaTkN
namespace Go.Proofs.Ytpjdboebambneaa
open Go.ChangeShapes Go.WideShapes Go.RowKit

def tokCells (t : Tk.Tok) : List Value := [.int .i64 t.kind, .string ⟨t.text.toArray⟩, .int .i64 t.at_]
def cellsT (l : List Tk.Tok) : List Value := l.flatMap tokCells
theorem cellsT_snoc (l : List Tk.Tok) (t : Tk.Tok) : cellsT (l ++ [t]) = cellsT l ++ tokCells t := by
  unfold cellsT; rw [List.flatMap_append]; simp
theorem cellsT_length (l : List Tk.Tok) : (cellsT l).length = l.length * 3 := by
  induction l with
  | nil => rfl
  | cons t r ih =>
    show (tokCells t ++ cellsT r).length = _
    rw [List.length_append, ih, List.length_cons]
    show 3 + _ = _; omega
theorem tokCells_one (t : Tk.Tok) : ∀ u ∈ tokCells t, u.oneCell' = true := by
  intro u hu
  simp only [tokCells, List.mem_cons, List.not_mem_nil, or_false] at hu
  rcases hu with rfl | rfl | rfl <;> rfl

theorem tokOf_parts (l : List UInt8) (k : Nat) (hk : k < l.length) : ∃ (kd : Int) (S : ByteArray), tokVal (tokOf l k) = .agg #[.int .i64 kd, .string S, .int .i64 k] ∧ tokCells (tokOf l k) = [.int .i64 kd, .string S, .int .i64 k] ∧ S.size = Tk.tokLen (l.drop k) := by
  refine ⟨_, _, rfl, rfl, ?_⟩
  have := Tk.tokLen_at hk
  show ((l.drop k).take _).toArray.size = _
  simp; omega
theorem toksAt_of {l : List UInt8} {k : Nat} (hk : k < l.length) (h : Tk.step (l.drop k) = 0) : Tk.toksAt l k = tokOf l k :: Tk.toksAt l (k + Tk.tokLen (l.drop k)) := Tk.toksAt_tok l hk h

/-- the row of tokens that is being made -/
structure TS (w0 wr : World) (l : List UInt8) (k : Nat) (v : Value) (n : Nat) (out : List Tk.Tok) : Prop where
  own : wr.ownsRow w0.heap.size 74 3 v n (cellsT out)
  len : out.length = n
  le : n ≤ k
  all : out ++ Tk.toksAt l k = Tk.toksAt l 0
  bel : Below w0.heap.size w0 wr

set_option maxRecDepth 100000 in
set_option maxHeartbeats 1600000 in
theorem tokens_any (s : ByteArray) (w : World) (hs : s.size ≤ 20000) :
    Calls Try.prog 43 #[.string s] w fun e w' => ∃ v, e = .returned v ∧ w'.ownsRow w.heap.size 74 3 v (Tk.toksAt s.data.toList 0).length (cellsT (Tk.toksAt s.data.toList 0)) ∧ Below w.heap.size w w' := by
  have Hlen : Hid (s.data.toList.length = s.size) := by show _ = _; simp
  have hd0 : decide ((s.size : Int) > 20000) = false := by simp; omega
  have hd01 : decide ((20000 : Int) < (s.size : Int)) = false := by simp; omega
  go_enter Try.func43, Try.ntmps43
  go_wp2_with (go_at_call 62; refine (skip_any s 0 _ (Nat.zero_le _) (by omega)).mono ?_; rintro e w' ⟨k, rfl, hk, hk2, rfl⟩)
  clear hd0 hd01
  go_loopw [3, 4] (fun s3 s4 wr => ∃ (k n : Nat) (out : List Tk.Tok), s4 = .int .i64 k ∧ Hid (TS w wr s.data.toList k s3 n out) ∧ Hid (k < s.size → Tk.step (s.data.toList.drop k) = 0) ∧ Hid (k ≤ s.size)) (fun _ s4 _ => s.size - (intOf s4).toNat)
  case atStart =>
    refine ⟨k, 0, [], rfl, ⟨World.ownsRow_nil _ _ _ _, rfl, Nat.zero_le _, ?_, ext_refl w⟩, hk2, by have := hk.2.1; rw [Hlen.out] at this; exact this⟩
    rw [List.nil_append]; exact hk.2.2
  case round =>
    rename_i v
    obtain ⟨k, n, out, rfl, hT, hst, hks⟩ := hrel
    have hks2 := hks.out
    by_cases hlt : k < s.size
    · have hd : decide ((k : Int) < (s.size : Int)) = true := by simp; omega
      have Hkl : Hid (k < s.data.toList.length) := by show _ < _; rw [Hlen.out]; exact hlt
      obtain ⟨kd, S, hv, hc, hS⟩ := tokOf_parts s.data.toList k Hkl.out
      have hkS := Tk.tokLen_at Hkl.out
      have hSp := Tk.tokLen_pos (s.data.toList.drop k)
      rw [← hS] at hkS hSp
      rw [Hlen.out] at hkS
      have htl := toksAt_of Hkl.out (hst.out hlt)
      rw [← hS] at htl
      have Htl := Lib.hid htl
      have Hv := Lib.hid hv
      have Hc := Lib.hid hc
      clear hv hc hS htl
      go_upto_region 7 with (go_at_call 63; refine (next_any s k _ hlt (by omega)).mono ?_; rintro e w' ⟨rfl, hbn⟩; rw [Hv.out])
      obtain ⟨wa, hwa, HB5, hba⟩ := fresh_blk w' [Value.int IntKind.i64 kd, Value.string S, Value.int IntKind.i64 k] 74
      rw [hwa]
      obtain ⟨g5, hg5⟩ : ∃ g, w'.heap.size = g := ⟨_, rfl⟩
      rw [hg5] at HB5 ⊢
      have hg5w : wr.heap.size ≤ g5 := by rw [← hg5]; exact hbn.size
      have hwra := ext_trans hbn hba
      have c50 := HB5.cells 0
      have c51 := HB5.cells 1
      have c52 := HB5.cells 2
      simp only [List.getElem?_cons_zero, List.getElem?_cons_succ] at c50 c51 c52
      obtain ⟨wb, hwb, HB6, hbb⟩ := fresh_blk wa [Value.int IntKind.i64 kd, Value.string S, Value.int IntKind.i64 k] 74
      have hsrc : Src Try.prog 3 68 (.slice (some ⟨wa.heap.size, 0, none⟩) 1 1) 1 (tokCells (tokOf s.data.toList k)) wb :=
        Src.ofSlice wb (e' := 74) Try.underlying68 _ 1 1 _ (by rw [Hc.out]; rfl) (fun j u hj => by rw [Addr.add_lit, Nat.zero_add]; exact (HB6.cells j).trans (by rw [← hj, Hc.out])) (tokCells_one _)
      have hown := ownsRow_below hT.out.own (ext_trans hwra hbb)
      have hbelb : Below w.heap.size w wb := ext_trans hT.out.bel (ext_trans hwra hbb)
      have HB5b := Lib.hid (HB5.call hbb)
      have hbig := hbelb.size
      have Hbelb := Lib.hid hbelb
      have Hsrc := Lib.hid hsrc
      have Hown := Lib.hid hown
      have hnk := hT.out.le
      have hg5b : g5 < wb.heap.size := HB5b.out.lt
      have hownlt := Lib.hid hT.out.own.lt
      clear hsrc hown hbelb HB6 hbb hba hbn hwa hg5 hwra
      go_upto_region 8 with (at_builtin; (try rw [hwb]); refine app_at _ _ 68 68 74 (.agg #[.int .i64 0, .string ⟨#[]⟩, .int .i64 0]) 3 32 rfl rfl Try.underlying68 (by kernel_rfl) rfl (by decide) w.heap.size Hown.out hbig rfl rfl Hsrc.out ?c1 ?c2 ?_)
      case c1 => unfold maxLen; omega
      case c2 => omega
      intro vd wd Ho Hg hat
      have hlo : some g5 ≠ u3.ownBlock := fun e => by have := (hownlt.out _ e.symm).2; omega
      have B5d := HB5b.out.keep (agree_grown Hg (fun b hb => hb)) Hg.size hlo
      have d51 := B5d.cells 1
      simp only [List.getElem?_cons_zero, List.getElem?_cons_succ] at d51
      have z5 := B5d.lt
      have hbd := below_own Hbelb.out Hown.out Hg hbig
      have hTS : TS w wd s.data.toList (k + S.size) vd (n + 1) (out ++ [tokOf s.data.toList k]) :=
        ⟨by rw [cellsT_snoc]; exact Ho, by rw [List.length_append, hT.out.len]; rfl, by omega, by rw [List.append_assoc, List.singleton_append, ← Htl.out]; exact hT.out.all, hbd⟩
      have HTS := Lib.hid hTS
      clear hTS hbd B5d hlo Ho Hg hat Hsrc Hown Hbelb hownlt HB5b HB5 c50 c51 c52 hwb
      go_wp2_with (go_at_call 62; rw [show ((k : Int) + (S.size : Int)) = ((k + S.size : Nat) : Int) from (by simp)]; refine (skip_any s (k + S.size) _ (by omega) (by omega)).mono ?_; rintro e w' ⟨k2, rfl, hk3, hk4, rfl⟩)
      go_roundw
      case rel =>
        refine ⟨k2, n + 1, _, rfl, ⟨HTS.out.own, HTS.out.len, ?_, ?_, HTS.out.bel⟩, hk4, ?_⟩
        · have := HTS.out.le; have := hk3.1; omega
        · rw [hk3.2.2]; exact HTS.out.all
        · have := hk3.2.1; rw [Hlen.out] at this; exact this
      case measure => have := hk3.1; simp [intOf]; omega
    · have hd : decide ((k : Int) < (s.size : Int)) = false := by simp; omega
      have hks3 : k = s.size := by omega
      have hend := Tk.toksAt_end (l := s.data.toList) (p := k) (by rw [Hlen.out]; exact hks3)
      have Hend := Lib.hid hend
      clear hend
      obtain ⟨wb, hwb, HB6, hbb⟩ := fresh_blk wr [Value.int IntKind.i64 0, Value.string ⟨#[]⟩, Value.int IntKind.i64 s.size] 74
      have hcv : tokCells ⟨0, [], k⟩ = [Value.int IntKind.i64 0, Value.string ⟨#[]⟩, Value.int IntKind.i64 s.size] := by rw [hks3]; rfl
      have hsrc : Src Try.prog 3 68 (.slice (some ⟨wr.heap.size, 0, none⟩) 1 1) 1 (tokCells ⟨0, [], k⟩) wb :=
        Src.ofSlice wb (e' := 74) Try.underlying68 _ 1 1 _ rfl (fun j u hj => by rw [Addr.add_lit, Nat.zero_add]; exact (HB6.cells j).trans (by rw [← hj, hcv])) (tokCells_one _)
      have hown := ownsRow_below hT.out.own hbb
      have hbelb : Below w.heap.size w wb := ext_trans hT.out.bel hbb
      have hbig := hbelb.size
      have Hbelb := Lib.hid hbelb
      have Hsrc := Lib.hid hsrc
      have Hown := Lib.hid hown
      have hnk := hT.out.le
      clear hsrc hown hbelb HB6 hbb hcv
      go_wp2_with (at_builtin; (try rw [hwb]); refine app_at _ _ 68 68 74 (.agg #[.int .i64 0, .string ⟨#[]⟩, .int .i64 0]) 3 32 rfl rfl Try.underlying68 (by kernel_rfl) rfl (by decide) w.heap.size Hown.out hbig rfl rfl Hsrc.out ?c1 ?c2 ?_)
      case c1 => unfold maxLen; omega
      case c2 => omega
      intro vd wd Ho Hg hat
      go_wp2_with fail
      go_ret
      refine ⟨vd, rfl, ?_, below_own Hbelb.out Hown.out Hg hbig⟩
      try rw [← hks3] at Ho
      rw [← hT.out.all, Hend.out, cellsT_snoc, List.length_append, hT.out.len]
      exact Ho

theorem tokens_long (s : ByteArray) (w : World) (hs : 20000 < s.size) :
    Calls Try.prog 43 #[.string s] w fun e w' => e = .returned (.slice none 0 0) ∧ w = w' := by
  have hd0 : decide ((s.size : Int) > 20000) = true := by simp; omega
  have hd01 : decide ((20000 : Int) < (s.size : Int)) = true := by simp; omega
  go_enter Try.func43, Try.ntmps43
  go_wp2_with fail
  go_ret
  exact ⟨rfl, rfl⟩
end Go.Proofs.Ytpjdboebambneaa
