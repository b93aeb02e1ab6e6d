/- Join: the program's and the reference's. -/
import Derived.Test.YtpjdboebambneabTkB
import Derived.Test.YtpjdboebambneabTkW
import Derived.Test.YtpjdboebambneabTkJP
namespace Go.Proofs.Ytpjdboebambneab
open Go.ChangeShapes Go.WideShapes Go.RowKit

/-- tokens of which kinds and texts are told -/
def JRow (A : Nat → Prop) (w : World) (v : Value) (ts : List (Int × ByteArray)) : Prop :=
  ∃ p cap cs, v = .slice p ts.length cap ∧ Holds A w p cs ∧ cs.length = ts.length * 3 ∧ ∀ k (h : k < ts.length), cs[k * 3]? = some (.int .i64 ts[k].1) ∧ cs[k * 3 + 1]? = some (.string ts[k].2) ∧ ∃ z : Int, cs[k * 3 + 2]? = some (.int .i64 z)
theorem JRow.keep {A : Nat → Prop} {w w' : World} {v : Value} {ts : List (Int × ByteArray)} (h : JRow A w v ts) (hk : Agree A w w') : JRow A w' v ts := by
  obtain ⟨p, cap, cs, hv, hh, r⟩ := h
  exact ⟨p, cap, cs, hv, hh.keep hk, r⟩
theorem JRow.mono {A B : Nat → Prop} {w : World} {v : Value} {ts : List (Int × ByteArray)} (h : JRow A w v ts) (hab : ∀ g, A g → B g) : JRow B w v ts := by
  obtain ⟨p, cap, cs, hv, hh, r⟩ := h
  exact ⟨p, cap, cs, hv, hh.mono hab, r⟩
def jt (t : Tk.Tok) : Int × ByteArray := (t.kind, ⟨t.text.toArray⟩)
theorem TokRow.jrow {A : Nat → Prop} {w : World} {v : Value} {l : List Tk.Tok} (h : TokRow A w v l) : JRow A w v (l.map jt) := by
  obtain ⟨p, cap, rfl, hh⟩ := h
  refine ⟨p, cap, cellsT l, by rw [List.length_map], hh, by rw [cellsT_length, List.length_map], fun k hk => ?_⟩
  rw [List.length_map] at hk
  obtain ⟨h1, h2, h3⟩ := cellsT_at l k hk
  rw [List.getElem_map]
  exact ⟨h1, h2, _, h3⟩

theorem Bld.call {B b : Nat} {bs : List UInt8} {w w' : World} (h : Bld B b bs w) (hb : Below w.heap.size w w') : Bld B b bs w' := by
  have key : ∀ p, Lib.BuilderAt 35 5 B b p (Lib.byteCells bs) w → Lib.BuilderAt 35 5 B b p (Lib.byteCells bs) w' := by
    rintro p ⟨h1, v, h2, h3, h4⟩
    exact ⟨h1, v, by rw [hb.block b (Array.getElem?_eq_some_iff.1 h2).1]; exact h2, ownsRow_below h3 hb, h4⟩
  rcases h with h | h
  · exact .inl (key _ h)
  · exact .inr (key _ h)

def jone (t : Int × ByteArray) : List UInt8 := if t.1 = 0 then [] else t.2.data.toList ++ [10]
def jn (ts : List (Int × ByteArray)) : List UInt8 := ts.flatMap jone
theorem jn_map (l : List Tk.Tok) : jn (l.map jt) = Tk.join l := by
  unfold jn Tk.join
  rw [List.flatMap_map]
  rfl
theorem jn_snoc (ts : List (Int × ByteArray)) (k : Nat) (h : k < ts.length) : jn (ts.take (k + 1)) = jn (ts.take k) ++ jone ts[k] := by
  unfold jn
  rw [List.take_succ_eq_append_getElem h, List.flatMap_append]; simp
theorem jn_le (ts : List (Int × ByteArray)) (k : Nat) : (jn (ts.take k)).length ≤ (jn ts).length := by
  conv => rhs; rw [← List.take_append_drop k ts]
  unfold jn
  rw [List.flatMap_append, List.length_append]; omega
theorem jone_zero {t : Int × ByteArray} (h : t.1 = 0) : jone t = [] := by unfold jone; rw [if_pos h]
theorem jone_other {t : Int × ByteArray} (h : ¬ t.1 = 0) : jone t = t.2.data.toList ++ [10] := by unfold jone; rw [if_neg h]
theorem cat_list (S : ByteArray) : (S ++ ByteArray.mk #[10]).data.toList = S.data.toList ++ [10] := by
  rw [ByteArray.data_append, Array.toList_append]

set_option maxRecDepth 100000 in
set_option maxHeartbeats 3200000 in
theorem join_any {A : Nat → Prop} (v : Value) (ts : List (Int × ByteArray)) (w : World) (hv : JRow A w v ts) (hn : ts.length ≤ 100000) (hl : (jn ts).length ≤ 100000000) :
    Calls Try.prog 6 #[v] w fun e w' => e = .returned (.string ⟨(jn ts).toArray⟩) ∧ Below w.heap.size w w' := by
  obtain ⟨p, cap, cs, rfl, hh, hcl, hc⟩ := hv
  have Hh := Lib.hid hh
  have Hc := Lib.hid hc
  obtain ⟨n, hn0⟩ : ∃ n, ts.length = n := ⟨_, rfl⟩
  rw [hn0] at hcl hn ⊢
  have Hn := Lib.hid hn0
  clear hh hc hn0
  go_enter Try.func6, Try.ntmps6
  go_wp2_with fail
  have hB : Bld w.heap.size w.heap.size [] (w.alloc (.cells #[.pointer none, .slice none 0 0] 35)) := Lib.fresh_isBuilder 35 5 w
  have hb0 := ext_alloc (ext_refl w) (.cells #[.pointer none, .slice none 0 0] 35)
  generalize w.alloc (.cells #[.pointer none, .slice none 0 0] 35) = w1 at *
  have HB := Lib.hid hB
  clear hB
  go_loopw [8] (fun s8 wr => ∃ k : Nat, s8 = .int .i64 k ∧ Hid (k ≤ n) ∧ Hid (Bld w.heap.size w.heap.size (jn (ts.take k)) wr) ∧ Hid (Below w.heap.size w wr)) (fun s8 _ => n - (intOf s8).toNat)
  case atStart => exact ⟨0, rfl, Nat.zero_le _, by rw [List.take_zero]; exact HB, hb0⟩
  case round =>
    obtain ⟨k, rfl, hk, hbd, hbel⟩ := hrel
    have hk1 := hk.out
    by_cases hlt : k < n
    · have hd : decide ((k : Int) < (n : Int)) = true := by simp; omega
      have hkl : k < ts.length := by rw [Hn.out]; exact hlt
      obtain ⟨g0, g1, z, g2⟩ := Hc.out k hkl
      obtain ⟨ga, oa, rfl, _, hga, hca⟩ := Hh.out.at (by omega)
      have hsn := jn_snoc ts k hkl
      have hle := jn_le ts (k + 1)
      obtain ⟨T, hT⟩ : ∃ T, ts[k] = T := ⟨_, rfl⟩
      rw [hT] at g0 g1 hsn
      obtain ⟨kd, S⟩ := T
      have d0 : wr.cell? ⟨ga, oa + k * 3, none⟩ = some (.int .i64 kd) := by rw [hbel.out.cell (p := ⟨ga, oa + k * 3, none⟩) hga]; exact hca _ _ g0
      have d1 : wr.cell? ⟨ga, oa + k * 3 + 1, none⟩ = some (.string S) := by rw [hbel.out.cell (p := ⟨ga, oa + k * 3 + 1, none⟩) hga]; exact hca _ _ g1
      have d2 : wr.cell? ⟨ga, oa + k * 3 + 2, none⟩ = some (.int .i64 z) := by rw [hbel.out.cell (p := ⟨ga, oa + k * 3 + 2, none⟩) hga]; exact hca _ _ g2
      have za : ga < wr.heap.size := Nat.lt_of_lt_of_le hga hbel.out.size
      have Hsn := Lib.hid hsn
      clear hca g0 g1 g2 hT hkl hga hsn
      go_upto_region 5 with fail
      obtain ⟨wa, hwa, HB5, hba⟩ := fresh_blk wr [Value.int IntKind.i64 kd, Value.string S, Value.int IntKind.i64 z] 27
      rw [hwa]
      have c50 := HB5.cells 0
      have c51 := HB5.cells 1
      simp only [List.getElem?_cons_zero, List.getElem?_cons_succ] at c50 c51
      have z5 := HB5.lt
      have hlow : w.heap.size ≤ wr.heap.size := hbel.out.size
      have hlow2 : w.heap.size ≤ wa.heap.size := Nat.le_trans hlow hba.size
      have Hbd := Lib.hid (hbd.out.call hba)
      have Hbl := Lib.hid (hbel.out.trans (hba.mono hlow))
      clear hwa HB5 hba d0 d1 d2 za
      by_cases hkd : kd = 0
      · have hz : ((kd : Int) == 0) = true := by simpa using hkd
        have hz2 : ((kd : Int) != 0) = false := by rw [bne, hz]; rfl
        go_wp2_with fail
        go_roundw
        case rel => exact ⟨k + 1, by simp, hlt, by rw [Hsn.out, jone_zero hkd, List.append_nil]; exact Hbd, Hbl⟩
        case measure => simp [intOf]; omega
      · have hz : ((kd : Int) == 0) = false := by simpa using hkd
        have hz2 : ((kd : Int) != 0) = true := by rw [bne, hz]; rfl
        have hj : jone (kd, S) = S.data.toList ++ [10] := jone_other hkd
        have hlen := congrArg List.length Hsn.out
        rw [List.length_append, hj, List.length_append] at hlen
        have hSl : S.data.toList.length = S.size := by simp
        have h1l : ([10] : List UInt8).length = 1 := rfl
        have hsz : (S ++ ByteArray.mk #[10]).size = S.size + 1 := by rw [ByteArray.size_append]; rfl
        have hSm : S.size + 1 ≤ 100000000 := by omega
        have hcat : (9223372036854775807 < S.size + 1) = False := eq_false (by omega)
        have hlen2 : (jn (List.take k ts)).length + (S ++ ByteArray.mk #[10]).size ≤ 140737488355328 := by omega
        clear hlen hSl h1l hj
        go_wp2_with (go_at_call 11; refine (write_any w.heap.size w.heap.size _ _ _ Hbd.out hlen2 hlow2).mono ?_; rintro e w' ⟨rfl, hbw, hb'⟩)
        go_roundw
        case rel => exact ⟨k + 1, by simp, hlt, by rw [Hsn.out, jone_other hkd, ← cat_list]; exact hbw, Hbl.out.trans hb'⟩
        case measure => simp [intOf]; omega
    · have hd : decide ((k : Int) < (n : Int)) = false := by simp; omega
      have hkn : k = n := by omega
      have hlow : w.heap.size ≤ wr.heap.size := hbel.out.size
      have htk := hbd.out
      rw [List.take_of_length_le (by rw [Hn.out]; omega)] at htk
      go_wp2_with (go_at_call 12; refine (Try.Builder_String_any w.heap.size w.heap.size _ _ htk hlow).mono ?_; rintro e w' ⟨rfl, hb'⟩)
      go_ret
      exact ⟨rfl, hbel.out.trans hb'⟩

set_option maxRecDepth 100000 in
set_option maxHeartbeats 3200000 in
theorem rjoin_any {A : Nat → Prop} (v : Value) (ts : List (Int × ByteArray)) (w : World) (hv : JRow A w v ts) (hn : ts.length ≤ 100000) (hl : (jn ts).length ≤ 100000000) :
    Calls Try.prog 7 #[v] w fun e w' => e = .returned (.string ⟨(jn ts).toArray⟩) ∧ Below w.heap.size w w' := by
  obtain ⟨p, cap, cs, rfl, hh, hcl, hc⟩ := hv
  have Hh := Lib.hid hh
  have Hc := Lib.hid hc
  obtain ⟨n, hn0⟩ : ∃ n, ts.length = n := ⟨_, rfl⟩
  rw [hn0] at hcl hn ⊢
  have Hn := Lib.hid hn0
  clear hh hc hn0
  go_enter Try.func7, Try.ntmps7
  go_wp2_with fail
  go_loopw [3, 4] (fun s3 s4 wr => ∃ (k : Nat) (D : ByteArray), s4 = .int .i64 k ∧ s3 = .string D ∧ Hid (k ≤ n) ∧ Hid (D.data.toList = jn (ts.take k)) ∧ Hid (w = wr)) (fun _ s4 _ => n - (intOf s4).toNat)
  case atStart => exact ⟨0, ⟨#[]⟩, rfl, rfl, Nat.zero_le _, by rw [List.take_zero]; rfl, rfl⟩
  case round =>
    obtain ⟨k, D, rfl, rfl, hk, hbd, hwr⟩ := hrel
    have hwr2 := hwr.out
    subst hwr2
    have hk1 := hk.out
    by_cases hlt : k < n
    · have hd : decide ((k : Int) < (n : Int)) = true := by simp; omega
      have hkl : k < ts.length := by rw [Hn.out]; exact hlt
      obtain ⟨g0, g1, z, g2⟩ := Hc.out k hkl
      obtain ⟨ga, oa, rfl, _, hga, hca⟩ := Hh.out.at (by omega)
      have hsn := jn_snoc ts k hkl
      have hle := jn_le ts (k + 1)
      obtain ⟨T, hT⟩ : ∃ T, ts[k] = T := ⟨_, rfl⟩
      rw [hT] at g0 g1 hsn
      obtain ⟨kd, S⟩ := T
      have d0 : w.cell? ⟨ga, oa + k * 3, none⟩ = some (.int .i64 kd) := hca _ _ g0
      have d1 : w.cell? ⟨ga, oa + k * 3 + 1, none⟩ = some (.string S) := hca _ _ g1
      have Hsn := Lib.hid hsn
      clear hca g0 g1 g2 hT hkl hsn
      by_cases hkd : kd = 0
      · have hz : ((kd : Int) == 0) = true := by simpa using hkd
        have hz2 : ((kd : Int) != 0) = false := by rw [bne, hz]; rfl
        go_wp2_with fail
        go_roundw
        case rel => exact ⟨k + 1, D, by simp, rfl, hlt, by show _ = _; rw [Hsn.out, jone_zero hkd, List.append_nil]; exact hbd.out, True.intro⟩
        case measure => simp [intOf]; omega
      · have hz : ((kd : Int) == 0) = false := by simpa using hkd
        have hz2 : ((kd : Int) != 0) = true := by rw [bne, hz]; rfl
        have hj : jone (kd, S) = S.data.toList ++ [10] := jone_other hkd
        have hlen := congrArg List.length Hsn.out
        rw [List.length_append, hj, List.length_append, ← hbd.out] at hlen
        have hSl : S.data.toList.length = S.size := by simp
        have hDl : D.data.toList.length = D.size := by simp
        have h1l : ([10] : List UInt8).length = 1 := rfl
        have hsz : (S ++ ByteArray.mk #[10]).size = S.size + 1 := by rw [ByteArray.size_append]; rfl
        have hSm : D.size + (S.size + 1) ≤ 100000000 := by omega
        have hcat : (9223372036854775807 < S.size + 1) = False := eq_false (by omega)
        clear hlen hSl h1l hj hDl
        go_wp2_with fail
        go_roundw
        case rel => exact ⟨k + 1, _, by simp, rfl, hlt, by show _ = _; rw [Hsn.out, jone_other hkd, ← cat_list, ByteArray.data_append, Array.toList_append, hbd.out], True.intro⟩
        case measure => simp [intOf]; omega
    · have hd : decide ((k : Int) < (n : Int)) = false := by simp; omega
      have hkn : k = n := by omega
      have htk := hbd.out
      rw [List.take_of_length_le (by rw [Hn.out]; omega)] at htk
      go_wp2_with fail
      go_ret
      refine ⟨?_, ext_refl w⟩
      rw [← htk]
      rfl
end Go.Proofs.Ytpjdboebambneab
