/- Reach: ref06.Put, ref16.Step. -/
import Derived.Test.YtggpjbjeaekifaaRcN
namespace Go.Rc
theorem put_norm (l : List Str) (s : Str) : putL (norm l) s = norm (l ++ [s]) := (put_law (norm_norm l) s).trans (norm_eq fun t => by rw [List.mem_append, List.mem_append, mem_norm])
theorem norm_short (l : List Str) : (norm l).length ≤ l.length := nodup_length (nodup_norm l) fun s hs => mem_norm.1 hs
end Go.Rc
namespace Go.Proofs.Ytggpjbjeaekifaa
open Go.ChangeShapes Go.WideShapes Go.RowKit

theorem rput_any {A : Nat → Prop} (v : Value) (l : List Rc.Str) (S : ByteArray) (w : World) (hv : SRow A w v l) (hn : l.length ≤ 4000000) :
    Calls Try.prog 26 #[v, .string S] w fun e w' => ∃ v', e = .returned v' ∧ Below w.heap.size w w' ∧ SRow (fun g => A g ∨ w.heap.size ≤ g) w' v' (Rc.putL l S.data.toList) := by
  have H := Lib.hid (put_any v l S w hv hn)
  obtain ⟨p, c, rfl⟩ := hv.parts
  clear hv
  go_enter Try.func26, Try.ntmps26
  go_wp2_with fail
  refine H.out.mono ?_
  rintro e w2 ⟨v2, rfl, hb2, hs2⟩
  have HB := Lib.hid hb2
  have HS := Lib.hid hs2
  clear hb2 hs2
  go_wp2_with fail
  go_ret
  exact ⟨v2, rfl, HB.out, HS.out⟩

set_option maxRecDepth 100000 in
set_option maxHeartbeats 1600000 in
theorem rstep_gen {A B : Nat → Prop} (cv ov : Value) (calls : List Rc.Str) (others : List (List Rc.Str)) (w : World) (hc : SRow A w cv calls) (ho : LRow B w ov others) (U : List Rc.Str) (hU : U.length ≤ 4000000) (hUs : ∀ s ∈ (calls :: others).flatten, s ∈ U) (hcn : calls.length ≤ 4000000) (hxn : ∀ x ∈ others, x.length ≤ 4000000) (hk : others.length ≤ 4000000) :
    Calls Try.prog 12 #[cv, ov] w fun e w' => ∃ v, e = .returned v ∧ SRow (w.heap.size ≤ ·) w' v (Rc.norm (calls :: others).flatten) ∧ Below w.heap.size w w' := by
  rw [List.flatten_cons] at hUs
  rw [List.flatten_cons]
  replace hc := hc.lt.mono (B := (· < w.heap.size)) fun g hg => hg.2
  replace ho := ho.lt.mono (B := (· < w.heap.size)) fun g hg => hg.2
  clear A B
  obtain ⟨pc, cc, rfl⟩ := hc.parts
  obtain ⟨po, co, rfl⟩ := ho.parts
  obtain ⟨n, hn⟩ : ∃ n, calls.length = n := ⟨_, rfl⟩
  obtain ⟨m, hm⟩ : ∃ m, others.length = m := ⟨_, rfl⟩
  rw [hn] at hc ⊢
  rw [hm] at ho hk ⊢
  have hn1 : n ≤ 4000000 := by omega
  have HU : Hid (∀ L : List Rc.Str, (∀ s ∈ L, s ∈ calls ++ others.flatten) → (Rc.norm L).length ≤ 4000000) := fun L hL => Nat.le_trans (Rc.nodup_length (Rc.nodup_norm L) fun s hs => hUs s (hL s (Rc.mem_norm.1 hs))) hU
  have HX := Lib.hid hxn
  have HC := Lib.hid hc
  have HO := Lib.hid ho
  have HN := Lib.hid hn
  have HM := Lib.hid hm
  clear hc ho hn hm hU hUs hxn hcn
  go_enter Try.func12, Try.ntmps12
  go_upto_region 3 with fail
  go_loopw [5, 6] (fun v5 i wr => ∃ k : Nat, i = .int .i64 k ∧ k ≤ n ∧ Hid (SRow (w.heap.size ≤ ·) wr v5 (Rc.norm (calls.take k))) ∧ Hid (Below w.heap.size w wr)) (fun _ i _ => n - (intOf i).toNat)
  case atStart => exact ⟨0, rfl, Nat.zero_le _, by rw [List.take_zero, show Rc.norm [] = [] by simp [Rc.norm]]; exact SRow.nil _ _, Below.refl _ _⟩
  case round =>
    obtain ⟨k, rfl, hkn, hS, hB⟩ := hrel
    generalize wr = wk at *
    by_cases hlt : k < n
    · have d1 : decide ((k : Int) < (n : Int)) = true := decide_eq_true (by omega)
      have hkl : k < calls.length := by rw [HN.out]; exact hlt
      obtain ⟨s, hs⟩ : ∃ s, calls[k] = s := ⟨_, rfl⟩
      have hck : calls[k]? = some s := by rw [← hs]; exact List.getElem?_eq_getElem hkl
      obtain ⟨gs, os, rfl, _, hgs, hq, hcs⟩ := (HC.out.keep (agree_below hB.out)).at hlt
      clear hq
      have hcj := hcs k s hck
      obtain ⟨S, hS2⟩ : ∃ S : ByteArray, ⟨s.toArray⟩ = S := ⟨_, rfl⟩
      unfold strVal at hcj
      rw [hS2] at hcj
      have HSd : Hid (Rc.putL (Rc.norm (calls.take k)) S.data.toList = Rc.norm (calls.take (k + 1))) := by
        show _ = _
        rw [Rc.put_norm, List.take_succ_eq_append_getElem hkl, hs, ← hS2]
      have H := Lib.hid (rput_any u5 _ S wk hS.out (HU.out _ fun s hs => List.mem_append_left _ (List.mem_of_mem_take hs)))
      clear hcs hs hck hS2
      obtain ⟨p5, c5, rfl⟩ := hS.out.parts
      go_wp2_with fail
      refine H.out.mono ?_
      rintro e w2 ⟨v2, rfl, hb2, hs2⟩
      have HS2 : Hid (SRow (w.heap.size ≤ ·) w2 v2 (Rc.norm (calls.take (k + 1)))) := by
        have h1 := hB.out.size
        show SRow (w.heap.size ≤ ·) w2 v2 (Rc.norm (calls.take (k + 1)))
        rw [← HSd.out]
        exact hs2.mono fun g hg => hg.elim id fun h => by omega
      have HB2 := Lib.hid (hB.out.trans (hb2.mono hB.out.size))
      clear hb2 hs2 hcj hgs H
      go_wp2_with fail
      go_roundw
      case rel => exact ⟨k + 1, val_int (by omega), hlt, HS2, HB2⟩
      case measure => simp [intOf]; omega
    · have d1 : decide ((k : Int) < (n : Int)) = false := decide_eq_false (by omega)
      have HS0 : Hid (SRow (w.heap.size ≤ ·) wk u5 (Rc.norm calls)) := by
        have h1 := hS.out
        rw [List.take_of_length_le (by rw [HN.out]; omega)] at h1
        exact h1
      clear hS
      go_upto_region 7 with fail
      clear d1
      go_loopw [5, 7] (fun v5 i wr => ∃ k : Nat, i = .int .i64 k ∧ k ≤ m ∧ Hid (SRow (w.heap.size ≤ ·) wr v5 (Rc.norm (calls ++ (others.take k).flatten))) ∧ Hid (Below w.heap.size w wr)) (fun _ i _ => m - (intOf i).toNat)
      case atStart => exact ⟨0, rfl, Nat.zero_le _, by rw [List.take_zero, List.flatten_nil, List.append_nil]; exact HS0.out, hB⟩
      case round =>
        obtain ⟨t, rfl, htm, hS, hBt⟩ := hrel
        generalize wr = wt at *
        by_cases htl : t < m
        · have d2 : decide ((t : Int) < (m : Int)) = true := decide_eq_true (by omega)
          have htlen : t < others.length := by rw [HM.out]; exact htl
          obtain ⟨x, hxx⟩ : ∃ x, others[t] = x := ⟨_, rfl⟩
          have hx : others[t]? = some x := by rw [← hxx]; exact List.getElem?_eq_getElem htlen
          obtain ⟨g, o, u, rfl, hAg, hg, hq1, hcu, hsu⟩ := HO.out.at hx
          clear hq1
          obtain ⟨pu, cu, rfl⟩ := hsu.parts
          obtain ⟨q, hq⟩ : ∃ q, x.length = q := ⟨_, rfl⟩
          rw [hq] at hcu hsu
          have Hx := Lib.hid hx
          have Hq := Lib.hid hq
          have Hsu := Lib.hid hsu
          have Hcu := Lib.hid hcu
          have hq6 : q ≤ 4000000 := by rw [← hq]; exact HX.out x (List.mem_of_getElem? hx)
          clear hx hxx hq hsu hcu htlen
          go_upto_region 10 with fail
          clear d2
          go_loopw [5, 8] (fun v5 i wr => ∃ k : Nat, i = .int .i64 k ∧ k ≤ q ∧ Hid (SRow (w.heap.size ≤ ·) wr v5 (Rc.norm (calls ++ ((others.take t).flatten ++ x.take k)))) ∧ Hid (Below w.heap.size w wr)) (fun _ i _ => q - (intOf i).toNat)
          case atStart => exact ⟨0, rfl, Nat.zero_le _, by rw [List.take_zero, List.append_nil]; exact hS.out, hBt⟩
          case round =>
            obtain ⟨j, rfl, hjq, hSj, hBj⟩ := hrel
            have ecu : wr.cell? ⟨g, o + t, none⟩ = some (.slice pu q cu) := (hBj.out.cell (p := ⟨g, o + t, none⟩) hg).trans Hcu.out
            have eg : g < wr.heap.size := Nat.lt_of_lt_of_le hg hBj.out.size
            by_cases hjl : j < q
            · have d3 : decide ((j : Int) < (q : Int)) = true := decide_eq_true (by omega)
              have hjx : j < x.length := by rw [Hq.out]; exact hjl
              obtain ⟨s, hs⟩ : ∃ s, x[j] = s := ⟨_, rfl⟩
              have hck : x[j]? = some s := by rw [← hs]; exact List.getElem?_eq_getElem hjx
              obtain ⟨gs, os, rfl, _, hgs, hq2, hcs⟩ := (Hsu.out.keep (agree_below hBj.out)).at hjl
              clear hq2
              have hcj := hcs j s hck
              obtain ⟨S, hS2⟩ : ∃ S : ByteArray, ⟨s.toArray⟩ = S := ⟨_, rfl⟩
              unfold strVal at hcj
              rw [hS2] at hcj
              have HSd : Hid (Rc.putL (Rc.norm (calls ++ ((others.take t).flatten ++ x.take j))) S.data.toList = Rc.norm (calls ++ ((others.take t).flatten ++ x.take (j + 1)))) := by
                show _ = _
                rw [Rc.put_norm, List.take_succ_eq_append_getElem hjx, hs, ← hS2, List.append_assoc, List.append_assoc]
              have H := Lib.hid (rput_any u5 _ S wr hSj.out (HU.out _ fun s hs => by
                rcases List.mem_append.1 hs with h | h
                · exact List.mem_append_left _ h
                · refine List.mem_append_right _ ?_
                  rcases List.mem_append.1 h with h | h
                  · obtain ⟨y, hy, hs⟩ := List.mem_flatten.1 h
                    exact List.mem_flatten.2 ⟨y, List.mem_of_mem_take hy, hs⟩
                  · exact List.mem_flatten.2 ⟨x, List.mem_of_getElem? Hx.out, List.mem_of_mem_take h⟩))
              clear hcs hs hck hS2
              obtain ⟨p5, c5, rfl⟩ := hSj.out.parts
              go_wp2_with fail
              refine H.out.mono ?_
              rintro e w2 ⟨v2, rfl, hb2, hs2⟩
              have HS2 : Hid (SRow (w.heap.size ≤ ·) w2 v2 (Rc.norm (calls ++ ((others.take t).flatten ++ x.take (j + 1))))) := by
                have h1 := hBj.out.size
                show SRow (w.heap.size ≤ ·) w2 v2 _
                rw [← HSd.out]
                exact hs2.mono fun g hg => hg.elim id fun h => by omega
              have HB2 := Lib.hid (hBj.out.trans (hb2.mono hBj.out.size))
              clear hb2 hs2 hcj hgs H ecu eg
              go_wp2_with fail
              go_roundw
              case rel => exact ⟨j + 1, val_int (by omega), hjl, HS2, HB2⟩
              case measure => simp [intOf]; omega
            · have d3 : decide ((j : Int) < (q : Int)) = false := decide_eq_false (by omega)
              have HSe : Hid (SRow (w.heap.size ≤ ·) wr u5 (Rc.norm (calls ++ (others.take (t + 1)).flatten))) := by
                have h1 := hSj.out
                rw [List.take_of_length_le (l := x) (by rw [Hq.out]; omega), ← flat_take Hx.out] at h1
                exact h1
              go_wp2_with fail
              go_roundw
              case rel => exact ⟨t + 1, val_int (by omega), htl, HSe, hBj⟩
              case measure => simp [intOf]; omega
        · have d2 : decide ((t : Int) < (m : Int)) = false := decide_eq_false (by omega)
          have HSe : Hid (SRow (w.heap.size ≤ ·) wt u5 (Rc.norm (calls ++ others.flatten))) := by
            have h1 := hS.out
            rw [List.take_of_length_le (by rw [HM.out]; omega)] at h1
            exact h1
          go_wp2_with fail
          go_ret
          exact ⟨u5, rfl, HSe.out, hBt.out⟩
theorem flat_mem_le {ll : List (List Rc.Str)} {x : List Rc.Str} (h : x ∈ ll) : x.length ≤ ll.flatten.length := by
  obtain ⟨i, hi⟩ := List.mem_iff_getElem?.1 h
  have := flat_le hi (j := x.length) (Nat.le_refl _)
  rw [List.length_append, List.take_length] at this
  omega
theorem rstep_any {A B : Nat → Prop} (cv ov : Value) (calls : List Rc.Str) (others : List (List Rc.Str)) (w : World) (hc : SRow A w cv calls) (ho : LRow B w ov others) (hT : (calls :: others).flatten.length ≤ 4000000) (hk : others.length ≤ 4000000) :
    Calls Try.prog 12 #[cv, ov] w fun e w' => ∃ v, e = .returned v ∧ SRow (w.heap.size ≤ ·) w' v (Rc.norm (calls :: others).flatten) ∧ Below w.heap.size w w' :=
  rstep_gen cv ov calls others w hc ho (calls :: others).flatten hT (fun _ h => h) (Nat.le_trans (flat_mem_le List.mem_cons_self) hT) (fun x hx => Nat.le_trans (flat_mem_le (List.mem_cons_of_mem _ hx)) hT) hk
end Go.Proofs.Ytggpjbjeaekifaa
