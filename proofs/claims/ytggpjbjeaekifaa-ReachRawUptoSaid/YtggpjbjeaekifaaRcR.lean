/- Reach: slices.Contains of strings; Recursive of both. -/
import Derived.Test.YtggpjbjeaekifaaRcX
namespace Go.Proofs.Ytggpjbjeaekifaa
open Go.ChangeShapes Go.WideShapes Go.RowKit

set_option maxRecDepth 100000 in
set_option maxHeartbeats 800000 in
theorem index_any {A : Nat → Prop} (v : Value) (l : List Rc.Str) (S : ByteArray) (w : World) (hv : SRow A w v l) (hn : l.length ≤ 8796093022208) :
    Calls Try.prog 33 #[v, .string S] w fun e w' => ∃ r : Int, e = .returned (.int .i64 r) ∧ -1 ≤ r ∧ r ≤ 8796093022208 ∧ (0 ≤ r ↔ S.data.toList ∈ l) ∧ w' = w := by
  obtain ⟨p, c1, rfl, Hp, _⟩ := hv
  have HP := Lib.hid Hp
  obtain ⟨n, hl⟩ : ∃ n, l.length = n := ⟨_, rfl⟩
  have Hl := Lib.hid hl
  rw [hl] at hn ⊢
  clear Hp hl
  go_enter Try.func33, Try.ntmps33
  go_upto_region 2 with fail
  go_loopw [8] (fun i wr => wr = w ∧ ∃ k : Nat, i = .int .i64 k ∧ k ≤ n ∧ Hid (S.data.toList ∉ l.take k)) (fun i _ => n - (intOf i).toNat)
  case atStart => exact ⟨rfl, 0, rfl, Nat.zero_le _, by show _ ∉ _; simp⟩
  case round =>
    obtain ⟨rfl, k, rfl, hk, hno⟩ := hrel
    by_cases hlt : k < n
    · have hd : decide ((k : Int) < (n : Int)) = true := by simp; omega
      have hkl : k < l.length := by rw [Hl.out]; exact hlt
      obtain ⟨ga, oa, rfl, _, hga, hca⟩ := HP.out.at (by rw [List.length_map]; omega)
      have g0 : (l.map strVal)[k]? = some (strVal l[k]) := by rw [List.getElem?_map, List.getElem?_eq_getElem hkl]; rfl
      obtain ⟨T, hT⟩ : ∃ T : ByteArray, ⟨l[k].toArray⟩ = T := ⟨_, rfl⟩
      unfold strVal at g0
      rw [hT] at g0
      have HTd : Hid (T.data.toList = l[k]) := by show _ = _; rw [← hT]
      have d0 := hca _ _ g0
      have Hkl := Lib.hid hkl
      clear hca g0 hT
      by_cases he : S = T
      · subst he
        go_wp2_with fail
        go_ret
        exact ⟨k, rfl, by omega, by omega, by rw [HTd.out]; simp, rfl⟩
      · have hne := str_ne he
        have Hne := Lib.hid he
        clear he
        go_wp2_with fail
        go_roundw
        case rel => exact ⟨by trivial, k + 1, val_int (by omega), hlt, by
          show _ ∉ _
          rw [List.take_succ_eq_append_getElem Hkl.out, List.mem_append, List.mem_singleton]
          rintro (h | h)
          · exact hno.out h
          · rw [← HTd.out] at h
            exact Hne.out (by have := ByteArray.ext (Array.toList_inj.1 h); exact this)⟩
        case measure => simp [intOf]; omega
    · have hd : decide ((k : Int) < (n : Int)) = false := by simp; omega
      go_wp2_with fail
      go_ret
      exact ⟨-1, rfl, by omega, by omega, by
        have := hno.out
        rw [List.take_of_length_le (by rw [Hl.out]; omega)] at this
        exact ⟨fun h => by omega, fun h => absurd h this⟩, rfl⟩
theorem contains_any {A : Nat → Prop} (v : Value) (l : List Rc.Str) (S : ByteArray) (w : World) (hv : SRow A w v l) (hn : l.length ≤ 8796093022208) :
    Calls Try.prog 27 #[v, .string S] w fun e w' => e = .returned (.bool (decide (S.data.toList ∈ l))) ∧ w' = w := by
  have Hc := Lib.hid (index_any v l S w hv hn)
  obtain ⟨p, c1, rfl⟩ := hv.parts
  clear hv
  go_enter Try.func27, Try.ntmps27
  go_wp2_with fail
  refine Hc.out.mono ?_
  rintro e w2 ⟨r, rfl, hr1, hr2, hr, rfl⟩
  have Hr := Lib.hid hr
  clear hr Hc
  go_wp2_with fail
  go_ret
  exact ⟨ret_bool (by rw [Bool.eq_iff_iff]; simp only [decide_eq_true_eq]; exact Hr.out), rfl⟩
theorem recursive_any {A : Nat → Prop} (v : Value) (l : List Rc.Str) (S : ByteArray) (w : World) (hv : SRow A w v l) (hn : l.length ≤ 8796093022208) :
    Calls Try.prog 18 #[.string S, v] w fun e w' => e = .returned (.bool (decide (S.data.toList ∈ l))) ∧ w' = w := by
  have Hc := Lib.hid (contains_any v l S w hv hn)
  obtain ⟨p, c1, rfl⟩ := hv.parts
  clear hv
  go_enter Try.func18, Try.ntmps18
  go_wp2_with fail
  refine Hc.out.mono ?_
  rintro e w2 ⟨rfl, rfl⟩
  clear Hc
  go_wp2_with fail
  go_ret
  exact ⟨rfl, rfl⟩
set_option maxRecDepth 100000 in
set_option maxHeartbeats 800000 in
theorem rrecursive_any {A : Nat → Prop} (v : Value) (l : List Rc.Str) (S : ByteArray) (w : World) (hv : SRow A w v l) (hn : l.length ≤ 8796093022208) :
    Calls Try.prog 19 #[.string S, v] w fun e w' => e = .returned (.bool (decide (S.data.toList ∈ l))) ∧ w' = w := by
  obtain ⟨p, c1, rfl, Hp, _⟩ := hv
  have HP := Lib.hid Hp
  obtain ⟨n, hl⟩ : ∃ n, l.length = n := ⟨_, rfl⟩
  have Hl := Lib.hid hl
  rw [hl] at hn ⊢
  clear Hp hl
  go_enter Try.func19, Try.ntmps19
  go_upto_region 2 with fail
  go_loopw [5] (fun i wr => wr = w ∧ ∃ k : Nat, i = .int .i64 k ∧ k ≤ n ∧ Hid (S.data.toList ∉ l.take k)) (fun i _ => n - (intOf i).toNat)
  case atStart => exact ⟨rfl, 0, rfl, Nat.zero_le _, by show _ ∉ _; simp⟩
  case round =>
    obtain ⟨rfl, k, rfl, hk, hno⟩ := hrel
    by_cases hlt : k < n
    · have hd : decide ((k : Int) < (n : Int)) = true := by simp; omega
      have hkl : k < l.length := by rw [Hl.out]; exact hlt
      obtain ⟨ga, oa, rfl, _, hga, hca⟩ := HP.out.at (by rw [List.length_map]; omega)
      have g0 : (l.map strVal)[k]? = some (strVal l[k]) := by rw [List.getElem?_map, List.getElem?_eq_getElem hkl]; rfl
      obtain ⟨T, hT⟩ : ∃ T : ByteArray, ⟨l[k].toArray⟩ = T := ⟨_, rfl⟩
      unfold strVal at g0
      rw [hT] at g0
      have HTd : Hid (T.data.toList = l[k]) := by show _ = _; rw [← hT]
      have d0 := hca _ _ g0
      have Hkl := Lib.hid hkl
      clear hca g0 hT
      by_cases he : T = S
      · subst he
        go_wp2_with fail
        go_ret
        exact ⟨ret_bool (by rw [HTd.out]; simp), rfl⟩
      · have hne := str_ne he
        have Hne := Lib.hid he
        clear he
        go_wp2_with fail
        go_roundw
        case rel => exact ⟨by trivial, k + 1, val_int (by omega), hlt, by
          show _ ∉ _
          rw [List.take_succ_eq_append_getElem Hkl.out, List.mem_append, List.mem_singleton]
          rintro (h | h)
          · exact hno.out h
          · rw [← HTd.out] at h
            exact Hne.out (by have := ByteArray.ext (Array.toList_inj.1 h.symm); exact this)⟩
        case measure => simp [intOf]; omega
    · have hd : decide ((k : Int) < (n : Int)) = false := by simp; omega
      go_wp2_with fail
      go_ret
      exact ⟨ret_bool (by
        have := hno.out
        rw [List.take_of_length_le (by rw [Hl.out]; omega)] at this
        rw [decide_eq_false this]), rfl⟩
end Go.Proofs.Ytggpjbjeaekifaa
