/- The reference's Same, of equal lists of tokens. -/
import Derived.Test.YtpjdboebambneaaTkY
import Derived.Test.YtpjdboebambneaaTkW
namespace Go.Proofs.Ytpjdboebambneaa
open Go.ChangeShapes Go.WideShapes Go.RowKit

theorem rtokens_holds (s : ByteArray) (w : World) (hs : s.size ≤ 20000) :
    Calls Try.prog 44 #[.string s] w fun e w' => ∃ v, e = .returned v ∧ TokRow (fun g => w.heap.size ≤ g) w' v (Tk.toksAt s.data.toList 0) ∧ Below w.heap.size w w' := by
  refine (rtokens_any s w hs).mono ?_
  rintro e w' ⟨v, rfl, ho, hb⟩
  obtain ⟨p, cap, rfl, hh⟩ := ownsRow_holds2 ho
  exact ⟨_, rfl, ⟨p, cap, rfl, hh.mono fun _ h => h.2⟩, hb⟩

set_option maxRecDepth 100000 in
set_option maxHeartbeats 1600000 in
theorem tsame_yes {A : Nat → Prop} (v u : Value) (l : List Tk.Tok) (w : World) (hv : TokRow A w v l) (hu : TokRow A w u l) (hn : l.length ≤ 100000) :
    Calls Try.prog 42 #[v, u] w fun e w' => e = .returned (.bool true) ∧ Below w.heap.size w w' := by
  obtain ⟨p, c1, rfl, Hp⟩ := hv
  obtain ⟨q, c2, rfl, Hq⟩ := hu
  have HP := Lib.hid Hp
  have HQ := Lib.hid Hq
  obtain ⟨n, hl⟩ : ∃ n, l.length = n := ⟨_, rfl⟩
  have Hl := Lib.hid hl
  rw [hl] at hn ⊢
  clear Hp Hq hl
  go_enter Try.func42, Try.ntmps42
  go_wp2_with fail
  go_loopw [5] (fun s5 wr => ∃ k : Nat, s5 = .int .i64 k ∧ Hid (k ≤ n) ∧ Hid (Below w.heap.size w wr)) (fun s5 _ => n - (intOf s5).toNat)
  case atStart => exact ⟨0, rfl, Nat.zero_le _, ext_refl w⟩
  case round =>
    obtain ⟨k, rfl, hk, hbel⟩ := hrel
    have hk1 := hk.out
    by_cases hlt : k < n
    · have hd : decide ((k : Int) < (n : Int)) = true := by simp; omega
      have hkl : k < l.length := by rw [Hl.out]; exact hlt
      obtain ⟨g0, g1, g2⟩ := cellsT_at l k hkl
      have hcl := cellsT_length l
      rw [Hl.out] at hcl
      obtain ⟨ga, oa, rfl, _, hga, hca⟩ := HP.out.at (by omega)
      obtain ⟨gb, ob, rfl, _, hgb, hcb⟩ := HQ.out.at (by omega)
      obtain ⟨kd, hkd⟩ : ∃ x, l[k].kind = x := ⟨_, rfl⟩
      obtain ⟨S, hS⟩ : ∃ S : ByteArray, ⟨l[k].text.toArray⟩ = S := ⟨_, rfl⟩
      obtain ⟨z, hz⟩ : ∃ x, l[k].at_ = x := ⟨_, rfl⟩
      rw [hkd] at g0; rw [hS] at g1; rw [hz] at g2
      have d0 : wr.cell? ⟨ga, oa + k * 3, none⟩ = some (.int .i64 kd) := by rw [hbel.out.cell (p := ⟨ga, oa + k * 3, none⟩) hga]; exact hca _ _ g0
      have d1 : wr.cell? ⟨ga, oa + k * 3 + 1, none⟩ = some (.string S) := by rw [hbel.out.cell (p := ⟨ga, oa + k * 3 + 1, none⟩) hga]; exact hca _ _ g1
      have d2 : wr.cell? ⟨ga, oa + k * 3 + 2, none⟩ = some (.int .i64 z) := by rw [hbel.out.cell (p := ⟨ga, oa + k * 3 + 2, none⟩) hga]; exact hca _ _ g2
      have e0 : wr.cell? ⟨gb, ob + k * 3, none⟩ = some (.int .i64 kd) := by rw [hbel.out.cell (p := ⟨gb, ob + k * 3, none⟩) hgb]; exact hcb _ _ g0
      have e1 : wr.cell? ⟨gb, ob + k * 3 + 1, none⟩ = some (.string S) := by rw [hbel.out.cell (p := ⟨gb, ob + k * 3 + 1, none⟩) hgb]; exact hcb _ _ g1
      have e2 : wr.cell? ⟨gb, ob + k * 3 + 2, none⟩ = some (.int .i64 z) := by rw [hbel.out.cell (p := ⟨gb, ob + k * 3 + 2, none⟩) hgb]; exact hcb _ _ g2
      have za : ga < wr.heap.size := Nat.lt_of_lt_of_le hga hbel.out.size
      have zb : gb < wr.heap.size := Nat.lt_of_lt_of_le hgb hbel.out.size
      clear hca hcb g0 g1 g2 hkd hS hz hkl hcl hga hgb
      go_upto_region 6 with fail
      refine Lx.region Lx.below_steps [(0, true), (1, true), (2, true), (3, true), (4, true), (5, true), (6, true), (7, true)] [(8, false)] (fun w' => (∀ b o, b < wr.heap.size → w'.cell? ⟨b, o, none⟩ = wr.cell? ⟨b, o, none⟩) ∧ (∀ b o, b < wr.heap.size → w'.frozen? ⟨b, o, none⟩ = wr.frozen? ⟨b, o, none⟩) ∧ Below wr.heap.size wr w') (by kernel_rfl) (by kernel_rfl) (fun _ _ _ _ _ h => h) (fun _ h => held_below h) (fun _ _ h hb => held_call h hb) ?_; intro xa hbxa; replace hbxa : Below wr.heap.size wr xa := hbxa; simp only [Lx.pick, List.filterMap_cons, List.filterMap_nil, List.getElem?_cons_succ, List.getElem?_cons_zero, List.map_cons, List.map_nil]; have hSxa := held_below hbxa
      repeat (first | (refine Lx.takeY ?_ (by rfl) ?_ (by assumption) ?_; rotate_left; (focus (intro w' hSw; (try dsimp only at hSw); go_simp; (try with_reducible rfl))); simp only [Act.put, List.setIfInBounds_toArray, List.set_cons_zero, List.set_cons_succ]) | (refine Lx.takeN (by rfl) (by assumption) ?_; simp only [Act.put, List.setIfInBounds_toArray, List.set_cons_zero, List.set_cons_succ]))
      have Hbx := Lib.hid (hbel.out.trans (hbxa.mono hbel.out.size))
      clear hbxa hSxa
      refine Lx.tail ?_
      go_wp2_with fail
      go_roundw
      case rel => exact ⟨k + 1, by simp, hlt, Hbx.out⟩
      case measure => simp [intOf]; omega
    · have hd : decide ((k : Int) < (n : Int)) = false := by simp; omega
      go_wp2_with fail
      go_ret
      exact ⟨rfl, hbel.out⟩
end Go.Proofs.Ytpjdboebambneaa
