/- Reach: faces. -/
import Derived.Test.YtggpjbjeaekifaaRcX
namespace Go.Proofs.Ytggpjbjeaekifaa
open Go.ChangeShapes Go.WideShapes Go.RowKit

def names5 : List Rc.Str := [[102], [103], [104], [105], [106]]
def names6 : List Rc.Str := [[102], [103], [104], [105], [106], [122]]
/-- faces in a row of the call's own -/
def Fcs (w : World) (base : Nat) (v : Value) (k : Nat) (l : List Rc.Face) : Prop :=
  ∃ cs, w.ownsRow base 34 3 v k cs ∧ l.length = k ∧ ∀ (i : Nat) (f : Rc.Face), l[i]? = some f → (cs : List Value)[i * 3]? = some (strVal f.mod) ∧ (∃ u : Value, cs[i * 3 + 1]? = some u ∧ SRow (fun g => base ≤ g ∧ some g ≠ v.ownBlock) w u f.own) ∧ ∃ p3 n3 c3, cs[i * 3 + 2]? = some (.slice p3 n3 c3)
theorem Fcs.keep {A : Nat → Prop} {w w' : World} {base : Nat} {v : Value} {k : Nat} {l : List Rc.Face} (h : Fcs w base v k l) (hk : Agree A w w') (hA : ∀ g, base ≤ g → A g) : Fcs w' base v k l := by
  obtain ⟨cs, h1, h2, h3⟩ := h
  exact ⟨cs, ownsRow_keep h1 hk fun g e => hA g (h1.lt g e).1, h2, fun i f hi => by
    obtain ⟨e0, ⟨u, hu, hs⟩, e2⟩ := h3 i f hi
    exact ⟨e0, ⟨u, hu, hs.keep (hk.mono fun g hg => hA g hg.1)⟩, e2⟩⟩
theorem Fcs.push {w w' : World} {base : Nat} {v v' u : Value} {k : Nat} {l : List Rc.Face} {f : Rc.Face} {p3 : Option Addr} {n3 c3 : Nat} {cs : List Value} (h1 : w.ownsRow base 34 3 v k cs) (h2 : l.length = k)
    (h3 : ∀ (i : Nat) (f : Rc.Face), l[i]? = some f → (cs : List Value)[i * 3]? = some (strVal f.mod) ∧ (∃ u : Value, cs[i * 3 + 1]? = some u ∧ SRow (fun g => base ≤ g ∧ some g ≠ v.ownBlock) w u f.own) ∧ ∃ p3 n3 c3, cs[i * 3 + 2]? = some (.slice p3 n3 c3))
    (ho : w'.ownsRow base 34 3 v' (k + 1) (cs ++ [strVal f.mod, u, .slice p3 n3 c3])) (hg : w.grownBy w' v.ownBlock) (hw : v'.ownBlock = v.ownBlock ∨ v'.ownBlock = some w.heap.size) (hu : SRow (fun g => base ≤ g ∧ some g ≠ v.ownBlock) w u f.own) : Fcs w' base v' (k + 1) (l ++ [f]) := by
  have hl : cs.length = k * 3 := h1.1
  have hk : ∀ {u : Value} {x : List Rc.Str}, SRow (fun g => base ≤ g ∧ some g ≠ v.ownBlock) w u x → SRow (fun g => base ≤ g ∧ some g ≠ v'.ownBlock) w' u x := fun {u x} h =>
    (h.lt.keep (agree_grown hg fun b hb => hb.1.2)).mono fun b hb => ⟨hb.1.1, by
      rcases hw with e | e
      · rw [e]; exact hb.1.2
      · rw [e]; intro e2; injection e2 with e2; have := hb.2; omega⟩
  refine ⟨_, ho, by rw [List.length_append, h2]; rfl, fun i y hi => ?_⟩
  by_cases hik : i < k
  · rw [List.getElem?_append_left (by omega)] at hi
    obtain ⟨e0, ⟨u, hu, hs⟩, e2⟩ := h3 i y hi
    rw [List.getElem?_append_left (by omega), List.getElem?_append_left (by omega), List.getElem?_append_left (by omega)]
    exact ⟨e0, ⟨u, hu, hk hs⟩, e2⟩
  · rw [List.getElem?_append_right (by omega)] at hi
    have hik2 : i - l.length = 0 := by
      have := (List.getElem?_eq_some_iff.1 hi).1
      simp at this; omega
    rw [hik2] at hi
    simp only [List.getElem?_cons_zero, Option.some.injEq] at hi
    subst hi
    have hi3 : i * 3 = cs.length := by omega
    rw [hi3, List.getElem?_append_right (by omega), List.getElem?_append_right (by omega), List.getElem?_append_right (by omega), Nat.sub_self, show cs.length + 1 - cs.length = 1 by omega, show cs.length + 2 - cs.length = 2 by omega]
    exact ⟨rfl, ⟨u, rfl, hk hu⟩, p3, n3, c3, rfl⟩
theorem Fcs.row {w : World} {base : Nat} {v : Value} {k : Nat} {l : List Rc.Face} (h : Fcs w base v k l) : FRow (base ≤ ·) w v l := by
  obtain ⟨cs, h1, h2, h3⟩ := h
  obtain ⟨p, c, hv, hh, hc⟩ := ownsRow_holds3 h1
  exact ⟨p, c, cs, by rw [hv, h2], hh.mono fun g hg => hg.2, by have := h1.1; omega, fun i f hi => by
    obtain ⟨e0, ⟨u, hu, hs⟩, e2⟩ := h3 i f hi
    exact ⟨e0, ⟨u, hu, hs.mono fun g hg => hg.1⟩, e2⟩⟩
theorem DR.grown {gd : Nat} {tv : Value} {ts : List Int} {w0 w w' : World} {row : Option Nat} (h : DR gd tv ts w0 w) (hg : w.grownBy w' row) (hr : ∀ k, row = some k → w0.heap.size ≤ k ∧ k ≠ gd) : DR gd tv ts w0 w' :=
  ⟨hg.os.trans h.os, hg.tape.trans h.tape, hg.output.trans h.output, Nat.le_trans h.size hg.size, fun k hk hlt => (hg.block k (Nat.lt_of_lt_of_le hlt h.size) fun e => by have := (hr k e.symm).1; omega).trans (h.block k hk hlt), fun hd => (h.dice hd).keep (A := (· = gd)) (agree_grown hg fun k hk e => (hr k e.symm).2 hk) hg.size rfl⟩
theorem holds_blk {A : Nat → Prop} {w : World} {g : Nat} {cs : List Value} (h : Blk w g cs) (hA : A g) : Holds A w (some ⟨g, 0, none⟩) cs :=
  .inr ⟨g, 0, rfl, hA, fun j v hj => by rw [Nat.zero_add]; exact (h.cells j).trans hj⟩
def FOk (l : List Rc.Face) (k : Nat) : Prop := l.map (·.mod) = names5.take k ∧ ∀ f ∈ l, f.own.length ≤ 3 ∧ ∀ s ∈ f.own, s ∈ names6

set_option maxRecDepth 100000 in
set_option maxHeartbeats 1600000 in
theorem faces_cap (gd : Nat) (tv : Value) (ts : List Int) (w : World) (hd : DiceAt gd tv ts w) (ht : IntsAt (· ≠ gd) w tv ts) :
    Calls Try.prog 9 #[.pointer (some ⟨gd, 0, none⟩)] w fun e w' => ∃ v' l, e = .returned v' ∧ DR gd tv ts w w' ∧ FRow (w.heap.size ≤ ·) w' v' l ∧ FOk l 5 ∧ ∃ p c, v' = .slice p 5 c ∧ 5 ≤ c := by
  have Ht := Lib.hid (fun w2 (h : DR gd tv ts w w2) => ht.keep h.agree)
  have Hd := Lib.hid hd
  have hgd := hd.lt
  clear ht hd
  go_enter Try.func9, Try.ntmps9
  go_upto_region 2 with fail
  obtain ⟨w1, hw1, B1, hb1⟩ := fresh_blk w [Value.string ⟨#[102]⟩, Value.string ⟨#[103]⟩, Value.string ⟨#[104]⟩, Value.string ⟨#[105]⟩, Value.string ⟨#[106]⟩] 9
  have hz1 : w1.heap.size = w.heap.size + 1 := by rw [← hw1]; simp
  go_wp2_with fail
  obtain ⟨gn, hgn⟩ : ∃ g, g = w.heap.size := ⟨_, rfl⟩
  have HR := Lib.hid (DR.of_below (gd := gd) (tv := tv) (ts := ts) hb1)
  have HN := Lib.hid B1
  rw [← hgn] at HN hz1 ⊢
  have hgn1 : w.heap.size ≤ gn := Nat.le_of_eq hgn.symm
  have hgn2 : gn ≤ w.heap.size := Nat.le_of_eq hgn
  obtain ⟨bs, hbs⟩ : ∃ b, b = w1.heap.size := ⟨_, rfl⟩
  have hb2 : bs = gn + 1 := by omega
  have hbs1 : gn < bs := by omega
  have hbs2 : bs ≤ w1.heap.size := by omega
  clear hgn hw1 hb1 B1 hb2 hz1 hbs
  go_loopw [3, 10] (fun v3 i wr => ∃ (k : Nat) (fl : List Rc.Face), i = .int .i64 k ∧ k ≤ 5 ∧ Hid (DR gd tv ts w wr) ∧ Hid (Blk wr gn [Value.string ⟨#[102]⟩, Value.string ⟨#[103]⟩, Value.string ⟨#[104]⟩, Value.string ⟨#[105]⟩, Value.string ⟨#[106]⟩]) ∧ Hid (Fcs wr bs v3 k fl) ∧ Hid (FOk fl k) ∧ Hid (bs ≤ wr.heap.size)) (fun _ i _ => 5 - (intOf i).toNat)
  case atStart => exact ⟨0, [], rfl, Nat.zero_le _, HR, HN, ⟨[], World.ownsRow_nil _ _ _ _, rfl, fun i f h => by simp at h⟩, ⟨rfl, fun f h => by simp at h⟩, hbs2⟩
  case round =>
    obtain ⟨k, fl, rfl, hk, hR, hN, hF, hOk, hbw⟩ := hrel
    clear HR HN hbs2
    generalize wr = wk at *
    have HR := hR
    have HN := hN
    have HFk := hF
    have HOk := hOk
    have hbwr := hbw.out
    clear hR hN hF hOk hbw
    by_cases hlt : k < 5
    · have d1 : decide ((k : Int) < 5) = true := decide_eq_true (by omega)
      have hkn : k < names5.length := hlt
      obtain ⟨nm, hnm⟩ : ∃ s, names5[k] = s := ⟨_, rfl⟩
      have hc : wk.cell? ⟨gn, k, none⟩ = some (strVal nm) := by
        rw [HN.out.cells k, show [Value.string ⟨#[102]⟩, Value.string ⟨#[103]⟩, Value.string ⟨#[104]⟩, Value.string ⟨#[105]⟩, Value.string ⟨#[106]⟩] = names5.map strVal from rfl, List.getElem?_map, List.getElem?_eq_getElem hkn, hnm]
        rfl
      have hl := HN.out.lt
      obtain ⟨S, hS⟩ : ∃ S : ByteArray, ⟨nm.toArray⟩ = S := ⟨_, rfl⟩
      unfold strVal at hc
      rw [hS] at hc
      have HS := Lib.hid hS
      have Hnm : Hid (names5[k]? = some nm) := by show _ = _; rw [List.getElem?_eq_getElem hkn, hnm]
      clear hS hnm hkn
      go_upto_region 6 with fail
      clear hc hl
      have HRk := Lib.hid (DR.refl (gd := gd) (tv := tv) (ts := ts) wk)
      have hwk := HR.out.size
      have HNk := HN
      have HRw := HR
      obtain ⟨w6, hwX, HV6x, hbX⟩ := fresh_blk wk [Value.string S, Value.slice none 0 0, Value.slice none 0 0] 34
      rw [hwX]
      have sz_w6 : w6.heap.size = wk.heap.size + 1 := by rw [← hwX]; simp
      replace HRk := Lib.hid (HRk.out.trans (DR.of_below hbX))
      replace HR := Lib.hid (HR.out.trans (DR.of_below hbX))
      have HV6 := Lib.hid HV6x
      obtain ⟨g6, hgX⟩ : ∃ g, g = wk.heap.size := ⟨_, rfl⟩
      rw [← hgX] at HV6 sz_w6 ⊢
      have g6_le := Nat.le_of_eq hgX
      have g6_ge := Nat.le_of_eq hgX.symm
      clear hgX
      clear hwX HV6x hbX
      have hg6 : gd ≠ g6 := by omega
      have hg6' : g6 ≠ gd := by omega
      go_wp2_with fail
      refine (next_any gd tv ts 4 _ (HR.out.dice Hd.out) (Ht.out _ HR.out) (by decide) (by decide)).mono ?_
      rintro e w7 ⟨k7, rfl, hk70, hk74, D7⟩
      have hs7 := D7.size
      have lt1_HV6 := HV6.out.lt
      replace HRk := Lib.hid (HRk.out.trans D7)
      replace HR := Lib.hid (HR.out.trans D7)
      replace HV6 := Lib.hid (HV6.out.keep D7.agree D7.size (by omega))
      clear D7
      obtain ⟨b7, hb7⟩ : ∃ b, b = g6 + 1 := ⟨_, rfl⟩
      have hb7w : b7 ≤ w7.heap.size := by omega
      have hb7g : g6 < b7 := by omega
      have hb7e : b7 ≤ g6 + 1 := by omega
      have hb7k : wk.heap.size < b7 := by omega
      clear hb7
      go_wp2_with fail
      go_loopw [7] (fun i wx => ∃ (j : Int) (uo : Value) (own : List Rc.Str), i = .int .i64 j ∧ 0 ≤ j ∧ Hid ((own.length : Int) + j ≤ 3 ∧ ∀ s ∈ own, s ∈ names6) ∧ Hid (DR gd tv ts wk wx) ∧ Hid (DR gd tv ts w wx) ∧ Hid (Blk wx g6 [Value.string S, uo, Value.slice none 0 0]) ∧ Hid (wx.ownsRow b7 9 1 uo own.length (own.map strVal)) ∧ Hid (b7 ≤ wx.heap.size)) (fun i _ => (intOf i).toNat)
      case atStart => exact ⟨k7, _, [], rfl, hk70, ⟨by simp; omega, fun s h => by simp at h⟩, HRk, HR, HV6, World.ownsRow_nil _ _ _ _, hb7w⟩
      case round =>
        obtain ⟨j, uo, own, rfl, hj0, hcnt, hRk, hR, hV6, hO, hbx⟩ := hrel
        clear HRk HR HV6 HN
        obtain ⟨po, co, rfl, _, _⟩ := ownsRow_holds3 hO.out
        obtain ⟨n, hn⟩ : ∃ n, own.length = n := ⟨_, rfl⟩
        rw [hn] at hO hV6
        have Hn := Lib.hid hn
        clear hn
        have HRk := hRk
        have HR := hR
        have HV6 := hV6
        clear hRk hR hV6
        have hbx1 := hbx.out
        by_cases hj : 0 < j
        · have d2 : decide (j > 0) = true := decide_eq_true hj
          have hgdx := (HR.out.dice Hd.out).lt
          have c0 := HV6.out.cells 0
          have c1 := HV6.out.cells 1
          have c2 := HV6.out.cells 2
          have cf0 := HV6.out.frozen 0
          have cf1 := HV6.out.frozen 1
          have cf2 := HV6.out.frozen 2
          have cl := HV6.out.lt
          simp only [List.getElem?_cons_zero, List.getElem?_cons_succ] at c0 c1 c2
          go_upto_region 9 with fail
          refine Lx.region (dr_steps gd tv ts) [(0, true), (1, true), (2, true), (3, false), (4, false), (5, false)] [(6, false), (7, false), (8, false)] (fun w' => (∀ b o, b ≠ gd → b < wr.heap.size → w'.cell? ⟨b, o, none⟩ = wr.cell? ⟨b, o, none⟩) ∧ (∀ b o, b ≠ gd → b < wr.heap.size → w'.frozen? ⟨b, o, none⟩ = wr.frozen? ⟨b, o, none⟩) ∧ DR gd tv ts wr w') (by kernel_rfl) (by kernel_rfl) (fun _ _ _ _ _ h => h) (fun _ h => DS.of h) (fun _ _ h hb => DS.step h hb) ?_; intro xa hbxa; replace hbxa : DR gd tv ts wr xa := hbxa; simp only [Lx.pick, List.filterMap_cons, List.filterMap_nil, List.getElem?_cons_succ, List.getElem?_cons_zero, List.map_cons, List.map_nil]; have hSxa : DS gd tv ts wr xa := DS.of hbxa
          repeat (first | (refine Lx.takeY ?_ (by rfl) ?_ (by assumption) ?_; rotate_left; (focus (intro w' hSw; (try dsimp only at hSw); go_simp; (try with_reducible rfl))); simp only [Act.put, List.setIfInBounds_toArray, List.set_cons_zero, List.set_cons_succ]) | (refine Lx.takeN (by rfl) (by assumption) ?_; simp only [Act.put, List.setIfInBounds_toArray, List.set_cons_zero, List.set_cons_succ]))
          refine Lx.go ?_
          intro K hK
          go_simp
          obtain ⟨wy, hwy, hby, hyb⟩ := fresh_blk xa [Value.string ⟨#[102]⟩, Value.string ⟨#[103]⟩, Value.string ⟨#[104]⟩, Value.string ⟨#[105]⟩, Value.string ⟨#[106]⟩, Value.string ⟨#[122]⟩] 9
          rw [hwy]
          refine hK _ _ (DR.of_below hyb) ?_
          clear hK K
          intro wxb hbxb
          repeat (first | (refine Lx.takeY ?_ (by rfl) ?_ (by assumption) ?_; rotate_left; (focus (intro w' hSw; (try dsimp only at hSw); go_simp; (try with_reducible rfl))); simp only [Act.put, List.setIfInBounds_toArray, List.set_cons_zero, List.set_cons_succ]) | (refine Lx.takeN (by rfl) (by assumption) ?_; simp only [Act.put, List.setIfInBounds_toArray, List.set_cons_zero, List.set_cons_succ]))
          have hSxb := DS.step hSxa ((DR.of_below hyb).trans hbxb)
          have hxg : gd < xa.heap.size := Nat.lt_of_lt_of_le hgdx hbxa.size
          have hhb : Holds (· = xa.heap.size) wxb (some ⟨xa.heap.size, 0, none⟩) (names6.map strVal) := holds_blk (hby.keep hbxb.agree hbxb.size (by omega)) rfl
          refine Lx.go ?_; intro K hK; go_simp; go_at_call 21; refine (of_any gd tv ts _ 6 6 names6 wxb (hSxb.2.2.dice (HR.out.dice Hd.out)) (Ht.out _ (HR.out.trans hSxb.2.2)) hhb (fun g hg => by omega) rfl (by decide) (by decide)).mono ?_; rintro e w0xc ⟨s9, hs9, rfl, hb0xc⟩; refine hK _ _ (by first | exact hb0xc | exact DR.of_below hb0xc) ?_; clear hK K; intro wxc hbxc; have hcxc := hbxc; replace hbxc := DR.of_any (by first | exact hb0xc | exact DR.of_below hb0xc) hbxc; have hSxc := DS.step hSxb hbxc; try simp only [Act.put, List.setIfInBounds_toArray, List.set_cons_zero, List.set_cons_succ]
          obtain ⟨T, hT⟩ : ∃ T, strVal s9 = .string T := ⟨_, rfl⟩
          rw [hT]
          refine Lx.go ?_
          intro K hK
          go_simp
          obtain ⟨wz, hwz, hbz, hzb⟩ := fresh_blk wxc [Value.string T] 9
          rw [hwz]
          refine hK _ _ (DR.of_below hzb) ?_
          clear hK K
          intro wxd hbxd
          have hSxd := DS.step hSxc ((DR.of_below hzb).trans hbxd)
          have hsrc : Src Try.prog 1 32 (.slice (some ⟨wxc.heap.size, 0, none⟩) 1 1) 1 [Value.string T] wxd :=
            Src.ofSlice wxd (e' := 9) Try.underlying32 _ 1 1 _ rfl (fun j u hj => by rw [Addr.add_lit, Nat.zero_add]; exact ((hbz.keep hbxd.agree hbxd.size (by have := hSxc.2.2.size; omega)).cells j).trans hj) (fun u hu => by rw [List.mem_singleton.1 hu]; rfl)
          have hOd := ownsRow_keep hO.out hSxd.2.2.agree (fun b e => by have := (hO.out.lt b e).1; show b ≠ gd; omega)
          have hVd := HV6.out.keep hSxd.2.2.agree hSxd.2.2.size hg6'
          have hRkd := HRk.out.trans hSxd.2.2
          have hRd := HR.out.trans hSxd.2.2
          have hsd : b7 ≤ wxd.heap.size := Nat.le_trans hbx1 hSxd.2.2.size
          have hn3 : n ≤ 3 := by have := hcnt.out.1; rw [Hn.out] at this; omega
          have Hsrc := Lib.hid hsrc
          have HOd := Lib.hid hOd
          have HVd := Lib.hid hVd
          have HRkd := Lib.hid hRkd
          have HRd := Lib.hid hRd
          have HT := Lib.hid hT
          have Hs9 := Lib.hid hs9
          clear hsrc hOd hVd hRkd hRd hT hs9 hSxa hSxb hSxc hSxd hbxa hbxb hbxc hbxd hby hyb hbz hzb hwy hwz hhb hxg hb0xc hcxc
          clear c0 c1 c2 cf0 cf1 cf2 cl
          refine Lx.tail ?_
          refine app_src _ _ 32 32 9 (.string ⟨#[]⟩) 1 16 rfl rfl Try.underlying32 (by kernel_rfl) rfl (by decide) b7 HOd.out hsd rfl rfl Hsrc.out (by unfold maxLen; omega) (by omega) ?_
          intro v8 w8 ho8 hg8
          obtain ⟨p8, c8, rfl, hj8, hk8⟩ := ownsRow_holds3 ho8
          clear hj8 hk8
          have hob : ∀ b, some b = (Value.slice po n co).ownBlock → b7 ≤ b := fun b e => (HOd.out.lt b e.symm).1
          have hV8 := HVd.out.keep (agree_grown hg8 (A := (· < b7)) fun b hb e => by have := hob b e; omega) hg8.size hb7g
          have hRk8 := HRkd.out.grown hg8 fun b e => by have := hob b e.symm; omega
          have hR8 := HRd.out.grown hg8 fun b e => by have := hob b e.symm; omega
          have hs8 := hg8.size
          have HO8 := Lib.hid ho8
          have HV6 := Lib.hid hV8
          have HRk := Lib.hid hRk8
          have HR := Lib.hid hR8
          clear ho8 hg8 hV8 hRk8 hR8 hob
          have c0 := HV6.out.cells 0
          have c1 := HV6.out.cells 1
          have c2 := HV6.out.cells 2
          have cf0 := HV6.out.frozen 0
          have cf1 := HV6.out.frozen 1
          have cf2 := HV6.out.frozen 2
          have cl := HV6.out.lt
          simp only [List.getElem?_cons_zero, List.getElem?_cons_succ] at c0 c1 c2
          have hkS : Agree (· ≠ g6) w8 (w8.setCell ⟨g6, 1, none⟩ (.slice p8 (n + 1) c8)) := (agree_at _ g6 1 (.slice p8 (n + 1) c8))
          have hzS : w8.heap.size ≤ (w8.setCell ⟨g6, 1, none⟩ (.slice p8 (n + 1) c8)).heap.size := by simp [World.setCell]
          replace HRk := Lib.hid (DR.set ⟨g6, 1, none⟩ (.slice p8 (n + 1) c8) (by show g6 ≠ _; omega) HRk.out (by show _ ≤ g6; omega))
          replace HR := Lib.hid (DR.set ⟨g6, 1, none⟩ (.slice p8 (n + 1) c8) (by show g6 ≠ _; omega) HR.out (by show _ ≤ g6; omega))
          replace HO8 := Lib.hid (ownsRow_keep HO8.out hkS (fun b e => by first | omega | (have := (HO8.out.lt b e).1; omega)))
          replace HV6 := Lib.hid (HV6.out.set 1 (.slice p8 (n + 1) c8) (by simp))
          simp only [List.set_cons_zero, List.set_cons_succ] at HV6
          clear hkS hzS
          go_wp2_with fail
          clear c0 c1 c2 cf0 cf1 cf2 cl
          generalize hwf : (w8.setCell ⟨g6, 1, none⟩ (.slice p8 (n + 1) c8)) = w9 at *
          clear hwf
          have hj3 : j ≤ 3 := by have := hcnt.out.1; omega
          have hw : wrap64 (j - 1) = j - 1 := by unfold wrap64; omega
          rw [hw]
          refine ⟨⟨j - 1, _, own ++ [s9], rfl, by omega, ?_, HRk, HR, HV6, ?_, ?_⟩, by simp [intOf]; omega⟩
          · show (((own ++ [s9]).length : Int) + (j - 1) ≤ 3 ∧ _)
            have h1 := hcnt.out.1
            have h2 := hcnt.out.2
            rw [List.length_append, List.length_cons, List.length_nil]
            exact ⟨by omega, fun s hs => (List.mem_append.1 hs).elim (h2 s) fun h => by rw [List.mem_singleton.1 h]; exact Hs9.out⟩
          · have h1 := HO8.out
            rw [← HT.out, ← Hn.out] at h1
            show World.ownsRow _ _ _ _ _ _ _
            rw [List.length_append, List.map_append, ← Hn.out]
            exact h1
          · have h1 := HV6.out.lt
            show b7 ≤ _
            omega
        · have d2 : decide (j > 0) = false := decide_eq_false hj
          have c0 := HV6.out.cells 0
          have c1 := HV6.out.cells 1
          have c2 := HV6.out.cells 2
          have cl := HV6.out.lt
          simp only [List.getElem?_cons_zero, List.getElem?_cons_succ] at c0 c1 c2
          go_upto_region 10 with fail
          obtain ⟨wb, hwb, hbv, hbb⟩ := fresh_blk wr [Value.string S, Value.slice po n co, Value.slice none 0 0] 34
          have hRkb := HRk.out.trans (DR.of_below hbb)
          have hRb := HR.out.trans (DR.of_below hbb)
          have hsrc : Src Try.prog 3 27 (.slice (some ⟨wr.heap.size, 0, none⟩) 1 1) 1 [Value.string S, Value.slice po n co, Value.slice none 0 0] wb :=
            Src.ofSlice wb (e' := 34) Try.underlying27 _ 1 1 _ rfl (fun j u hj => by rw [Addr.add_lit, Nat.zero_add]; exact (hbv.cells j).trans hj) (fun u hu => by
              rcases List.mem_cons.1 hu with h | hu
              · rw [h]; rfl
              · rcases List.mem_cons.1 hu with h | hu
                · rw [h]; rfl
                · rw [List.mem_singleton.1 hu]; rfl)
          obtain ⟨cs, hco, hcl, hc3⟩ := HFk.out.keep hRkb.agree (fun g hg => by show g ≠ gd; omega)
          have hu3 : ∀ b, some b = u3.ownBlock → bs ≤ b ∧ b < wk.heap.size := fun b e => by
            obtain ⟨_, h1, _⟩ := HFk.out
            exact h1.lt b e.symm
          have hub : SRow (fun g => bs ≤ g ∧ some g ≠ u3.ownBlock) wb (.slice po n co) own := by
            have h1 := ownsRow_below hO.out hbb
            rw [← Hn.out] at h1 ⊢
            exact (SRow.of_own h1 rfl).mono fun g hg => ⟨by omega, fun e => by have := (hu3 g e).2; omega⟩
          have hbwb : bs ≤ wb.heap.size := by have := hRkb.size; omega
          have Hco := Lib.hid hco
          have Hcl := Lib.hid hcl
          have Hc3 := Lib.hid hc3
          have Hub := Lib.hid hub
          have Hu3 := Lib.hid hu3
          have Hsrc := Lib.hid hsrc
          have HNb := Lib.hid (HNk.out.keep hRkb.agree hRkb.size (by omega))
          have HRb := Lib.hid hRb
          clear hco hcl hc3 hub hu3 hsrc hbv hbb hRkb hRb
          go_wp2_with (at_builtin; (try rw [hwb]); refine app_at _ _ 27 27 34 (.agg #[.string ⟨#[]⟩, .slice none 0 0, .slice none 0 0]) 3 64 rfl rfl Try.underlying27 (by kernel_rfl) rfl (by decide) bs Hco.out hbwb rfl rfl Hsrc.out (by unfold maxLen; omega) (by omega) ?_)
          intro vd wd hod hgd2 hat
          have hfd := Fcs.push (l := fl) (f := ⟨nm, own⟩) (u := .slice po n co) Hco.out Hcl.out Hc3.out (by show World.ownsRow _ _ _ _ _ _ (cs ++ [strVal nm, _, _]); unfold strVal; rw [HS.out]; exact hod) hgd2 hat Hub.out
          have hRd := HRb.out.grown hgd2 (fun b e => by have := Hu3.out b e.symm; omega)
          have hNd := HNb.out.keep (agree_grown hgd2 (A := (· = gn)) fun b hb e => by have := Hu3.out b e; omega) hgd2.size rfl
          have hOkd : FOk (fl ++ [⟨nm, own⟩]) (k + 1) := by
            refine ⟨?_, fun f hf => ?_⟩
            · rw [List.map_append, HOk.out.1]
              have h5 := Hnm.out
              obtain ⟨h6, h7⟩ := List.getElem?_eq_some_iff.1 h5
              rw [List.take_succ_eq_append_getElem h6, h7]
              rfl
            · rcases List.mem_append.1 hf with h | h
              · exact HOk.out.2 f h
              · rw [List.mem_singleton.1 h]
                have h1 := hcnt.out.1
                exact ⟨by show own.length ≤ 3; omega, hcnt.out.2⟩
          have hsd := hgd2.size
          have HFd := Lib.hid hfd
          have HRd := Lib.hid hRd
          have HNd := Lib.hid hNd
          have HOkd := Lib.hid hOkd
          clear hod hgd2 hat hfd hRd hNd hOkd hwb
          clear c0 c1 c2 cl
          go_wp2_with fail
          go_roundw
          case rel => exact ⟨k + 1, fl ++ [⟨nm, own⟩], val_int (by omega), hlt, HRd, HNd, HFd, HOkd, by show bs ≤ _; omega⟩
          case measure => simp [intOf]; omega
    · have d1 : decide ((k : Int) < 5) = false := decide_eq_false (by omega)
      go_wp2_with fail
      go_ret
      obtain ⟨cs, h1, h2, h3⟩ := HFk.out
      obtain ⟨p3, c3, hp3, _, hc3⟩ := ownsRow_holds3 h1
      exact ⟨_, fl, rfl, HR.out, HFk.out.row.mono fun g hg => by omega, by have := HOk.out; rw [show k = 5 by omega] at this; exact this, p3, c3, (by have h5 : k = 5 := (by omega); rw [h5] at hp3; exact hp3), by omega⟩
theorem faces_any (gd : Nat) (tv : Value) (ts : List Int) (w : World) (hd : DiceAt gd tv ts w) (ht : IntsAt (· ≠ gd) w tv ts) :
    Calls Try.prog 9 #[.pointer (some ⟨gd, 0, none⟩)] w fun e w' => ∃ v' l, e = .returned v' ∧ DR gd tv ts w w' ∧ FRow (w.heap.size ≤ ·) w' v' l ∧ FOk l 5 :=
  (faces_cap gd tv ts w hd ht).mono fun e w' ⟨v', l, h1, h2, h3, h4, _⟩ => ⟨v', l, h1, h2, h3, h4⟩
end Go.Proofs.Ytggpjbjeaekifaa
