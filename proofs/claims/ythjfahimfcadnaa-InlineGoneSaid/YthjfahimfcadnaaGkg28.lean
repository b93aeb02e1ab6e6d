import Derived.Test.YthjfahimfcadnaaGkg27
/- Both sides agree about any code (recompilelaw17.agree), once inline.Inline is known. -/
namespace Go.Proofs.Ythjfahimfcadnaa
open Go.ChangeShapes Go.WideShapes Go.RowKit

/-- the result's size -/
theorem inlined_len (L : List Il.Fn) (pa re : Int) (ops : List Ob.Op) : (Il.inlined L pa re ops).2.length ≤ max 4000 ops.length := by
  unfold Il.inlined
  by_cases h : Ob.sound pa re ops = true
  · rw [if_pos h]
    dsimp only
    have h1 := Il.cur_length L h (Nat.le_refl ops.length)
    have h2 := st_size L h ops.length (Nat.le_refl _)
    rw [Il.cur_end] at h1
    omega
  · rw [if_neg h]
    dsimp only
    omega
theorem inlined_lists {B : Nat} (L : List Il.Fn) (pa re : Int) (ops : List Ob.Op) (ho : ∀ o ∈ ops, o.list.length ≤ B) (hL : ∀ f ∈ L, ∀ o ∈ f.ops, o.list.length ≤ B) : ∀ o ∈ (Il.inlined L pa re ops).2, o.list.length ≤ B := by
  unfold Il.inlined
  by_cases h : Ob.sound pa re ops = true
  · rw [if_pos h]
    dsimp only
    intro o hm
    have h1 := Il.cur_ops h ho hL (Nat.le_refl ops.length) o
    rw [Il.cur_end] at h1
    exact (h1 hm).1
  · rw [if_neg h]
    exact ho
/-- the contract of inline.Inline that is wanted -/
def InlineC : Prop := ∀ (A1 A2 : Nat → Prop) (pa re : Int) (v vl : Value) (ops : List Ob.Op) (L : List Il.Fn) (w : World), OpsAt A1 w v ops → ListAt rdCall A2 w vl L → ops.length ≤ 5000 → L.length ≤ 1000 → (∀ o ∈ ops, o.list.length ≤ 17592186043904) → (∀ f ∈ L, f.ops.length ≤ 5000 ∧ ∀ o ∈ f.ops, o.list.length ≤ 17592186043904) → (∀ o ∈ ops, o.sym.length ≤ maxLen) → (∀ f ∈ L, f.sym.length ≤ maxLen) →
    Calls Try.prog 27 #[.agg #[.int .i64 pa, .int .i64 re, v], vl] w fun e w' => ∃ v', e = .returned (.agg #[.int .i64 pa, .int .i64 (Il.inlined L pa re ops).1, v']) ∧ OpsAt (w.heap.size ≤ ·) w' v' (Il.inlined L pa re ops).2 ∧ Below w.heap.size w w'
set_option maxRecDepth 100000 in
set_option maxHeartbeats 1600000 in
theorem agree_of (hI : InlineC) {A1 A2 A3 : Nat → Prop} (pa re : Int) (v vl vs : Value) (ops : List Ob.Op) (L : List Il.Fn) (l : List Rc.Str) (w : World) (hv : OpsAt A1 w v ops) (hL : ListAt rdCall A2 w vl L) (hs : SRow A3 w vs l) (hn : ops.length ≤ 5000) (hLn : L.length ≤ 1000) (hl : l.length ≤ 100000) (ho : ∀ o ∈ ops, o.list.length ≤ 17592186043904) (hf : ∀ f ∈ L, f.ops.length ≤ 5000 ∧ ∀ o ∈ f.ops, o.list.length ≤ 17592186043904) (hos : ∀ o ∈ ops, o.sym.length ≤ maxLen) (hfs : ∀ f ∈ L, f.sym.length ≤ maxLen) :
    Calls Try.prog 16 #[.agg #[.int .i64 pa, .int .i64 re, v], vl, vs] w fun e w' => e = .returned (.bool true) ∧ Below w.heap.size w w' := by
  have HI := Lib.hid hI
  have HOs := Lib.hid hos
  have HFs := Lib.hid hfs
  have HO := Lib.hid ho
  have HF := Lib.hid hf
  have HV := Lib.hid hv
  have HL := Lib.hid hL
  have HS := Lib.hid hs
  have Hl := Lib.hid hl
  have Hn := Lib.hid hn
  obtain ⟨p, cap, rfl⟩ := hv.parts
  obtain ⟨pl, ql, rfl⟩ := hL.parts
  obtain ⟨ps, qs, rfl⟩ := hs.parts
  obtain ⟨nl, hnl⟩ : ∃ n, L.length = n := ⟨_, rfl⟩
  obtain ⟨N, hN⟩ : ∃ n, ops.length = n := ⟨_, rfl⟩
  obtain ⟨ns, hns⟩ : ∃ n, l.length = n := ⟨_, rfl⟩
  rw [hnl] at HL hLn ⊢
  rw [hN] at HV hn ⊢
  rw [hns] at HS hl ⊢
  have Hnl := Lib.hid hnl
  have HN := Lib.hid hN
  have Hns := Lib.hid hns
  obtain ⟨w1, hw1, B1, hb1⟩ := fresh_blk w [.int .i64 pa, .int .i64 re, .slice p N cap] 24
  obtain ⟨gc, hgc⟩ : ∃ g, g = w.heap.size := ⟨_, rfl⟩
  have Hw1 := Lib.hid hw1
  have Hgc := Lib.hid hgc
  clear hI hos hfs ho hf hv hL hs hnl hN hns hw1 hgc
  go_enter Try.func16, Try.ntmps16
  go_upto_region 1 with fail
  rw [Hw1.out]
  rw [← Hgc.out] at B1 ⊢
  have HC := Lib.hid B1
  have HB := Lib.hid hb1
  have HV1 := Lib.hid (HV.out.keep (agree_below hb1))
  have HL1 := Lib.hid (HL.out.keep (agree_below hb1))
  have HS1 := Lib.hid (HS.out.keep (agree_below hb1))
  clear Hw1 B1 hb1 Hgc HV HL HS
  go_upto_region 2 with fail
  go_loopw [7] (fun i wr => ∃ k : Nat, i = .int .i64 k ∧ k ≤ nl ∧ Hid (Below w1.heap.size w1 wr)) (fun i _ => nl - (intOf i).toNat)
  case atStart => exact ⟨0, rfl, Nat.zero_le _, Below.refl _ _⟩
  case round =>
    obtain ⟨k, rfl, hk, HW⟩ := hrel
    generalize wr = wa at *
    have HCa := Lib.hid (HC.out.call HW.out)
    have HBa := Lib.hid (HB.out.trans (HW.out.mono HB.out.size))
    have HVa := Lib.hid (HV1.out.keep (agree_below HW.out))
    have HLa := Lib.hid (HL1.out.keep (agree_below HW.out))
    have HSa := Lib.hid (HS1.out.keep (agree_below HW.out))
    by_cases hlt : k < nl
    · --[ round
      have d1 : decide ((k : Int) < (nl : Int)) = true := decide_eq_true (by omega)
      have d2 : decide (k < nl) = true := decide_eq_true hlt
      obtain ⟨fq, hfq⟩ : ∃ f, L[k]? = some f := ⟨_, List.getElem?_eq_getElem (by rw [Hnl.out]; exact hlt)⟩
      obtain ⟨gl, ol, vf, rfl, hgl1, hgl, hvf, c0, c1, c2, c3, c4⟩ := call_at HLa.out hfq
      have hfF := HF.out fq (List.mem_of_getElem? hfq)
      have HfF := Lib.hid hfF
      have HVf := Lib.hid hvf
      clear hfF hfq hvf
      obtain ⟨Sf, hSf⟩ : ∃ S : ByteArray, ⟨fq.sym.toArray⟩ = S := ⟨_, rfl⟩
      rw [hSf] at c0
      clear hSf
      obtain ⟨pf, qf, rfl⟩ := HVf.out.parts
      obtain ⟨nf, hnf⟩ : ∃ q, fq.ops.length = q := ⟨_, rfl⟩
      rw [hnf] at c3 HVf
      have Hnf := Lib.hid hnf
      clear hnf
      have P1 := fun (W : World) (hb : Below wa.heap.size wa W) => fits_any Sf fq.params fq.regs (.slice pf nf qf) (.slice ps ns qs) fq.ops l W (HVf.out.keep (agree_below hb)) (HSa.out.keep (agree_below hb)) (by have := HfF.out.1; omega) HfF.out.2 (by have := Hl.out; omega)
      have P2 := fun (W : World) (hb : Below wa.heap.size wa W) => rfits_any Sf fq.params fq.regs (.slice pf nf qf) (.slice ps ns qs) fq.ops l W (HVf.out.keep (agree_below hb)) (HSa.out.keep (agree_below hb)) (by have := HfF.out.1; omega) HfF.out.2 (by have := Hl.out; omega)
      obtain ⟨F, hFF⟩ : ∃ F, fitsB Sf fq.params fq.regs fq.ops l = F := ⟨_, rfl⟩
      rw [hFF] at P1 P2
      have P1 := Lib.hid P1
      have P2 := Lib.hid P2
      clear hFF
      generalize fq.params = fp at *
      generalize fq.regs = fr at *
      have qz : (F != F) = false := by simp
      go_upto_region 4 with fail
      clear d1 d2
      refine Lx.region Lx.below_steps [(0, true), (1, true), (2, true), (3, true), (4, true), (5, true), (6, true), (7, true), (8, true), (9, true), (10, true), (12, true), (13, true), (14, true), (15, true), (16, true), (17, true), (18, true), (19, true), (20, true), (21, true), (22, true), (11, false), (23, false)] [(24, false)] (fun w' => (∀ b o, b < wa.heap.size → w'.cell? ⟨b, o, none⟩ = wa.cell? ⟨b, o, none⟩) ∧ (∀ b o, b < wa.heap.size → w'.frozen? ⟨b, o, none⟩ = wa.frozen? ⟨b, o, none⟩) ∧ Below wa.heap.size wa w') (by kernel_rfl) (by kernel_rfl) (fun _ _ _ _ _ h => h) (fun _ h => held_below h) (fun _ _ h hb => held_call h hb) ?_; intro xa hbxa; replace hbxa : Below wa.heap.size wa xa := hbxa; simp only [Lx.pick, List.filterMap_cons, List.filterMap_nil, List.getElem?_cons_succ, List.getElem?_cons_zero, List.map_cons, List.map_nil]; have hSxa := held_below hbxa
      repeat (first | (refine Lx.takeY ?_ (by rfl) ?_ (by assumption) ?_; rotate_left; (focus (intro w' hSw; (try dsimp only at hSw); go_simp; (try with_reducible rfl))); simp only [Act.put, List.setIfInBounds_toArray, List.set_cons_zero, List.set_cons_succ]) | (refine Lx.takeN (by rfl) (by assumption) ?_; simp only [Act.put, List.setIfInBounds_toArray, List.set_cons_zero, List.set_cons_succ]))
      refine Lx.go ?_; intro K hK; go_simp; go_at_call 51; refine (P1.out xa hbxa).mono ?_; rintro e w0xb ⟨rfl, hb0xb⟩; refine hK _ _ hb0xb ?_; clear hK K; intro wxb hbxb; replace hbxb : Below w0xb.heap.size w0xb wxb := hbxb; have hSxb := held_call (held_call hSxa hb0xb) hbxb; try simp only [Act.put, List.setIfInBounds_toArray, List.set_cons_zero, List.set_cons_succ]
      repeat (first | (refine Lx.takeY ?_ (by rfl) ?_ (by assumption) ?_; rotate_left; (focus (intro w' hSw; (try dsimp only at hSw); go_simp; (try with_reducible rfl))); simp only [Act.put, List.setIfInBounds_toArray, List.set_cons_zero, List.set_cons_succ]) | (refine Lx.takeN (by rfl) (by assumption) ?_; simp only [Act.put, List.setIfInBounds_toArray, List.set_cons_zero, List.set_cons_succ]))
      refine Lx.go ?_; intro K hK; go_simp; go_at_call 52; refine (P2.out wxb hSxb.2.2).mono ?_; rintro e w0xc ⟨rfl, hb0xc⟩; refine hK _ _ hb0xc ?_; clear hK K; intro wxc hbxc; replace hbxc : Below w0xc.heap.size w0xc wxc := hbxc; have hSxc := held_call (held_call hSxb hb0xc) hbxc; try simp only [Act.put, List.setIfInBounds_toArray, List.set_cons_zero, List.set_cons_succ]
      repeat (first | (refine Lx.takeY ?_ (by rfl) ?_ (by assumption) ?_; rotate_left; (focus (intro w' hSw; (try dsimp only at hSw); go_simp; (try with_reducible rfl))); simp only [Act.put, List.setIfInBounds_toArray, List.set_cons_zero, List.set_cons_succ]) | (refine Lx.takeN (by rfl) (by assumption) ?_; simp only [Act.put, List.setIfInBounds_toArray, List.set_cons_zero, List.set_cons_succ]))
      refine Lx.tail ?_
      have HWx := Lib.hid (HW.out.trans (hSxc.2.2.mono HW.out.size))
      clear hSxa hSxb hSxc hbxa hbxb hbxc hb0xb hb0xc c0 c1 c2 c3 c4 P1 P2
      go_wp2_with fail
      go_roundw
      case rel => exact ⟨k + 1, val_int (by omega), hlt, HWx⟩
      case measure => simp [intOf]; omega
      --] round
    · have d1 : decide ((k : Int) < (nl : Int)) = false := decide_eq_false (by omega)
      have d2 : decide (k < nl) = false := decide_eq_false hlt
      have c0 := HCa.out.cells 0
      have c1 := HCa.out.cells 1
      have c2 := HCa.out.cells 2
      have cl := HCa.out.lt
      simp only [List.getElem?_cons_zero, List.getElem?_cons_succ] at c0 c1 c2
      go_upto_region 6 with fail
      clear d1 d2
      obtain ⟨R, hR⟩ : ∃ R, Il.inlined L pa re ops = R := ⟨_, rfl⟩
      have hR1 : R.2.length ≤ 17592186044416 := by have := inlined_len L pa re ops; rw [hR, HN.out] at this; omega
      have hR2 : ∀ o ∈ R.2, o.list.length ≤ 17592186044416 := fun o h => by have := inlined_lists L pa re ops HO.out (fun f hf => (HF.out f hf).2) o (by rw [hR]; exact h); omega
      have P3 := fun (W : World) (hb : Below wa.heap.size wa W) => HI.out _ _ pa re _ _ ops L W (HVa.out.keep (agree_below hb)) (HLa.out.keep (agree_below hb)) Hn.out (by rw [Hnl.out]; exact hLn) HO.out HF.out HOs.out HFs.out
      have P4 := fun (W : World) (hb : Below wa.heap.size wa W) => rinline_any pa re _ _ ops L W (HVa.out.keep (agree_below hb)) (HLa.out.keep (agree_below hb)) Hn.out (by rw [Hnl.out]; omega) HO.out (fun f hf => ⟨by have := (HF.out f hf).1; omega, (HF.out f hf).2⟩)
      rw [hR] at P3 P4
      obtain ⟨r, C⟩ := R
      dsimp only at hR1 hR2 P3 P4
      have P3 := Lib.hid P3
      have P4 := Lib.hid P4
      have hR1 := Lib.hid hR1
      have hR2 := Lib.hid hR2
      clear hR
      have Hn2 : Hid (ops.length ≤ 17592186044416) := by have := Hn.out; show _ ≤ _; omega
      have Hl2 : Hid (l.length ≤ 8796093022208) := by have := Hl.out; show _ ≤ _; omega
      refine Lx.region Lx.below_steps [(0, true), (1, true), (3, true), (4, true), (2, false), (5, false), (6, true), (7, true), (8, true), (9, true), (11, true), (12, true), (10, false), (13, false), (14, false), (15, true)] [(16, false)] (fun w' => (∀ b o, b < wa.heap.size → w'.cell? ⟨b, o, none⟩ = wa.cell? ⟨b, o, none⟩) ∧ (∀ b o, b < wa.heap.size → w'.frozen? ⟨b, o, none⟩ = wa.frozen? ⟨b, o, none⟩) ∧ Below wa.heap.size wa w') (by kernel_rfl) (by kernel_rfl) (fun _ _ _ _ _ h => h) (fun _ h => held_below h) (fun _ _ h hb => held_call h hb) ?_; intro xa hbxa; replace hbxa : Below wa.heap.size wa xa := hbxa; simp only [Lx.pick, List.filterMap_cons, List.filterMap_nil, List.getElem?_cons_succ, List.getElem?_cons_zero, List.map_cons, List.map_nil]; have hSxa := held_below hbxa
      repeat (first | (refine Lx.takeY ?_ (by rfl) ?_ (by assumption) ?_; rotate_left; (focus (intro w' hSw; (try dsimp only at hSw); go_simp; (try with_reducible rfl))); simp only [Act.put, List.setIfInBounds_toArray, List.set_cons_zero, List.set_cons_succ]) | (refine Lx.takeN (by rfl) (by assumption) ?_; simp only [Act.put, List.setIfInBounds_toArray, List.set_cons_zero, List.set_cons_succ]))
      refine Lx.go ?_; intro K hK; go_simp; go_at_call 51; refine (fits_any _ pa re (.slice p N cap) (.slice ps ns qs) ops l xa (HVa.out.keep (agree_below hbxa)) (HSa.out.keep (agree_below hbxa)) Hn2.out HO.out Hl2.out).mono ?_; rintro e w0xb ⟨rfl, hb0xb⟩; refine hK _ _ hb0xb ?_; clear hK K; intro wxb hbxb; replace hbxb : Below w0xb.heap.size w0xb wxb := hbxb; have hSxb := held_call (held_call hSxa hb0xb) hbxb; try simp only [Act.put, List.setIfInBounds_toArray, List.set_cons_zero, List.set_cons_succ]
      repeat (first | (refine Lx.takeY ?_ (by rfl) ?_ (by assumption) ?_; rotate_left; (focus (intro w' hSw; (try dsimp only at hSw); go_simp; (try with_reducible rfl))); simp only [Act.put, List.setIfInBounds_toArray, List.set_cons_zero, List.set_cons_succ]) | (refine Lx.takeN (by rfl) (by assumption) ?_; simp only [Act.put, List.setIfInBounds_toArray, List.set_cons_zero, List.set_cons_succ]))
      refine Lx.go ?_; intro K hK; go_simp; go_at_call 52; refine (rfits_any _ pa re (.slice p N cap) (.slice ps ns qs) ops l wxb (HVa.out.keep (agree_below hSxb.2.2)) (HSa.out.keep (agree_below hSxb.2.2)) Hn2.out HO.out Hl2.out).mono ?_; rintro e w0xc ⟨rfl, hb0xc⟩; refine hK _ _ hb0xc ?_; clear hK K; intro wxc hbxc; replace hbxc : Below w0xc.heap.size w0xc wxc := hbxc; have hSxc := held_call (held_call hSxb hb0xc) hbxc; try simp only [Act.put, List.setIfInBounds_toArray, List.set_cons_zero, List.set_cons_succ]
      repeat (first | (refine Lx.takeY ?_ (by rfl) ?_ (by assumption) ?_; rotate_left; (focus (intro w' hSw; (try dsimp only at hSw); go_simp; (try with_reducible rfl))); simp only [Act.put, List.setIfInBounds_toArray, List.set_cons_zero, List.set_cons_succ]) | (refine Lx.takeN (by rfl) (by assumption) ?_; simp only [Act.put, List.setIfInBounds_toArray, List.set_cons_zero, List.set_cons_succ]))
      refine Lx.go ?_; intro K hK; go_simp; go_at_call 27; refine (P3.out wxc hSxc.2.2).mono ?_; rintro e w0xd ⟨v1, rfl, hv1, hb0xd⟩; refine hK _ _ hb0xd ?_; clear hK K; intro wxd hbxd; replace hbxd : Below w0xd.heap.size w0xd wxd := hbxd; have hSxd := held_call (held_call hSxc hb0xd) hbxd; try simp only [Act.put, List.setIfInBounds_toArray, List.set_cons_zero, List.set_cons_succ]
      repeat (first | (refine Lx.takeY ?_ (by rfl) ?_ (by assumption) ?_; rotate_left; (focus (intro w' hSw; (try dsimp only at hSw); go_simp; (try with_reducible rfl))); simp only [Act.put, List.setIfInBounds_toArray, List.set_cons_zero, List.set_cons_succ]) | (refine Lx.takeN (by rfl) (by assumption) ?_; simp only [Act.put, List.setIfInBounds_toArray, List.set_cons_zero, List.set_cons_succ]))
      refine Lx.go ?_; intro K hK; go_simp; go_at_call 54; refine (P4.out wxd hSxd.2.2).mono ?_; rintro e w0xe ⟨v2, rfl, hv2, hb0xe⟩; refine hK _ _ hb0xe ?_; clear hK K; intro wxe hbxe; replace hbxe : Below w0xe.heap.size w0xe wxe := hbxe; have hSxe := held_call (held_call hSxd hb0xe) hbxe; try simp only [Act.put, List.setIfInBounds_toArray, List.set_cons_zero, List.set_cons_succ]
      repeat (first | (refine Lx.takeY ?_ (by rfl) ?_ (by assumption) ?_; rotate_left; (focus (intro w' hSw; (try dsimp only at hSw); go_simp; (try with_reducible rfl))); simp only [Act.put, List.setIfInBounds_toArray, List.set_cons_zero, List.set_cons_succ]) | (refine Lx.takeN (by rfl) (by assumption) ?_; simp only [Act.put, List.setIfInBounds_toArray, List.set_cons_zero, List.set_cons_succ]))
      have hv3 := ((hv1.keep (agree_below hbxd)).keep (agree_below hb0xe)).keep (agree_below hbxe)
      have hv4 := hv2.keep (agree_below hbxe)
      refine Lx.go ?_; intro K hK; go_simp; go_at_call 53; refine (samecode_yes v1 v2 pa r C wxe hv3 hv4 hR1.out hR2.out).mono ?_; rintro e w0xf ⟨rfl, hb0xf⟩; refine hK _ _ hb0xf ?_; clear hK K; intro wxf hbxf; replace hbxf : Below w0xf.heap.size w0xf wxf := hbxf; have hSxf := held_call (held_call hSxe hb0xf) hbxf; try simp only [Act.put, List.setIfInBounds_toArray, List.set_cons_zero, List.set_cons_succ]
      repeat (first | (refine Lx.takeY ?_ (by rfl) ?_ (by assumption) ?_; rotate_left; (focus (intro w' hSw; (try dsimp only at hSw); go_simp; (try with_reducible rfl))); simp only [Act.put, List.setIfInBounds_toArray, List.set_cons_zero, List.set_cons_succ]) | (refine Lx.takeN (by rfl) (by assumption) ?_; simp only [Act.put, List.setIfInBounds_toArray, List.set_cons_zero, List.set_cons_succ]))
      refine Lx.tail ?_
      have HZ := Lib.hid (HBa.out.trans (hSxf.2.2.mono HBa.out.size))
      clear hSxa hSxb hSxc hSxd hSxe hSxf hbxa hbxb hbxc hbxd hbxe hbxf hb0xb hb0xc hb0xd hb0xe hb0xf hv1 hv2 hv3 hv4
      go_wp2_with fail
      go_ret
      exact ⟨by trivial, HZ.out⟩
end Go.Proofs.Ythjfahimfcadnaa
