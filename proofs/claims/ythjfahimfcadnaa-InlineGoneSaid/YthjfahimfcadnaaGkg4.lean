import Derived.Test.YthjfahimfcadnaaGkg3
import Derived.Test.YthjfahimfcadnaaGkg0
import Derived.Lib.Zigzag
import Derived.Lib.VarintBits
/- 'append' to a row that is full and not the call's own, and to either kind. -/
namespace Go.Proofs.Ythjfahimfcadnaa
open Go.ChangeShapes Go.WideShapes Go.RowKit

/-- a row of the call's own, or one without room whose cells are only read -/
def Row2 (base : Nat) (e : TypeId) (size : Nat) (w : World) (v : Value) (n : Nat) (xs : List Value) : Prop :=
  w.ownsRow base e size v n xs ∨ ∃ g, v = .slice (some ⟨g, 0, none⟩) n n ∧ g < w.heap.size ∧ xs.length = n * size ∧ n ≤ maxLen ∧ ∀ (j : Nat) u, xs[j]? = some u → w.cell? ⟨g, j, none⟩ = some u
theorem Row2.parts {base : Nat} {e : TypeId} {size : Nat} {w : World} {v : Value} {n : Nat} {xs : List Value} (h : Row2 base e size w v n xs) : ∃ p cap, v = .slice p n cap := by
  rcases h with h | ⟨g, h, _⟩
  · obtain ⟨p, cap, hv, _⟩ := ownsRow_holds3 h; exact ⟨p, cap, hv⟩
  · exact ⟨_, _, h⟩
theorem Row2.below {base : Nat} {e : TypeId} {size : Nat} {w w' : World} {v : Value} {n : Nat} {xs : List Value} (h : Row2 base e size w v n xs) (hb : Below w.heap.size w w') : Row2 base e size w' v n xs := by
  rcases h with h | ⟨g, h1, h2, h3, h4, h5⟩
  · exact .inl (ownsRow_below h hb)
  · exact .inr ⟨g, h1, Nat.lt_of_lt_of_le h2 hb.size, h3, h4, fun j u hj => (hb.cell (p := ⟨g, j, none⟩) h2).trans (h5 j u hj)⟩
theorem Row2.size {base : Nat} {e : TypeId} {size : Nat} {w : World} {v : Value} {n : Nat} {xs : List Value} (h : Row2 base e size w v n xs) : ∀ g, v.ownBlock = some g → g < w.heap.size := by
  rcases h with h | ⟨g, h1, h2, _⟩
  · exact fun g e => (h.lt g e).2
  · intro k e
    rw [h1] at e
    have e' : g = k := by simpa [Value.ownBlock] using e
    omega
theorem run_append_two {P : Program} {w : World} (base : Nat) (t tx ty e : TypeId) (i : TypeInfo) (z : Value) (ht : P.underlying t = some (.slice e)) (hi : P.info? e = some i) (hz : i.zero = some z)
    (hzs : z.cells.size = i.size) (hsz : 0 < i.size) {v : Value} {n : Nat} {xs : List Value} (hown : Row2 base e i.size w v n xs) {x : Value} {m : Nat} {news : List Value} (hs : Src P i.size tx x m news w)
    (hm : 0 < m) (h63 : n + m ≤ maxLen) (hbytes : (n + m) * i.bytes ≤ 140737488355328) (hbase : base ≤ w.heap.size) :
    ∃ v' w', (Builtin.append_ #[t, tx] ty #[v, x]).run P w = .ok v' w' ∧ w'.ownsRow base e i.size v' (n + m) (xs ++ news) ∧ w.grownBy w' v.ownBlock ∧ (v'.ownBlock = v.ownBlock ∨ v'.ownBlock = some w.heap.size) := by
  have hsmall : n + m ≤ 9223372036854775807 := by simp only [maxLen] at h63; omega
  rcases hown with hown | ⟨g, rfl, hg, hl, hnm, holds⟩
  · exact run_append_src_at (P := P) base t tx ty e i z ht hi hz hzs hsz hown hs h63 hbytes hbase
  · have hnl := hs.newsLen
    have hlen : (xs ++ news).length = (n + m) * i.size := by rw [List.length_append, hl, hnl, Nat.add_mul]
    have hr := run_append_grow_src (P := P) w t tx ty e i z ht hi hz (some ⟨g, 0, none⟩) n n xs (run_firstCells_some w.drew i.size n _ n n xs hl (by simpa [Addr.add_lit] using holds)) x m news hs (by omega) (by omega) (growslice_fits (by omega) hbytes)
    have hge := grownCap_ge w (n + m) n e
    have hcm : grownCap w (n + m) n e ≤ maxLen := grownCap_le_maxLen w (n + m) n e h63
    refine ⟨_, _, hr, ⟨hlen, .inr ⟨w.heap.size, _, _, rfl, hbase, heap_alloc_new w.drew _, hge, hcm, ?_, ?_⟩⟩, ⟨rfl, rfl, rfl, by simp, fun k hk _ => Below.heap_alloc w.drew _ k hk⟩, .inr rfl⟩
    · simp only [Array.size_append, List.size_toArray, size_zeroCells, hzs, hlen, ← Nat.add_mul]
      congr 1
      omega
    · simp only [Array.toList_append]
      rw [← hlen]
      exact List.take_left
theorem wp_app_two {P : Program} {o : Oper} {a : Act} {K : Act → World → Prop} {Q : Exit → Act → World → Prop} {w : World} (s x : Operand) (t tx e : TypeId) (z : Value) (size bytes : Nat)
    (ho : o.op = .call { callee := .builtin .append, args := #[s, x], argTypes := #[t, tx] })
    (ht : P.underlying t = some (.slice e)) (hinfo : (P.info? e).map (fun i => (i.zero, i.size, i.bytes)) = some (some z, size, bytes)) (hzs : z.cells.size = size) (hsz : 0 < size)
    (base : Nat) {v : Value} {n : Nat} {xs : List Value} (hown : Row2 base e size w v n xs) (hbase : base ≤ w.heap.size) {xv : Value} {m : Nat} {news : List Value} (hs : a.eval s = v) (hx : a.eval x = xv)
    (hsrc : Src P size tx xv m news w) (hm : 0 < m) (h63 : n + m ≤ maxLen) (hbytes : (n + m) * bytes ≤ 140737488355328)
    (h : ∀ v' w', w'.ownsRow base e size v' (n + m) (xs ++ news) → w.grownBy w' v.ownBlock → (v'.ownBlock = v.ownBlock ∨ v'.ownBlock = some w.heap.size) → K (a.put o.dst v') w') : o.wp P a w K Q := by
  obtain ⟨i, hi, hz, hsize, hby⟩ := info_parts hinfo
  subst hsize hby
  obtain ⟨v', w', hr, h2, h3, h4⟩ := run_append_two (P := P) base t tx o.type e i z ht hi hz hzs hsz hown hsrc hm h63 hbytes hbase
  unfold Oper.wp execOp
  simp only [ho, resolve, invoke, builtin, Sem.run_bind, Sem.run_pure, Result.andThen_ok, List.map_toArray, List.map_cons, List.map_nil, hs, hx, hr]
  exact h v' w' h2 h3 h4
theorem app_two {P : Program} {ops : Array Oper} {rest : List Oper} {o : Oper} {a : Act} {Q : Exit → Act → World → Prop} {w : World} (s x : Operand) (t tx e : TypeId) (z : Value) (size bytes : Nat)
    (hgd : o.guard = none) (ho : o.op = .call { callee := .builtin .append, args := #[s, x], argTypes := #[t, tx] })
    (ht : P.underlying t = some (.slice e)) (hinfo : (P.info? e).map (fun i => (i.zero, i.size, i.bytes)) = some (some z, size, bytes)) (hzs : z.cells.size = size) (hsz : 0 < size)
    (base : Nat) {v : Value} {n : Nat} {xs : List Value} (hown : Row2 base e size w v n xs) (hbase : base ≤ w.heap.size) {xv : Value} {m : Nat} {news : List Value} (hs : a.eval s = v) (hx : a.eval x = xv)
    (hsrc : Src P size tx xv m news w) (hm : 0 < m) (h63 : n + m ≤ maxLen) (hbytes : (n + m) * bytes ≤ 140737488355328)
    (h : ∀ v' w', w'.ownsRow base e size v' (n + m) (xs ++ news) → w.grownBy w' v.ownBlock → (v'.ownBlock = v.ownBlock ∨ v'.ownBlock = some w.heap.size) → wpList P ops Q rest (a.put o.dst v') w') : wpList P ops Q (o :: rest) a w :=
  wpList_plain hgd fun _ hK => wp_app_two s x t tx e z size bytes ho ht hinfo hzs hsz base hown hbase hs hx hsrc hm h63 hbytes fun v' w' h2 h3 h4 => hK _ _ (h v' w' h2 h3 h4)
end Go.Proofs.Ythjfahimfcadnaa
/- recompilemade's Mod. -/
namespace Go.Proofs.Ythjfahimfcadnaa
open Go.ChangeShapes Go.WideShapes Go.RowKit

theorem mod_fix_neg (n m : Int) (h : 1 ≤ m) (b : -m < n.tmod m) (h2 : n.tmod m < 0) : n.tmod m + m = n % m := by
  have := mod_fix n m (by omega)
  rwa [Int.emod_eq_of_lt (by omega) (by omega)] at this
theorem mod_fix_pos (n m : Int) (h : 1 ≤ m) (b : n.tmod m < m) (h2 : 0 ≤ n.tmod m) : n.tmod m = n % m := by
  have := mod_fix n m (by omega)
  rwa [Int.add_emod_right, Int.emod_eq_of_lt h2 b] at this

set_option maxHeartbeats 400000 in
theorem mmod_any (n m : Int) (w : World) (hn : (Lit.int .i64 n).wf = true) (h0 : 1 ≤ m) (h1 : m ≤ 4611686018427387903) :
    Calls Try.prog 23 #[.int .i64 n, .int .i64 m] w fun e w' => e = .returned (.int .i64 (n % m)) ∧ w = w' := by
  have b := tmod_bd n m (by omega)
  have b1 := b.1
  have b2 := b.2
  clear b
  go_enter Try.func23, Try.ntmps23
  by_cases hneg : n.tmod m < 0
  · have hd : decide (n.tmod m < 0) = true := by simpa using hneg
    go_wp2
    go_ret
    exact ⟨ret_int (mod_fix_neg n m h0 b1 hneg), rfl⟩
  · have hd : decide (n.tmod m < 0) = false := by simpa using hneg
    go_wp2
    go_ret
    exact ⟨ret_int (mod_fix_pos n m h0 b2 (by omega)), rfl⟩
end Go.Proofs.Ythjfahimfcadnaa
/- Objects: the bytes of a number. -/
namespace Go.Proofs.Ythjfahimfcadnaa
open Go.ChangeShapes Go.WideShapes Go.RowKit

/-- only the row's own block has changed, and memory was made; the row's block is the old one or a new one -/
structure Grew (w w' : World) (v v' : Value) : Prop where
  os : w'.os = w.os
  tape : w'.tape = w.tape
  output : w'.output = w.output
  size : w.heap.size ≤ w'.heap.size
  block : ∀ k, k < w.heap.size → some k ≠ v.ownBlock → w'.heap[k]? = w.heap[k]?
  own : v'.ownBlock = v.ownBlock ∨ ∀ k, v'.ownBlock = some k → w.heap.size ≤ k
theorem Grew.refl (w : World) (v : Value) : Grew w w v v := ⟨rfl, rfl, rfl, Nat.le_refl _, fun _ _ _ => rfl, .inl rfl⟩
theorem Grew.of_below {w w' : World} (h : Below w.heap.size w w') (v : Value) : Grew w w' v v := ⟨h.os, h.tape, h.output, h.size, fun k hk _ => h.block k hk, .inl rfl⟩
theorem Grew.of_grown {w w' : World} {v v' : Value} (hg : w.grownBy w' v.ownBlock) (ha : v'.ownBlock = v.ownBlock ∨ v'.ownBlock = some w.heap.size) : Grew w w' v v' :=
  ⟨hg.os, hg.tape, hg.output, hg.size, fun k hk h => hg.block k hk h, ha.imp id fun e k hk => by rw [e] at hk; injection hk with hk; omega⟩
theorem Grew.trans {a b c : World} {u v x : Value} (h : Grew a b u v) (k : Grew b c v x) : Grew a c u x := by
  have hs := h.size
  refine ⟨k.os.trans h.os, k.tape.trans h.tape, k.output.trans h.output, Nat.le_trans h.size k.size, fun j hj hn => ?_, ?_⟩
  · refine (k.block j (Nat.lt_of_lt_of_le hj h.size) fun e => ?_).trans (h.block j hj hn)
    rcases h.own with h1 | h1
    · exact hn (by rw [e, h1])
    · have := h1 j e.symm; omega
  · rcases k.own with h2 | h2
    · rw [h2]; exact h.own
    · exact .inr fun j hj => Nat.le_trans h.size (h2 j hj)
theorem Grew.below {w0 w w' : World} {v v' : Value} {B : Nat} (h : Grew w w' v v') (hb : Below B w0 w) (hB : B ≤ w.heap.size) (hv : ∀ k, v.ownBlock = some k → B ≤ k) : Below B w0 w' :=
  ⟨h.os.trans hb.os, h.tape.trans hb.tape, h.output.trans hb.output, Nat.le_trans hb.size h.size, fun k hk => (h.block k (by omega) fun e => by have := hv k e.symm; omega).trans (hb.block k hk)⟩
theorem Grew.agree {w w' : World} {v v' : Value} {A : Nat → Prop} (h : Grew w w' v v') (hA : ∀ k, A k → some k ≠ v.ownBlock) : Agree A w w' := fun g hg hlt => h.block g hlt (hA g hg)

theorem wf_i64 {n : Int} (h : (Lit.int .i64 n).wf = true) : -9223372036854775808 ≤ n ∧ n ≤ 9223372036854775807 := by
  simp [Lit.wf, IntKind.min, IntKind.max, IntKind.bits, IntKind.signed] at h
  exact h
theorem zz_bits {n : Int} (h0 : -9223372036854775808 ≤ n) (h1 : n ≤ 9223372036854775807) :
    bits .xor .u64 (IntKind.u64.wrap (IntKind.u64.wrap n * 2)) (IntKind.u64.wrap (n / 9223372036854775808)) = ((Ob.zz n : Nat) : Int) := by
  by_cases hn : n < 0
  · have e1 : IntKind.u64.wrap (IntKind.u64.wrap n * 2) = (((2 * n + 18446744073709551616).toNat : Nat) : Int) := by
      rw [IntKind.wrap_u64, IntKind.wrap_u64]
      omega
    have e2 : IntKind.u64.wrap (n / 9223372036854775808) = ((2 ^ 64 - 1 : Nat) : Int) := by
      rw [IntKind.wrap_u64]
      omega
    rw [e1, e2, bits_xor_u64_nat _ _ (by omega) (by decide), Nat.xor_comm, Lib.xor_ones64 _ (by omega)]
    unfold Ob.zz
    rw [if_pos hn]
    omega
  · have e1 : IntKind.u64.wrap (IntKind.u64.wrap n * 2) = (((2 * n).toNat : Nat) : Int) := by
      rw [IntKind.wrap_u64, IntKind.wrap_u64]
      omega
    have e2 : IntKind.u64.wrap (n / 9223372036854775808) = ((0 : Nat) : Int) := by
      rw [IntKind.wrap_u64]
      omega
    rw [e1, e2, bits_xor_u64_nat _ _ (by omega) (by decide), Nat.xor_zero]
    unfold Ob.zz
    rw [if_neg hn]
    omega
theorem big_byte (x : Nat) : byteVal (UInt8.ofNat (x % 128 + 128)) = .int .u8 ((x : Int) % 128 + 128) := by
  unfold byteVal; rw [Ob.u8_small (by omega)]; congr 1
theorem small_byte {x : Nat} (h : x < 128) : byteVal (UInt8.ofNat x) = .int .u8 (x : Int) := by
  unfold byteVal; rw [Ob.u8_small (by omega)]
theorem or_byte (x : Nat) : bits .or .u8 ((x : Int) % 256) 128 = ((x : Int) % 128 + 128) := by
  rw [Lib.u8_or128_any _ (by omega) (by omega)]
  omega

set_option maxRecDepth 100000 in
set_option maxHeartbeats 800000 in
theorem appended_gen (base : Nat) (v : Value) (bs : List UInt8) (n : Int) (w : World) (ho : Row2 base 5 1 w v bs.length (bs.map byteVal)) (hb : base ≤ w.heap.size) (hl : bs.length ≤ 1000000000) (hn : (Lit.int .i64 n).wf = true) :
    Calls Try.prog 72 #[v, .int .i64 n] w fun e w' => ∃ v', e = .returned v' ∧ w'.ownsRow base 5 1 v' (bs ++ Ob.num n).length ((bs ++ Ob.num n).map byteVal) ∧ Grew w w' v v' := by
  have hg0 := Grew.refl w v
  obtain ⟨v0, hv0⟩ : ∃ x, x = v := ⟨_, rfl⟩
  rw [← hv0] at ho ⊢
  have Hg0 : Hid (Grew w w v0 v0) := by rw [hv0]; exact hg0
  clear hg0 hv0 v
  obtain ⟨p, cap, hv⟩ := ho.parts
  have HO := Lib.hid ho
  obtain ⟨q, hq⟩ : ∃ q, bs.length = q := ⟨_, rfl⟩
  rw [hq] at HO hl
  have Hq := Lib.hid hq
  obtain ⟨hn0, hn1⟩ := wf_i64 hn
  have hzz := zz_bits hn0 hn1
  have Hnl := Lib.hid (Ob.num_len hn0 hn1)
  have hz64 := Ob.zz_lt hn0 hn1
  have hdone : Hid ([] ++ Ob.enc (Ob.zz n) = Ob.num n) := rfl
  obtain ⟨z, hz⟩ : ∃ z, Ob.zz n = z := ⟨_, rfl⟩
  rw [hz] at hzz hz64 hdone
  obtain ⟨V, hV⟩ : ∃ V, V = v0 := ⟨_, rfl⟩
  have HV := Lib.hid hV
  subst hv
  rw [hq] at HV ⊢
  have Hg0 := Hg0
  rw [hq, ← HV.out] at Hg0
  rw [hq, ← HV.out] at HO
  clear ho hq hn hn0 hn1 hz hV
  go_enter Try.func72, Try.ntmps72
  go_upto_region 2 with fail
  clear hzz
  go_loopw [0, 5] (fun v0 u wr => ∃ (x : Nat) (done : List UInt8), u = .int .u64 x ∧ x < 18446744073709551616 ∧ Hid (done ++ Ob.enc x = Ob.num n) ∧ Hid (Row2 base 5 1 wr v0 (q + done.length) ((bs ++ done).map byteVal)) ∧ Hid (Grew w wr V v0)) (fun _ u _ => (intOf u).toNat)
  case atStart => exact ⟨z, [], rfl, hz64, hdone, by rw [List.append_nil]; rw [HV.out] at HO; exact HO, by have := Hg0.out; rw [HV.out] at this ⊢; exact this⟩
  case round =>
    obtain ⟨x, done, rfl, hx, hD, hO, hG⟩ := hrel
    have hsz := hG.out.size
    have hdl : done.length < 10 := by
      have h1 := congrArg List.length hD.out
      rw [List.length_append] at h1
      have h2 := List.length_pos_iff.2 (Ob.enc_ne x)
      have := Hnl.out
      omega
    obtain ⟨d, hd⟩ : ∃ d, done.length = d := ⟨_, rfl⟩
    rw [hd] at hO hdl
    have Hd := Lib.hid hd
    clear hd
    by_cases h1 : x < 128
    · have d1 : decide ((x : Int) ≥ 128) = false := decide_eq_false (by omega)
      obtain ⟨wb, hwb, hbv, hbb⟩ := fresh_blk wr [Value.int .u8 (x : Int)] 5
      have hsrc : Src Try.prog 1 61 (.slice (some ⟨wr.heap.size, 0, none⟩) 1 1) 1 [Value.int .u8 (x : Int)] wb :=
        Src.ofSlice wb (e' := 5) Try.underlying61 _ 1 1 _ rfl (fun j u hj => by rw [Addr.add_lit, Nat.zero_add]; exact (hbv.cells j).trans hj) (fun u hu => by rw [List.mem_singleton.1 hu]; rfl)
      have Hsrc := Lib.hid hsrc
      have HOb := Lib.hid (hO.out.below hbb)
      have HGb := Lib.hid (hG.out.trans (Grew.of_below hbb u0))
      have hsb : base ≤ wb.heap.size := Nat.le_trans hb (Nat.le_trans hsz hbb.size)
      obtain ⟨p0, c0, rfl⟩ := hO.out.parts
      clear hsrc hbv hbb hO hG
      go_wp2_with (at_builtin; (try rw [hwb]); refine app_two _ _ 61 61 5 (.int .u8 0) 1 1 rfl rfl Try.underlying61 (by kernel_rfl) rfl (by decide) base HOb.out hsb rfl rfl Hsrc.out (by decide) (by unfold maxLen; omega) (by omega) ?_)
      intro v9 w9 ho9 hg9 ha9
      have HO9 : Hid (w9.ownsRow base 5 1 v9 (bs ++ Ob.num n).length ((bs ++ Ob.num n).map byteVal)) := by
        have h2 := hD.out
        rw [Ob.enc, dif_pos h1] at h2
        rw [← h2, ← List.append_assoc]
        show w9.ownsRow base _ 1 v9 (bs ++ done ++ [UInt8.ofNat x]).length ((bs ++ done ++ [UInt8.ofNat x]).map byteVal)
        have h3 := ho9
        rw [← List.append_assoc, ← List.map_append] at h3
        rw [List.length_append, List.length_append, Hq.out, Hd.out, List.map_append, List.map_singleton, small_byte h1]
        exact h3
      have HG9 := Lib.hid (HGb.out.trans (Grew.of_grown hg9 ha9))
      clear ho9 hg9 ha9 hwb
      go_wp2_with fail
      go_ret
      exact ⟨v9, rfl, HO9.out, by have h1 := HG9.out; rw [HV.out] at h1; exact h1⟩
    · have d1 : decide ((x : Int) ≥ 128) = true := decide_eq_true (by omega)
      have hor := or_byte x
      obtain ⟨wb, hwb, hbv, hbb⟩ := fresh_blk wr [Value.int .u8 ((x : Int) % 128 + 128)] 5
      have hsrc : Src Try.prog 1 61 (.slice (some ⟨wr.heap.size, 0, none⟩) 1 1) 1 [Value.int .u8 ((x : Int) % 128 + 128)] wb :=
        Src.ofSlice wb (e' := 5) Try.underlying61 _ 1 1 _ rfl (fun j u hj => by rw [Addr.add_lit, Nat.zero_add]; exact (hbv.cells j).trans hj) (fun u hu => by rw [List.mem_singleton.1 hu]; rfl)
      have Hsrc := Lib.hid hsrc
      have HOb := Lib.hid (hO.out.below hbb)
      have HGb := Lib.hid (hG.out.trans (Grew.of_below hbb u0))
      have hsb : base ≤ wb.heap.size := Nat.le_trans hb (Nat.le_trans hsz hbb.size)
      obtain ⟨p0, c0, rfl⟩ := hO.out.parts
      clear hsrc hbv hbb hO hG
      go_wp2_with (at_builtin; (try rw [hwb]); refine app_two _ _ 61 61 5 (.int .u8 0) 1 1 rfl rfl Try.underlying61 (by kernel_rfl) rfl (by decide) base HOb.out hsb rfl rfl Hsrc.out (by decide) (by unfold maxLen; omega) (by omega) ?_)
      intro v9 w9 ho9 hg9 ha9
      have HO9 : Hid (w9.ownsRow base 5 1 v9 (q + (done ++ [UInt8.ofNat (x % 128 + 128)]).length) ((bs ++ (done ++ [UInt8.ofNat (x % 128 + 128)])).map byteVal)) := by
        show w9.ownsRow base _ 1 v9 _ _
        have h3 := ho9
        rw [← List.append_assoc, ← List.map_append] at h3
        rw [← List.append_assoc, List.length_append, Hd.out, List.map_append, List.map_singleton, big_byte]
        exact h3
      have hD9 : Hid ((done ++ [UInt8.ofNat (x % 128 + 128)]) ++ Ob.enc (x / 128) = Ob.num n) := by
        have h2 := hD.out
        rw [Ob.enc, dif_neg h1] at h2
        rw [← h2, List.append_assoc]
        rfl
      have HG9 := Lib.hid (HGb.out.trans (Grew.of_grown hg9 ha9))
      clear ho9 hg9 ha9 hwb hor
      go_wp2_with fail
      go_roundw
      case rel => exact ⟨x / 128, _, val_int (by omega), by omega, hD9, .inl HO9.out, HG9⟩
      case measure => simp [intOf]; omega
theorem appended_any (base : Nat) (v : Value) (bs : List UInt8) (n : Int) (w : World) (ho : w.ownsRow base 5 1 v bs.length (bs.map byteVal)) (hb : base ≤ w.heap.size) (hl : bs.length ≤ 1000000000) (hn : (Lit.int .i64 n).wf = true) :
    Calls Try.prog 72 #[v, .int .i64 n] w fun e w' => ∃ v', e = .returned v' ∧ w'.ownsRow base 5 1 v' (bs ++ Ob.num n).length ((bs ++ Ob.num n).map byteVal) ∧ Grew w w' v v' :=
  appended_gen base v bs n w (.inl ho) hb hl hn
theorem and_word (x : Nat) (h : x < 18446744073709551616) : bits .and .u64 (x : Int) 127 = (x : Int) % 128 := by
  have h := bits_mask .u64 64 (by decide) wraps_u64 7 (by decide) (x : Int) (by omega) (by omega)
  simpa using h
theorem or_byte2 (x : Nat) : bits .or .u8 ((x : Int) % 128) 128 = (x : Int) % 128 + 128 := by
  rw [Lib.u8_or128_any _ (by omega) (by omega)]
  omega
theorem zz_zigzag (n : Int) : Lib.zigzag n = Ob.zz n := by
  unfold Lib.zigzag Ob.zz
  by_cases h : n < 0
  · rw [if_neg (by omega), if_pos h]; congr 1; omega
  · rw [if_pos (by omega), if_neg h]; congr 1; omega

theorem number_any (n : Int) (w : World) (hn : (Lit.int .i64 n).wf = true) :
    Calls Try.prog 66 #[.int .i64 n] w fun e w' => ∃ v', e = .returned v' ∧ w'.ownsRow w.heap.size 5 1 v' (Ob.num n).length ((Ob.num n).map byteVal) ∧ Below w.heap.size w w' := by
  have H := Lib.hid (appended_any w.heap.size (.slice none 0 0) [] n w (World.ownsRow_nil _ _ _ _) (Nat.le_refl _) (by simp) hn)
  go_enter Try.func66, Try.ntmps66
  go_wp2_with fail
  refine H.out.mono ?_
  rintro e w2 ⟨v2, rfl, ho2, hg2⟩
  have HO := Lib.hid ho2
  have HB := Lib.hid (hg2.below (Below.refl w.heap.size w) (Nat.le_refl _) fun k hk => by cases hk)
  clear ho2 hg2
  go_wp2_with fail
  go_ret
  exact ⟨v2, rfl, HO.out, HB.out⟩

set_option maxRecDepth 100000 in
set_option maxHeartbeats 800000 in
theorem rnumber_any (n : Int) (w : World) (hn : (Lit.int .i64 n).wf = true) :
    Calls Try.prog 36 #[.int .i64 n] w fun e w' => ∃ v', e = .returned v' ∧ w'.ownsRow w.heap.size 5 1 v' (Ob.num n).length ((Ob.num n).map byteVal) ∧ Below w.heap.size w w' := by
  obtain ⟨hn0, hn1⟩ := wf_i64 hn
  have Hnl := Lib.hid (Ob.num_len hn0 hn1)
  have hz64 := Ob.zz_lt hn0 hn1
  have hdone : Hid ([] ++ Ob.enc (Ob.zz n) = Ob.num n) := rfl
  obtain ⟨z, hz⟩ : ∃ z, Ob.zz n = z := ⟨_, rfl⟩
  have Hz := Lib.hid hz
  rw [hz] at hz64 hdone
  clear hz hn
  go_enter Try.func36, Try.ntmps36
  by_cases hneg : n < 0
  · go_upto_region 5 with fail
    rw [Lib.zigzag_neg hn0 hneg, zz_zigzag, Hz.out]
    clear hneg hn0 hn1
    go_loopw [3, 4] (fun u v0 wr => ∃ (x : Nat) (done : List UInt8), u = .int .u64 x ∧ x < 18446744073709551616 ∧ Hid (done ++ Ob.enc x = Ob.num n) ∧ Hid (wr.ownsRow w.heap.size 5 1 v0 (done.length) (done.map byteVal)) ∧ Hid (Grew w wr (.slice none 0 0) v0)) (fun u _ _ => (intOf u).toNat)
    case atStart => exact ⟨z, [], rfl, hz64, hdone, World.ownsRow_nil _ _ _ _, Grew.refl _ _⟩
    case round =>
      obtain ⟨x, done, rfl, hx, hD, hO, hG⟩ := hrel
      have hsz := hG.out.size
      have hdl : done.length < 10 := by
        have h1 := congrArg List.length hD.out
        rw [List.length_append] at h1
        have h2 := List.length_pos_iff.2 (Ob.enc_ne x)
        have := Hnl.out
        omega
      obtain ⟨d, hd⟩ : ∃ d, done.length = d := ⟨_, rfl⟩
      rw [hd] at hO hdl
      have Hd := Lib.hid hd
      clear hd
      by_cases h1 : x < 128
      · have d1 : decide ((x : Int) ≥ 128) = false := decide_eq_false (by omega)
        obtain ⟨wb, hwb, hbv, hbb⟩ := fresh_blk wr [Value.int .u8 (x : Int)] 5
        have hsrc : Src Try.prog 1 61 (.slice (some ⟨wr.heap.size, 0, none⟩) 1 1) 1 [Value.int .u8 (x : Int)] wb :=
          Src.ofSlice wb (e' := 5) Try.underlying61 _ 1 1 _ rfl (fun j u hj => by rw [Addr.add_lit, Nat.zero_add]; exact (hbv.cells j).trans hj) (fun u hu => by rw [List.mem_singleton.1 hu]; rfl)
        have Hsrc := Lib.hid hsrc
        have HOb := Lib.hid (ownsRow_below hO.out hbb)
        have HGb := Lib.hid (hG.out.trans (Grew.of_below hbb u4))
        have hsb : w.heap.size ≤ wb.heap.size := Nat.le_trans hsz hbb.size
        obtain ⟨p0, c0, rfl, _, _⟩ := ownsRow_holds3 hO.out
        clear hsrc hbv hbb hO hG
        go_wp2_with (at_builtin; (try rw [hwb]); refine app_at _ _ 61 61 5 (.int .u8 0) 1 1 rfl rfl Try.underlying61 (by kernel_rfl) rfl (by decide) w.heap.size HOb.out hsb rfl rfl Hsrc.out (by unfold maxLen; omega) (by omega) ?_)
        intro v9 w9 ho9 hg9 ha9
        have HO9 : Hid (w9.ownsRow w.heap.size 5 1 v9 (Ob.num n).length ((Ob.num n).map byteVal)) := by
          have h2 := hD.out
          rw [Ob.enc, dif_pos h1] at h2
          rw [← h2]
          show w9.ownsRow w.heap.size _ 1 v9 (done ++ [UInt8.ofNat x]).length ((done ++ [UInt8.ofNat x]).map byteVal)
          rw [List.length_append, Hd.out, List.map_append, List.map_singleton, small_byte h1]
          exact ho9
        have HG9 := Lib.hid (HGb.out.trans (Grew.of_grown hg9 ha9))
        clear ho9 hg9 ha9 hwb
        go_wp2_with fail
        go_ret
        exact ⟨v9, rfl, HO9.out, HG9.out.below (Below.refl _ _) (Nat.le_refl _) fun k hk => by cases hk⟩
      · have d1 : decide ((x : Int) ≥ 128) = true := decide_eq_true (by omega)
        have hor := or_byte2 x
        have hand := and_word x hx
        obtain ⟨wb, hwb, hbv, hbb⟩ := fresh_blk wr [Value.int .u8 ((x : Int) % 128 + 128)] 5
        have hsrc : Src Try.prog 1 61 (.slice (some ⟨wr.heap.size, 0, none⟩) 1 1) 1 [Value.int .u8 ((x : Int) % 128 + 128)] wb :=
          Src.ofSlice wb (e' := 5) Try.underlying61 _ 1 1 _ rfl (fun j u hj => by rw [Addr.add_lit, Nat.zero_add]; exact (hbv.cells j).trans hj) (fun u hu => by rw [List.mem_singleton.1 hu]; rfl)
        have Hsrc := Lib.hid hsrc
        have HOb := Lib.hid (ownsRow_below hO.out hbb)
        have HGb := Lib.hid (hG.out.trans (Grew.of_below hbb u4))
        have hsb : w.heap.size ≤ wb.heap.size := Nat.le_trans hsz hbb.size
        obtain ⟨p0, c0, rfl, _, _⟩ := ownsRow_holds3 hO.out
        clear hsrc hbv hbb hO hG
        go_wp2_with (at_builtin; (try rw [hwb]); refine app_at _ _ 61 61 5 (.int .u8 0) 1 1 rfl rfl Try.underlying61 (by kernel_rfl) rfl (by decide) w.heap.size HOb.out hsb rfl rfl Hsrc.out (by unfold maxLen; omega) (by omega) ?_)
        intro v9 w9 ho9 hg9 ha9
        have HO9 : Hid (w9.ownsRow w.heap.size 5 1 v9 ((done ++ [UInt8.ofNat (x % 128 + 128)]).length) ((done ++ [UInt8.ofNat (x % 128 + 128)]).map byteVal)) := by
          show w9.ownsRow w.heap.size _ 1 v9 _ _
          rw [List.length_append, Hd.out, List.map_append, List.map_singleton, big_byte]
          exact ho9
        have hD9 : Hid ((done ++ [UInt8.ofNat (x % 128 + 128)]) ++ Ob.enc (x / 128) = Ob.num n) := by
          have h2 := hD.out
          rw [Ob.enc, dif_neg h1] at h2
          rw [← h2, List.append_assoc]
          rfl
        have HG9 := Lib.hid (HGb.out.trans (Grew.of_grown hg9 ha9))
        clear ho9 hg9 ha9 hwb hor hand
        go_wp2_with fail
        go_roundw
        case rel => exact ⟨x / 128, _, val_int (by omega), by omega, hD9, HO9, HG9⟩
        case measure => simp [intOf]; omega
  · go_upto_region 5 with fail
    rw [show n * 2 = (z : Int) by have := Hz.out; unfold Ob.zz at this; rw [if_neg (by omega)] at this; omega]
    clear hneg hn0 hn1
    go_loopw [3, 4] (fun u v0 wr => ∃ (x : Nat) (done : List UInt8), u = .int .u64 x ∧ x < 18446744073709551616 ∧ Hid (done ++ Ob.enc x = Ob.num n) ∧ Hid (wr.ownsRow w.heap.size 5 1 v0 (done.length) (done.map byteVal)) ∧ Hid (Grew w wr (.slice none 0 0) v0)) (fun u _ _ => (intOf u).toNat)
    case atStart => exact ⟨z, [], rfl, hz64, hdone, World.ownsRow_nil _ _ _ _, Grew.refl _ _⟩
    case round =>
      obtain ⟨x, done, rfl, hx, hD, hO, hG⟩ := hrel
      have hsz := hG.out.size
      have hdl : done.length < 10 := by
        have h1 := congrArg List.length hD.out
        rw [List.length_append] at h1
        have h2 := List.length_pos_iff.2 (Ob.enc_ne x)
        have := Hnl.out
        omega
      obtain ⟨d, hd⟩ : ∃ d, done.length = d := ⟨_, rfl⟩
      rw [hd] at hO hdl
      have Hd := Lib.hid hd
      clear hd
      by_cases h1 : x < 128
      · have d1 : decide ((x : Int) ≥ 128) = false := decide_eq_false (by omega)
        obtain ⟨wb, hwb, hbv, hbb⟩ := fresh_blk wr [Value.int .u8 (x : Int)] 5
        have hsrc : Src Try.prog 1 61 (.slice (some ⟨wr.heap.size, 0, none⟩) 1 1) 1 [Value.int .u8 (x : Int)] wb :=
          Src.ofSlice wb (e' := 5) Try.underlying61 _ 1 1 _ rfl (fun j u hj => by rw [Addr.add_lit, Nat.zero_add]; exact (hbv.cells j).trans hj) (fun u hu => by rw [List.mem_singleton.1 hu]; rfl)
        have Hsrc := Lib.hid hsrc
        have HOb := Lib.hid (ownsRow_below hO.out hbb)
        have HGb := Lib.hid (hG.out.trans (Grew.of_below hbb u4))
        have hsb : w.heap.size ≤ wb.heap.size := Nat.le_trans hsz hbb.size
        obtain ⟨p0, c0, rfl, _, _⟩ := ownsRow_holds3 hO.out
        clear hsrc hbv hbb hO hG
        go_wp2_with (at_builtin; (try rw [hwb]); refine app_at _ _ 61 61 5 (.int .u8 0) 1 1 rfl rfl Try.underlying61 (by kernel_rfl) rfl (by decide) w.heap.size HOb.out hsb rfl rfl Hsrc.out (by unfold maxLen; omega) (by omega) ?_)
        intro v9 w9 ho9 hg9 ha9
        have HO9 : Hid (w9.ownsRow w.heap.size 5 1 v9 (Ob.num n).length ((Ob.num n).map byteVal)) := by
          have h2 := hD.out
          rw [Ob.enc, dif_pos h1] at h2
          rw [← h2]
          show w9.ownsRow w.heap.size _ 1 v9 (done ++ [UInt8.ofNat x]).length ((done ++ [UInt8.ofNat x]).map byteVal)
          rw [List.length_append, Hd.out, List.map_append, List.map_singleton, small_byte h1]
          exact ho9
        have HG9 := Lib.hid (HGb.out.trans (Grew.of_grown hg9 ha9))
        clear ho9 hg9 ha9 hwb
        go_wp2_with fail
        go_ret
        exact ⟨v9, rfl, HO9.out, HG9.out.below (Below.refl _ _) (Nat.le_refl _) fun k hk => by cases hk⟩
      · have d1 : decide ((x : Int) ≥ 128) = true := decide_eq_true (by omega)
        have hor := or_byte2 x
        have hand := and_word x hx
        obtain ⟨wb, hwb, hbv, hbb⟩ := fresh_blk wr [Value.int .u8 ((x : Int) % 128 + 128)] 5
        have hsrc : Src Try.prog 1 61 (.slice (some ⟨wr.heap.size, 0, none⟩) 1 1) 1 [Value.int .u8 ((x : Int) % 128 + 128)] wb :=
          Src.ofSlice wb (e' := 5) Try.underlying61 _ 1 1 _ rfl (fun j u hj => by rw [Addr.add_lit, Nat.zero_add]; exact (hbv.cells j).trans hj) (fun u hu => by rw [List.mem_singleton.1 hu]; rfl)
        have Hsrc := Lib.hid hsrc
        have HOb := Lib.hid (ownsRow_below hO.out hbb)
        have HGb := Lib.hid (hG.out.trans (Grew.of_below hbb u4))
        have hsb : w.heap.size ≤ wb.heap.size := Nat.le_trans hsz hbb.size
        obtain ⟨p0, c0, rfl, _, _⟩ := ownsRow_holds3 hO.out
        clear hsrc hbv hbb hO hG
        go_wp2_with (at_builtin; (try rw [hwb]); refine app_at _ _ 61 61 5 (.int .u8 0) 1 1 rfl rfl Try.underlying61 (by kernel_rfl) rfl (by decide) w.heap.size HOb.out hsb rfl rfl Hsrc.out (by unfold maxLen; omega) (by omega) ?_)
        intro v9 w9 ho9 hg9 ha9
        have HO9 : Hid (w9.ownsRow w.heap.size 5 1 v9 ((done ++ [UInt8.ofNat (x % 128 + 128)]).length) ((done ++ [UInt8.ofNat (x % 128 + 128)]).map byteVal)) := by
          show w9.ownsRow w.heap.size _ 1 v9 _ _
          rw [List.length_append, Hd.out, List.map_append, List.map_singleton, big_byte]
          exact ho9
        have hD9 : Hid ((done ++ [UInt8.ofNat (x % 128 + 128)]) ++ Ob.enc (x / 128) = Ob.num n) := by
          have h2 := hD.out
          rw [Ob.enc, dif_neg h1] at h2
          rw [← h2, List.append_assoc]
          rfl
        have HG9 := Lib.hid (HGb.out.trans (Grew.of_grown hg9 ha9))
        clear ho9 hg9 ha9 hwb hor hand
        go_wp2_with fail
        go_roundw
        case rel => exact ⟨x / 128, _, val_int (by omega), by omega, hD9, HO9, HG9⟩
        case measure => simp [intOf]; omega
end Go.Proofs.Ythjfahimfcadnaa
/- Objects: lists of numbers, plain objects. -/
namespace Go.Ob
structure Op where
  kind : Int
  a : Int
  b : Int
  c : Int
  list : List Int
  sym : List UInt8
structure Plc where
  slots : Int
  at_ : List Int
  params : Int
  regs : Int
  ops : List Op
def lst (l : List Int) : List UInt8 := num l.length ++ l.flatMap num
def opB (o : Op) : List UInt8 := num o.kind ++ num o.a ++ num o.b ++ num o.c ++ lst o.list ++ num o.sym.length ++ o.sym
def objB (p : Plc) : List UInt8 := [79] ++ num p.slots ++ lst p.at_ ++ num p.regs ++ num p.ops.length ++ p.ops.flatMap opB
def wf (n : Int) : Prop := -9223372036854775808 ≤ n ∧ n ≤ 9223372036854775807
theorem nums_len : ∀ {l : List Int}, (∀ n ∈ l, wf n) → (l.flatMap num).length ≤ 10 * l.length
  | [], _ => by simp
  | n :: l, h => by
    have h1 := nums_len fun m hm => h m (List.mem_cons_of_mem _ hm)
    have h2 := h n List.mem_cons_self
    have h3 := num_len h2.1 h2.2
    rw [List.flatMap_cons, List.length_append, List.length_cons]
    omega
theorem flat_snoc {α : Type} {l : List α} {k : Nat} {x : α} (f : α → List UInt8) (h : l[k]? = some x) : (l.take (k + 1)).flatMap f = (l.take k).flatMap f ++ f x := by
  obtain ⟨h1, h2⟩ := List.getElem?_eq_some_iff.1 h
  rw [List.take_succ_eq_append_getElem h1, h2, List.flatMap_append]
  simp
end Go.Ob
namespace Go.Proofs.Ythjfahimfcadnaa
open Go.ChangeShapes Go.WideShapes Go.RowKit

theorem wf_of {n : Int} (h : Ob.wf n) : (Lit.int .i64 n).wf = true := by
  have h0 := h.1
  have h1 := h.2
  simp [Lit.wf, IntKind.min, IntKind.max, IntKind.bits, IntKind.signed]
  omega
theorem wf_nat {n : Nat} (h : n ≤ 9223372036854775807) : Ob.wf n := ⟨by omega, by omega⟩

/-- a slice of ints that is only read -/
def NRow (A : Nat → Prop) (w : World) (v : Value) (l : List Int) : Prop :=
  ∃ p cap, v = .slice p l.length cap ∧ Holds A w p (l.map (.int .i64)) ∧ l.length ≤ cap
theorem NRow.keep {A : Nat → Prop} {w w' : World} {v : Value} {l : List Int} (h : NRow A w v l) (hk : Agree A w w') : NRow A w' v l := by
  obtain ⟨p, cap, hv, hh, hc⟩ := h; exact ⟨p, cap, hv, hh.keep hk, hc⟩
theorem NRow.mono {A B : Nat → Prop} {w : World} {v : Value} {l : List Int} (h : NRow A w v l) (hk : ∀ g, A g → B g) : NRow B w v l := by
  obtain ⟨p, cap, hv, hh, hc⟩ := h; exact ⟨p, cap, hv, hh.mono hk, hc⟩
theorem NRow.parts {A : Nat → Prop} {w : World} {v : Value} {l : List Int} (h : NRow A w v l) : ∃ p cap, v = .slice p l.length cap := by
  obtain ⟨p, cap, hv, _⟩ := h; exact ⟨p, cap, hv⟩
theorem NRow.nil (A : Nat → Prop) (w : World) : NRow A w (.slice none 0 0) [] := ⟨none, 0, rfl, .inl rfl, Nat.le_refl _⟩
theorem NRow.lt {A : Nat → Prop} {w : World} {v : Value} {l : List Int} (h : NRow A w v l) : NRow (fun g => A g ∧ g < w.heap.size) w v l := by
  obtain ⟨p, cap, hv, hh, hc⟩ := h
  refine ⟨p, cap, hv, ?_, hc⟩
  by_cases hne : 0 < (l.map (Value.int .i64)).length
  · obtain ⟨g, off, hp, hA, hlt, hcell⟩ := hh.at hne
    exact .inr ⟨g, off, hp, ⟨hA, hlt⟩, hcell⟩
  · exact .inl (List.eq_nil_of_length_eq_zero (by omega))
theorem NRow.at {A : Nat → Prop} {w : World} {p : Option Addr} {n cap : Nat} {l : List Int} (h : NRow A w (.slice p n cap) l) {k : Nat} {z : Int} (hz : l[k]? = some z) :
    ∃ g o, p = some ⟨g, o, none⟩ ∧ A g ∧ g < w.heap.size ∧ w.cell? ⟨g, o + k, none⟩ = some (.int .i64 z) := by
  obtain ⟨p', cap', hv, hh, _⟩ := h
  simp only [Value.slice.injEq] at hv
  obtain ⟨rfl, rfl, _⟩ := hv
  have hlt := (List.getElem?_eq_some_iff.1 hz).1
  obtain ⟨g, o, rfl, hA, hg, hc⟩ := hh.at (by rw [List.length_map]; omega)
  exact ⟨g, o, rfl, hA, hg, hc k _ (by rw [List.getElem?_map, hz]; rfl)⟩

set_option maxRecDepth 100000 in
set_option maxHeartbeats 800000 in
theorem list_any {A : Nat → Prop} (base : Nat) (v lv : Value) (bs : List UInt8) (zs : List Int) (w : World) (ho : w.ownsRow base 5 1 v bs.length (bs.map byteVal)) (hb : base ≤ w.heap.size) (hl : bs.length + 10 * zs.length + 10 ≤ 1000000000) (hz : ∀ z ∈ zs, Ob.wf z) (hr : NRow A w lv zs) (hA : ∀ g, A g → some g ≠ v.ownBlock) :
    Calls Try.prog 73 #[v, lv] w fun e w' => ∃ v', e = .returned v' ∧ w'.ownsRow base 5 1 v' (bs ++ Ob.lst zs).length ((bs ++ Ob.lst zs).map byteVal) ∧ Grew w w' v v' := by
  obtain ⟨p, c, rfl⟩ := hr.parts
  obtain ⟨n, hn⟩ : ∃ n, zs.length = n := ⟨_, rfl⟩
  rw [hn] at hr hl ⊢
  have hnw : (Lit.int .i64 (n : Int)).wf = true := wf_of (wf_nat (by omega))
  have H1 := Lib.hid (appended_any base v bs (n : Int) w ho hb (by omega) hnw)
  have hlen := Ob.num_len (n := (n : Int)) (by omega) (by omega)
  have Hn := Lib.hid hn
  have HR := Lib.hid hr
  have Hz := Lib.hid hz
  have HA := Lib.hid hA
  have Hlen := Lib.hid hlen
  have hvo : ∀ k, v.ownBlock = some k → base ≤ k := fun k hk => (ho.lt k hk).1
  clear hr hz hA hn ho hlen hnw
  go_enter Try.func73, Try.ntmps73
  go_wp2_with fail
  refine H1.out.mono ?_
  rintro e w2 ⟨v2, rfl, ho2, hg2⟩
  have HO2 := Lib.hid ho2
  have HG2 := Lib.hid hg2
  clear H1 ho2 hg2
  go_upto_region 3 with fail
  go_loopw [0, 13] (fun v0 i wr => ∃ k : Nat, i = .int .i64 k ∧ k ≤ n ∧ Hid (wr.ownsRow base 5 1 v0 (bs ++ Ob.num n ++ (zs.take k).flatMap Ob.num).length ((bs ++ Ob.num n ++ (zs.take k).flatMap Ob.num).map byteVal)) ∧ Hid (Grew w wr v v0)) (fun _ i _ => n - (intOf i).toNat)
  case atStart => exact ⟨0, rfl, Nat.zero_le _, by rw [List.take_zero, List.flatMap_nil, List.append_nil]; exact HO2, HG2⟩
  case round =>
    obtain ⟨k, rfl, hk, hO, hG⟩ := hrel
    clear HO2 HG2
    generalize wr = wk at *
    by_cases hlt : k < n
    · have hd : decide ((k : Int) < (n : Int)) = true := decide_eq_true (by omega)
      have hkl : k < zs.length := by rw [Hn.out]; exact hlt
      obtain ⟨z, hzz⟩ : ∃ z, zs[k] = z := ⟨_, rfl⟩
      have hzk : zs[k]? = some z := by rw [← hzz]; exact List.getElem?_eq_getElem hkl
      obtain ⟨ga, oa, rfl, hAg, hga, hc⟩ := HR.out.at hzk
      have hne := HA.out ga hAg
      have hga2 : ga < wk.heap.size := Nat.lt_of_lt_of_le hga hG.out.size
      have hcell : wk.cell? ⟨ga, oa + k, none⟩ = some (.int .i64 z) := by
        rw [World.cell?_of_block (w := w) (hG.out.block ga hga hne)]; exact hc
      have hzw := Hz.out z (List.mem_of_getElem? hzk)
      have hsn := Ob.flat_snoc Ob.num hzk
      have hbl : (bs ++ Ob.num n ++ (zs.take k).flatMap Ob.num).length ≤ 1000000000 := by
        have h1 := Ob.nums_len (l := zs.take k) fun m hm => Hz.out m (List.mem_of_mem_take hm)
        have h2 := Hlen.out
        rw [List.length_take] at h1
        rw [List.length_append, List.length_append]
        omega
      have H2 := Lib.hid (appended_any base u0 _ z wk hO.out (Nat.le_trans hb hG.out.size) hbl (wf_of hzw))
      have Hsn := Lib.hid hsn
      clear hzz hzk hc hne hzw hsn hbl hkl
      go_wp2_with fail
      refine H2.out.mono ?_
      rintro e w3 ⟨v3, rfl, ho3, hg3⟩
      rw [List.append_assoc, ← Hsn.out] at ho3
      have HO3 := Lib.hid ho3
      have HG3 := Lib.hid (hG.out.trans hg3)
      clear H2 ho3 hg3 hcell hga2
      go_wp2_with fail
      go_roundw
      case rel => exact ⟨k + 1, val_int (by omega), hlt, HO3, HG3⟩
      case measure => simp [intOf]; omega
    · have hd : decide ((k : Int) < (n : Int)) = false := decide_eq_false (by omega)
      have HOe : Hid (wk.ownsRow base 5 1 u0 (bs ++ Ob.lst zs).length ((bs ++ Ob.lst zs).map byteVal)) := by
        have h1 := hO.out
        rw [List.take_of_length_le (by rw [Hn.out]; omega)] at h1
        unfold Ob.lst
        rw [Hn.out, ← List.append_assoc]
        exact h1
      go_wp2_with fail
      go_ret
      exact ⟨u0, rfl, HOe.out, hG.out⟩
end Go.Proofs.Ythjfahimfcadnaa
