/- Part 10 of the walks that the laws of package hash share (Pool8, Pool9, Batch1, Batch2, Batch3). -/
import Derived.Test.YtnmjkgnahhbnoaaGreatM09
set_option linter.unusedVariables false
set_option linter.unusedSimpArgs false
/- Walks of package pool: the first page read through the pool. -/
namespace Go.Proofs.YtnmjkgnahhbnoaaGreat
open Go.RowKit
set_option linter.unusedSimpArgs false

theorem execBuild3 {Pr : Program} {o : Oper} (ev : Operand → Value) (w : World) (t : TypeId) (i j k : Nat) (x y z : Operand) (v : Value) (ho : o.op = .build t #[(i, x), (j, y), (k, z)])
    (h : (Instr.build t #[(i, ev x), (j, ev y), (k, ev z)]).run Pr w = .ok v w) : (execOp ev o).run Pr w = .ok (.value v) w := by
  unfold execOp
  have e : (#[(i, x), (j, y), (k, z)] : Array (Nat × Operand)).map (fun (i, x) => (i, ev x)) = #[(i, ev x), (j, ev y), (k, ev z)] := by simp
  simp only [ho, e, Sem.run_bind, h, Result.andThen_ok, Sem.run_pure]
theorem builtFr (parts : List (Nat × Value)) : Tryz.prog.built 143 parts = Instr.fill (#[(0, 1), (1, 512), (513, 1), (514, 1), (515, 1)][·]?) (frCells ⟨0, zpage, false⟩ 0 0).toArray parts := by kernel_rfl
theorem frBuild (w : World) (n : Nat) (pg : List UInt8) (u : Int) (h : pg.length = 512) : (Instr.build 143 #[(0, .int .i64 n), (1, aggB pg), (3, .int .i64 u)]).run Tryz.prog w = .ok (.agg (frCells ⟨n, pg, false⟩ u 0).toArray) w := by
  refine run_build w _ _ _ ?_
  have hz : zpage.length = 512 := zpage_length
  have e1 : over (frCells ⟨0, zpage, false⟩ 0 0) 0 [.int .i64 n] = frCells ⟨n, zpage, false⟩ 0 0 := rfl
  have e2 : over (frCells ⟨n, zpage, false⟩ 0 0) 1 (bvals pg) = frCells ⟨n, pg, false⟩ 0 0 := by
    have hd : ((bvals zpage) ++ [Value.bool false, .int .i64 0, .int .i64 0]).drop 512 = [Value.bool false, .int .i64 0, .int .i64 0] := List.drop_left' (by simp)
    simp [over, frCells, h, hd]
  have e3 : over (frCells ⟨n, pg, false⟩ 0 0) 514 [.int .i64 u] = frCells ⟨n, pg, false⟩ u 0 := by
    have hl : (Value.int .i64 (n : Int) :: bvals pg).length = 513 := by simp [h]
    unfold over frCells
    rw [show (514 : Nat) = (Value.int .i64 (n : Int) :: bvals pg).length + 1 by omega, List.take_length_add_append]
    rw [show (Value.int .i64 (n : Int) :: bvals pg).length + 1 + [Value.int .i64 u].length = (Value.int .i64 (n : Int) :: bvals pg).length + 2 by simp, List.drop_length_add_append]
    simp
  have l0 : (frCells ⟨0, zpage, false⟩ 0 0).length = 516 := frCells_len hz _ _
  have l1 : (frCells ⟨n, zpage, false⟩ 0 0).length = 516 := frCells_len hz _ _
  have l2 : (frCells ⟨n, pg, false⟩ 0 0).length = 516 := frCells_len h _ _
  rw [builtFr, fill_step _ _ _ _ _ 0 1 rfl rfl (by rw [List.size_toArray, l0]; omega)]
  show Instr.fill _ (over (frCells ⟨0, zpage, false⟩ 0 0) 0 [.int .i64 n]).toArray _ = _
  rw [e1, fill_step _ _ _ _ _ 1 512 rfl (by simpa [Value.cells] using h) (by rw [List.size_toArray, l1]; omega)]
  show Instr.fill _ (over (frCells ⟨n, zpage, false⟩ 0 0) 1 (bvals pg)).toArray _ = _
  rw [e2, fill_step _ _ _ _ _ 514 1 rfl rfl (by rw [List.size_toArray, l2]; omega)]
  show some (over (frCells ⟨n, pg, false⟩ 0 0) 514 [.int .i64 u]).toArray = _
  rw [e3]

set_option maxRecDepth 100000 in
set_option maxHeartbeats 1000000 in
theorem load0_any (p l d mN mK mH size most : Nat) (w : World) (h : PoolF w p l d mN mK mH size most) (hs : 16 ≤ size ∧ size ≤ 65536) (hm : 1 ≤ most) :
    Calls Tryz.prog 68 #[.pointer (some ⟨p, 0, none⟩), .int .i64 0] w fun e w' => ∃ f, e = .returned (.tuple #[.pointer (some ⟨f, 0, none⟩), .int .i64 0]) ∧ (∃ u a, Blk w' f 143 (frCells ⟨0, madeF (lowB 0) [], false⟩ u a)) ∧ Chg (fun k => k = p ∨ k = mH) w w' ∧ w.heap.size ≤ f ∧ w'.cell? ⟨p, 0, none⟩ = some (.pointer (some ⟨d, 0, none⟩)) := by
  have H := Lib.hid h
  have hlk := run_mapLookupOk (Pr := Tryz.prog) Tryz.underlying82 Tryz.underlying3 (.pointer none) Tryz.zeroValue139 H.out.has 0
  have c4 := H.out.blk.cell 4
  simp only [List.getElem?_cons_zero, List.getElem?_cons_succ] at c4
  clear h
  go_enter Tryz.func68, Tryz.ntmps68
  go_wp2_with fail
  refine (fetch0_any p l d mN mK mH size most w H.out hs).mono ?_
  rintro e w1 ⟨rfl, hf1⟩
  have H1 := Lib.hid (H.out.fresh hf1)
  have HF1 := Lib.hid hf1
  have HPK : Hid ((madeF (lowB 0) []).length = 512) := madeF_length _ _ (by simp [endF])
  clear hf1 H hlk c4
  generalize hpk : madeF (lowB 0) [] = pk at *
  have HPE := Lib.hid hpk
  clear hpk
  go_wp2_with (first
    | (refine wpList_allocA rfl 111 rfl (bvals zpage) Tryz.zeroValue111 ?_
       intro w2 HB2 HF2 HS2)
    | (refine wpList_storeA rfl 111 _ _ rfl w1.heap.size 0 rfl (bvals pk) rfl _ _ HB2.out (infoPage' HPK.out) (by simp [HPK.out]) bvals_one ?_
       intro w3 HB3 HC3))
  have hb3 := HB3.out
  rw [over_all _ _ (by simp [HPK.out])] at hb3
  have hf13 : Fresh w1 w3 := HF2.out.trans HC3.out (fun q hq e => by omega)
  have H3 := Lib.hid (H1.out.fresh hf13)
  have HF3 := Lib.hid (HF1.out.trans hf13 (fun _ _ f => f))
  have HB := Lib.hid hb3
  have hsz1 := HF1.out.size
  clear hb3 hf13 HB2 HF2 HS2 HB3 HC3 H1
  generalize w1.heap.size = q at *
  have hm0 : ((0 : Int) == (most : Int)) = false := by rw [beq_eq_false_iff_ne]; omega
  have c3 := H3.out.blk.cell 3
  have c2 := H3.out.blk.cell 2
  simp only [List.getElem?_cons_zero, List.getElem?_cons_succ] at c2 c3
  go_quiet (fail)
  have H4 := Lib.hid (H3.out.fresh ((Chg.refl _ w3).drewN nq))
  have HF4 := Lib.hid (HF3.out.drewN nq)
  have HB4 := Lib.hid (HB.out.drewN nq)
  clear c2 c3 H3 HF3 HB
  generalize w3.drewN nq = w4 at *
  have c5 := H4.out.blk.cell 5
  have z5 := H4.out.blk.frozen 5
  simp only [List.getElem?_cons_zero, List.getElem?_cons_succ] at c5
  go_wp2_with fail
  have hqp : q ≠ p := by
    rintro rfl
    have := HB4.out
    rw [Blk, H4.out.blk] at this; simp at this
  have hset : Chg (· = p) w4 (w4.setCell ⟨p, 5, none⟩ (.int .i64 1)) := (Chg.refl (fun x => x = p) w4).setCell (.inl rfl) _
  have HP5 : Hid (Blk (w4.setCell ⟨p, 5, none⟩ (.int .i64 1)) p 86 [.pointer (some ⟨d, 0, none⟩), .pointer (some ⟨l, 0, none⟩), .int .i64 most, .slice none 0 0, .map (some mH), .int .i64 1]) := H4.out.blk.set 5 (.int .i64 1)
  have HB5 := Lib.hid (HB4.out.chg hset hqp)
  have HM5 := Lib.hid (H4.out.has.chg hset (H4.out.has.blk H4.out.blk))
  have HF5 := Lib.hid (HF4.out.fresh.trans hset (fun _ _ h => h))
  have hne : ¬ mH = p := H4.out.has.blk H4.out.blk
  clear hset H4 HF4 HB4 c5 z5
  generalize w4.setCell ⟨p, 5, none⟩ (.int .i64 1) = w5 at *
  have HP6 := Lib.hid HP5.out.drew
  have HB6 := Lib.hid HB5.out.drew
  have HM6 : Hid (MapI w5.drew mH (fun _ => none)) := HM5.out.chg (Chg.refl (fun _ => False) _).drew id
  have HF6 := Lib.hid HF5.out.drew
  have c5 := HP6.out.cell 5
  simp only [List.getElem?_cons_zero, List.getElem?_cons_succ] at c5
  refine wp_region_still_tail 7 (by kernel_rfl) (by kernel_rfl) ?_
  simp only [List.take_succ_cons, List.take_zero, List.drop_succ_cons, List.drop_zero]
  change wpStill _ _ w5.drew _ _ _
  clear HP5 HB5 HM5 HF5
  still_step
  refine wpStill_loadA rfl 111 _ rfl q 0 rfl _ _ HB6.out 512 (bvals pk) (take_all _ _ (by simp [HPK.out])) _ Tryz.underlying111 rfl infoPage (by simp [HPK.out]) ?_
  still_step
  still_step
  still_step
  still_step
  refine wpStill_take rfl _ (execBuild3 _ _ _ _ _ _ _ _ _ _ rfl (frBuild _ 0 pk 1 HPK.out)) ?_
  refine wpStill_nil ?_
  change wpList _ _ _ _ _ w5.drew
  generalize w5.drew = w6 at *
  simp only [Act.put, List.setIfInBounds_toArray, List.set_cons_zero, List.set_cons_succ]
  have hfl : (frCells ⟨0, pk, false⟩ 1 0).length = 516 := frCells_len HPK.out _ _
  go_wp2_with (
    refine wpList_boxA rfl 143 _ rfl (frCells ⟨0, pk, false⟩ 1 0) rfl ?_
    intro w7 HB7 HF7 HS7)
  have hwq := HF6.out.size
  have hpf : p ≠ w6.heap.size := by have := HP6.out.lt; omega
  have c3 : w7.cell? ⟨p, 3, none⟩ = some (.slice none 0 0) := by rw [(HP6.out.chg HF7.out id).cell]; rfl
  have z3 := (HP6.out.chg HF7.out id).frozen 3
  refine (heapPush_first p w6.heap.size ⟨0, pk, false⟩ 1 0 w7 HB7.out HPK.out c3 z3 hpf).mono ?_
  rintro e w8 ⟨⟨v, rfl⟩, ⟨u8, a8, hb8⟩, hc8, hp8⟩
  have c8 : w8.cell? ⟨p, 4, none⟩ = some (.map (some mH)) := by rw [hp8 4 (by omega), (HP6.out.chg HF7.out id).cell]; rfl
  have c80 : w8.cell? ⟨p, 0, none⟩ = some (.pointer (some ⟨d, 0, none⟩)) := by rw [hp8 0 (by omega), (HP6.out.chg HF7.out id).cell]; rfl
  have C80 := Lib.hid c80
  clear c80
  have hmf : mH ≠ w6.heap.size := by have := HM6.out.lt; omega
  have HM8 := Lib.hid ((HM6.out.chg HF7.out id).chg hc8 (by rintro (h | h); exact hmf h; exact hne h))
  have HB8 := Lib.hid hb8
  have HF8 : Hid (Chg (fun k => k = p ∨ k = mH) w w8) := ((HF6.out.mono (fun k _ h => .inl h)).trans HF7.out.fresh (fun _ _ h => h)).trans hc8 (fun k hk h => by
    rcases h with h | h
    · omega
    · exact .inl h)
  clear hp8 hb8 hc8 c3 z3 HB7 HF7 HS7 HP6 HB6 HM6 HF6 c5
  generalize w6.heap.size = f at *
  go_wp2_with (
    with_reducible refine wpList_mapUpdateI rfl 82 _ _ _ rfl mH 0 (.pointer (some ⟨f, 0, none⟩)) rfl rfl rfl Tryz.underlying82 Tryz.underlying3 _ HM8.out ?_
    intro w9 HM9 HC9)
  go_ret2
  have hfm : ¬ f = mH := fun e => hmf e.symm
  refine ⟨f, rfl, ⟨u8, a8, ?_⟩, HF8.out.trans HC9.out (fun k _ h => .inr h), hwq, HC9.out.cell C80.out (fun e => hne e.symm)⟩
  rw [HPE.out]
  exact HB8.out.chg HC9.out hfm

set_option maxRecDepth 100000 in
set_option maxHeartbeats 1000000 in
theorem poolRead0 (p l d mN mK mH size most : Nat) (w : World) (h : PoolF w p l d mN mK mH size most) (hs : 16 ≤ size ∧ size ≤ 30720) (hm : 1 ≤ most) :
    Calls Tryz.prog 114 #[.pointer (some ⟨p, 0, none⟩), .int .i64 0] w fun e w' => e = .returned (.tuple #[aggB (madeF (lowB 0) []), .int .i64 0]) ∧ Chg (fun k => k = p ∨ k = mH) w w' ∧ w'.cell? ⟨p, 0, none⟩ = some (.pointer (some ⟨d, 0, none⟩)) := by
  have H := Lib.hid h
  clear h
  have hn2 : (0 : Int) < ((size / 8 : Nat) : Int) := by omega
  have hn3 : (0 : Int) < (size : Int) / 8 := by omega
  go_enter Tryz.func114, Tryz.ntmps114
  go_wp2_with (
    refine wpList_allocA rfl 111 rfl (bvals zpage) Tryz.zeroValue111 ?_
    intro w1 HB1 HF1 HS1
    have H1 := Lib.hid (H.out.fresh HF1.out))
  have hsz : PoolSz w1 p d size := ⟨by rw [H1.out.blk.cell]; rfl, by rw [H1.out.disk.blk.cell]; rfl, hs.2⟩
  refine (pages_any p d size _ hsz).mono ?_
  rintro e w2 ⟨rfl, rfl⟩
  go_wp2_with fail
  refine (load0_any p l d mN mK mH size most w1 H1.out ⟨hs.1, by omega⟩ hm).mono ?_
  rintro e w2 ⟨f, rfl, ⟨u, a, hb2⟩, hc2, hf, c0⟩
  have HPK : Hid ((madeF (lowB 0) []).length = 512) := madeF_length _ _ (by simp [endF])
  have hqp : ¬ w.heap.size = p ∧ ¬ w.heap.size = mH := ⟨by have := H.out.blk.lt; omega, by have := H.out.has.lt; omega⟩
  have HB2 := Lib.hid (HB1.out.chg hc2 (by rintro (h | h); exact hqp.1 h; exact hqp.2 h))
  have HC2 := Lib.hid (HF1.out.fresh.trans hc2 (fun _ _ h => h))
  have HFR := Lib.hid hb2
  have C0 := Lib.hid c0
  have hpl := H.out.blk.lt
  have hfs : w.heap.size < f := by have := HS1.out; omega
  clear hb2 hc2 c0 H HB1 HF1 H1 hsz
  generalize hpk : madeF (lowB 0) [] = pk at *
  have HPE := Lib.hid hpk
  clear hpk
  have hfc : ((frCells ⟨0, pk, false⟩ u a).drop 1).take 512 = bvals pk := by
    show ((bvals pk ++ _).take 512) = _
    exact List.take_left' (by simp [HPK.out])
  have HFC := Lib.hid hfc
  have HFL := Lib.hid (frCells_len (f := ⟨0, pk, false⟩) HPK.out u a)
  have HLE : Hid (1 + 512 ≤ (frCells ⟨0, pk, false⟩ u a).length) := by show _ ≤ _; rw [HFL.out]; omega
  clear hfc
  go_wp2_with (first
    | (refine wpList_loadA rfl 111 _ rfl f 1 rfl _ _ HFR.out 512 (bvals pk) HFC.out _ Tryz.underlying111 rfl infoPage HLE.out ?_)
    | (refine wpList_storeA rfl 111 _ _ rfl w.heap.size 0 rfl (bvals pk) rfl _ _ HB2.out (infoPage' HPK.out) (by simp [HPK.out]) bvals_one ?_
       intro w4 HB4 HC4))
  refine bodyPost_ret (results_cell_t Tryz.results114 _ _ w.heap.size 111 (bvals pk) _ rfl ?_ Tryz.underlying111 rfl (infoPage' HPK.out)) rfl ?_
  · have := HB4.out
    rwa [over_all _ _ (by simp [HPK.out])] at this
  · refine ⟨by rw [HPE.out]; rfl, HC2.out.trans HC4.out (fun b hb e => by omega), HC4.out.cell C0.out (fun e => hqp.1 e.symm)⟩

theorem imgGet_none {n : Nat} {L : List (Nat × List UInt8)} (h : imgGet n L = none) : imgRes n L = -1 := by
  unfold imgGet at h
  rw [imgRes, if_neg]
  intro hlt
  rw [List.getElem?_eq_getElem hlt] at h
  cases h

set_option maxRecDepth 100000 in
set_option maxHeartbeats 1000000 in
theorem bread_first (b p l d mN mK mH size most : Nat) (a : Option Addr) (cap : Nat) (L : List (Nat × List UInt8)) (w : World) (h : PoolF w p l d mN mK mH size most) (hb : BatchAt w b p a cap L) (hg : imgGet 0 L = none) (hs : 16 ≤ size ∧ size ≤ 30720) (hm : 1 ≤ most) :
    Calls Tryz.prog 84 #[.pointer (some ⟨b, 0, none⟩), .int .i64 0] w fun e w' => e = .returned (.tuple #[aggB (madeF (lowB 0) []), .int .i64 0]) ∧ Chg (fun k => k = p ∨ k = mH) w w' ∧ w'.cell? ⟨p, 0, none⟩ = some (.pointer (some ⟨d, 0, none⟩)) := by
  have HP := Lib.hid h
  have H := Lib.hid hb
  have hres := imgGet_none hg
  clear h hb hg
  go_enter Tryz.func84, Tryz.ntmps84
  go_wp2_with (
    refine wpList_allocA rfl 111 rfl (bvals zpage) Tryz.zeroValue111 ?_
    intro w1 HB1 HF1 HS1)
  refine (bfind_any b p _ cap L 0 _ (H.out.fresh HF1.out)).mono ?_
  rintro e w2 ⟨rfl, hf2⟩
  rw [hres]
  have HF2 := Lib.hid (HF1.out.trans hf2 (fun _ _ f => f))
  have HB2 := Lib.hid (HB1.out.chg hf2 id)
  have HP2 := Lib.hid (HP.out.fresh HF2.out)
  have c0 := (H.out.fresh HF2.out).blk.cell 0
  simp only [List.getElem?_cons_zero, List.getElem?_cons_succ] at c0
  have hqp : ¬ w.heap.size = p ∧ ¬ w.heap.size = mH := ⟨by have := HP.out.blk.lt; omega, by have := HP.out.has.lt; omega⟩
  clear hf2 HB1 HF1 H HP
  go_wp2_with fail
  refine (poolRead0 p l d mN mK mH size most w2 HP2.out hs hm).mono ?_
  rintro e w3 ⟨rfl, hc3, c3⟩
  have HB3 := Lib.hid (HB2.out.chg hc3 (by rintro (h | h); exact hqp.1 h; exact hqp.2 h))
  have HC3 := Lib.hid (HF2.out.fresh.trans hc3 (fun _ _ h => h))
  have C3 := Lib.hid c3
  have HPK : Hid ((madeF (lowB 0) []).length = 512) := madeF_length _ _ (by simp [endF])
  clear hc3 c3 c0
  generalize hpk : madeF (lowB 0) [] = pk at *
  have HPE := Lib.hid hpk
  clear hpk
  go_wp2_with (refine wpList_storeA rfl 111 _ _ rfl w.heap.size 0 rfl (bvals pk) rfl _ _ HB3.out (infoPage' HPK.out) (by simp [HPK.out]) bvals_one ?_; intro w4 HB4 HC4)
  refine bodyPost_ret (results_cell_t Tryz.results84 _ _ w.heap.size 111 (bvals pk) _ rfl ?_ Tryz.underlying111 rfl (infoPage' HPK.out)) rfl ?_
  · have := HB4.out
    rwa [over_all _ _ (by simp [HPK.out])] at this
  · exact ⟨by rw [HPE.out]; rfl, HC3.out.trans HC4.out (fun b hb e => by omega), HC4.out.cell C3.out (fun e => hqp.1 e.symm)⟩
end Go.Proofs.YtnmjkgnahhbnoaaGreat

/- Walks of package pool: Open on empty disks, Batch. -/
namespace Go.Proofs.YtnmjkgnahhbnoaaGreat
open Go.RowKit
set_option linter.unusedSimpArgs false

set_option maxRecDepth 100000 in
set_option maxHeartbeats 1000000 in
theorem poolOpen_any (d mN mK d2 mN2 mK2 size size2 most : Nat) (w : World) (h : DiskAt w d mN mK (.slice none 0 0) ⟨size, fun _ => none, fun _ => none, [], false, -1⟩) (h2 : DiskAt w d2 mN2 mK2 (.slice none 0 0) ⟨size2, fun _ => none, fun _ => none, [], false, -1⟩)
    (hs : 16 ≤ size ∧ size ≤ 65536) (hs2 : 3 ≤ size2 ∧ size2 ≤ 65536) (hm : 1 ≤ most ∧ most ≤ 1000000) :
    Calls Tryz.prog 12 #[.pointer (some ⟨d, 0, none⟩), .pointer (some ⟨d2, 0, none⟩), .int .i64 most] w fun e w' => ∃ p l mH, e = .returned (.tuple #[.pointer (some ⟨p, 0, none⟩), .int .i64 0]) ∧ PoolF w' p l d mN mK mH size most ∧ Fresh w w' ∧ w.heap.size ≤ p ∧ w.heap.size ≤ mH := by
  have H := Lib.hid h
  have H2 := Lib.hid h2
  have hmm := @run_makeMap Tryz.prog
  have hm0 : ¬ ((most : Int) < 1) := by omega
  have hm1 : (1 : Int) ≤ most := by omega
  have hsz : (16 : Int) ≤ size := by omega
  clear h h2
  go_enter Tryz.func12, Tryz.ntmps12
  go_wp2_with fail
  refine (size_any d mN mK _ _ _ H.out).mono ?_
  rintro e w1 ⟨rfl, rfl⟩
  go_wp2_with fail
  refine (walOpen_any d2 mN2 mK2 size2 w H2.out hs2).mono ?_
  rintro e w1 ⟨l, rfl, hl, hl0, hf1⟩
  have HF1 := Lib.hid hf1
  have H1 := Lib.hid (H.out.fresh hf1)
  have hsz1 := hf1.size
  clear hf1 hl H H2
  go_wp2_with fail
  refine wp_loop_rounds 1 ?_
  rw [rounds_succ]
  go_wp2
  go_ret2
  have hfa : Fresh w1 (w1.alloc (.map #[] 0)) := (Chg.refl _ w1).alloc _
  have hmi := MapI.new w1
  have hfb : Fresh (w1.alloc (.map #[] 0)) ((w1.alloc (.map #[] 0)).alloc (.cells #[.pointer (some ⟨d, 0, none⟩), .pointer (some ⟨l, 0, none⟩), .int .i64 most, .slice none 0 0, .map (some w1.heap.size), .int .i64 0] 86)) := (Chg.refl _ _).alloc _
  refine ⟨w1.heap.size + 1, l, w1.heap.size, rfl, ⟨?_, (H1.out.fresh hfa).fresh hfb, hmi.chg hfb id⟩, (HF1.out.trans hfa (fun _ _ f => f)).trans hfb (fun _ _ f => f), by omega, by omega⟩
  have := Blk.newA (w1.alloc (.map #[] 0)) 86 #[.pointer (some ⟨d, 0, none⟩), .pointer (some ⟨l, 0, none⟩), .int .i64 most, .slice none 0 0, .map (some w1.heap.size), .int .i64 0] (n := w1.heap.size + 1) (by simp)
  exact this

set_option maxHeartbeats 400000 in
theorem poolBatch_any (p : Nat) (w : World) :
    Calls Tryz.prog 14 #[.pointer (some ⟨p, 0, none⟩)] w fun e w' => ∃ b, e = .returned (.pointer (some ⟨b, 0, none⟩)) ∧ BatchAt w' b p none 0 [] ∧ Fresh w w' ∧ w.heap.size ≤ b := by
  go_enter Tryz.func14, Tryz.ntmps14
  go_wp2
  go_ret
  refine ⟨w.heap.size, rfl, ⟨Blk.newA w 96 #[.pointer (some ⟨p, 0, none⟩), .slice none 0 0] rfl, World.ownsRow_nil _ _ _ _, (fun x hx => by cases hx), by simp⟩, (Chg.refl _ _).alloc _, Nat.le_refl _⟩
end Go.Proofs.YtnmjkgnahhbnoaaGreat

/- What a batch is to the layers above: pages seen, pages taken, the blocks that are its own. -/
namespace Go.Proofs.YtnmjkgnahhbnoaaGreat
open Go.RowKit
set_option linter.unusedSimpArgs false

/-- A page's image replaced. -/
def vput (V : Nat → Option (List UInt8)) (n : Nat) (pg : List UInt8) : Nat → Option (List UInt8) := fun k => if k = n then some pg else V k
def tput (T : Nat → Bool) (n : Nat) (x : Bool) : Nat → Bool := fun k => if k = n then x else T k

theorem imgIdx_append (n : Nat) (L : List (Nat × List UInt8)) (x : Nat × List UInt8) (h : ¬ imgIdx n L < L.length) : imgIdx n (L ++ [x]) = if x.1 = n then L.length else L.length + 1 := by
  unfold imgIdx at *
  rw [List.findIdx_append, if_neg h]
  by_cases hx : x.1 = n
  · simp [List.findIdx_cons, hx]
  · have hb : (x.1 == n) = false := by simpa using hx
    rw [if_neg hx]
    simp [List.findIdx_cons, hb]
    try omega
theorem imgIdx_append_lt (n : Nat) (L : List (Nat × List UInt8)) (x : Nat × List UInt8) (h : imgIdx n L < L.length) : imgIdx n (L ++ [x]) = imgIdx n L := by
  unfold imgIdx at *
  rw [List.findIdx_append, if_pos h]
theorem imgIdx_set (n m : Nat) (L : List (Nat × List UInt8)) (i : Nat) (pg : List UInt8) (x : Nat × List UInt8) (hx : L[i]? = some x) : imgIdx n (L.set i (x.1, pg)) = imgIdx n L := by
  induction L generalizing i with
  | nil => simp at hx
  | cons y L ih =>
    cases i with
    | zero =>
      simp only [List.getElem?_cons_zero, Option.some.injEq] at hx
      subst hx
      simp [imgIdx, List.findIdx_cons]
    | succ i =>
      simp only [List.getElem?_cons_succ] at hx
      have := ih i hx
      simp only [imgIdx] at this ⊢
      simp [List.findIdx_cons, this]
/-- What is among the images when a page is laid there. -/
theorem imgGet_put (n m : Nat) (pg : List UInt8) (L : List (Nat × List UInt8)) : imgGet m (imgPut n pg L) = if m = n then some pg else imgGet m L := by
  unfold imgPut
  by_cases hn : imgIdx n L < L.length
  · rw [if_pos hn]
    have hx := List.getElem?_eq_getElem hn
    have hxn := imgIdx_no hx
    have hs := imgIdx_set m m L (imgIdx n L) pg _ hx
    rw [hxn] at hs
    unfold imgGet
    rw [hs, List.getElem?_set]
    by_cases hmn : m = n
    · subst hmn
      rw [if_pos rfl, if_pos hn, if_pos rfl]; rfl
    · rw [if_neg hmn, if_neg]
      intro he
      have h1 : L[imgIdx m L]? = some L[imgIdx n L] := by rw [← he]; exact hx
      have := imgIdx_no h1
      omega
  · rw [if_neg hn]
    unfold imgGet
    by_cases hm : imgIdx m L < L.length
    · have hmn : m ≠ n := by rintro rfl; exact hn hm
      rw [imgIdx_append_lt _ _ _ hm, if_neg hmn, List.getElem?_append_left hm]
    · rw [imgIdx_append _ _ _ hm]
      by_cases hmn : m = n
      · subst hmn
        rw [if_pos rfl, if_pos rfl]; simp
      · rw [if_neg (fun e => hmn e.symm), if_neg hmn, List.getElem?_eq_none (by simp), List.getElem?_eq_none (by omega)]

theorem imgPut_keys (n : Nat) (pg : List UInt8) (L : List (Nat × List UInt8)) (hn : (L.map (·.1)).Nodup) : ((imgPut n pg L).map (·.1)).Nodup := by
  unfold imgPut
  by_cases h : imgIdx n L < L.length
  · rw [if_pos h]
    have hx := List.getElem?_eq_getElem h
    have hxn := imgIdx_no hx
    have : (L.set (imgIdx n L) (n, pg)).map (·.1) = L.map (·.1) := by
      rw [List.map_set]
      apply List.ext_getElem?
      intro k
      rw [List.getElem?_set]
      split
      · rename_i he
        subst he
        rw [if_pos (by simpa using h), List.getElem?_map, hx]
        simp [hxn]
      · rfl
    rw [this]; exact hn
  · rw [if_neg h, List.map_append, List.nodup_append]
    refine ⟨hn, by simp, ?_⟩
    intro a ha b hb hab
    simp only [List.map_cons, List.map_nil, List.mem_singleton] at hb
    subst hb; subst hab
    obtain ⟨x, hx, hxe⟩ := List.mem_map.1 ha
    apply h
    exact List.findIdx_lt_length_of_exists ⟨x, hx, by simpa using hxe⟩
theorem imgPut_lt {n N : Nat} {pg : List UInt8} {L : List (Nat × List UInt8)} (hl : ∀ x ∈ L, x.1 < N) (hn : n < N) : ∀ x ∈ imgPut n pg L, x.1 < N := by
  unfold imgPut
  intro x hx
  split at hx
  · rcases List.mem_or_eq_of_mem_set hx with h | rfl
    · exact hl x h
    · exact hn
  · rcases List.mem_append.1 hx with h | h
    · exact hl x h
    · simp only [List.mem_singleton] at h; subst h; exact hn
theorem nodup_lt_length : ∀ (N : Nat) (l : List Nat), l.Nodup → (∀ x ∈ l, x < N) → l.length ≤ N
  | 0, l, _, h => by
    cases l with
    | nil => simp
    | cons x l => exact absurd (h x (by simp)) (by omega)
  | N + 1, l, hn, h => by
    have h1 := nodup_lt_length N (l.filter (· != N)) (hn.filter _) (fun x hx => by
      have hm := List.mem_filter.1 hx
      have := h x hm.1
      have h2 : x ≠ N := by simpa using hm.2
      omega)
    have h2 : l.length ≤ (l.filter (· != N)).length + 1 := by
      have h3 := List.length_eq_countP_add_countP (fun x => x != N) (l := l)
      rw [← List.countP_eq_length_filter]
      have h4 : List.countP (fun a => decide ¬(a != N) = true) l ≤ 1 := by
        have : List.countP (fun a => decide ¬(a != N) = true) l = List.count N l := by
          unfold List.count
          congr 1
          funext a
          by_cases ha : a = N <;> simp [ha]
        rw [this]
        exact List.nodup_iff_count.1 hn N
      omega
    omega
end Go.Proofs.YtnmjkgnahhbnoaaGreat

/- What a batch is to the layers above. -/
namespace Go.Proofs.YtnmjkgnahhbnoaaGreat
open Go.RowKit
set_option linter.unusedSimpArgs false

/-- The first page: among the changes, or not read yet. -/
def Page0 (w : World) (p d size : Nat) (L : List (Nat × List UInt8)) (T : Nat → Bool) (F : Nat → Prop) : Prop :=
  (∃ pg hv, imgGet 0 L = some pg ∧ BitsPg pg hv ∧ hv.length = (size / 8 + 7) / 8 ∧ ∀ k, k < size / 8 → T k = ((k == 0) || bitAt hv k)) ∨
  (imgGet 0 L = none ∧ (∀ k, k < size / 8 → T k = (k == 0)) ∧ ∃ l mN mK mH most, PoolF w p l d mN mK mH size most ∧ 1 ≤ most ∧ F mN ∧ F mK ∧ F mH)

/-- A batch b over N pages: T: those that are taken; V: those that can be read, as they are seen; F: the blocks that are the batch's. -/
def BatchV (w : World) (b N : Nat) (T : Nat → Bool) (V : Nat → Option (List UInt8)) (F : Nat → Prop) : Prop :=
  ∃ p d size a cap L, BI w b p d size a cap L ∧ N = size / 8 ∧ 16 ≤ size ∧ size ≤ 25600 ∧ (L.map (·.1)).Nodup ∧ (∀ x ∈ L, x.1 < N) ∧ (∀ n, 1 ≤ n → V n = imgGet n L) ∧
    Page0 w p d size L T F ∧ (∀ k, F k → k < w.heap.size) ∧ F b ∧ F p ∧ F d ∧ (∀ k, a.map (·.block) = some k → F k)

/-- A call of a batch: what it leaves. -/
def BatchTo (w w' : World) (b N : Nat) (T : Nat → Bool) (V : Nat → Option (List UInt8)) (F : Nat → Prop) : Prop :=
  ∃ F' : Nat → Prop, BatchV w' b N T V F' ∧ (∀ k, F' k → F k ∨ w.heap.size ≤ k) ∧ Chg F w w'

theorem BatchV.len {w : World} {b N : Nat} {L : List (Nat × List UInt8)} (h1 : (L.map (·.1)).Nodup) (h2 : ∀ x ∈ L, x.1 < N) : L.length ≤ N := by
  have := nodup_lt_length N (L.map (·.1)) h1 (fun x hx => by obtain ⟨y, hy, rfl⟩ := List.mem_map.1 hx; exact h2 y hy)
  simpa using this

theorem BI.chg {w w1 : World} {b p d size : Nat} {a : Option Addr} {cap : Nat} {L : List (Nat × List UInt8)} {G : Nat → Prop} (h : BI w b p d size a cap L) (hc : Chg G w w1) (h1 : ¬ G b) (h2 : ¬ G p) (h3 : ¬ G d) (h4 : ∀ k, a.map (·.block) = some k → ¬ G k) : BI w1 b p d size a cap L :=
  ⟨h.batch.chg hc h1 h4, h.pool.chg hc h2 h3, h.bp, h.bd, h.ap, h.ad⟩

/-- A change of blocks that are not the batch's. -/
theorem BatchV.chg {w w1 : World} {b N : Nat} {T : Nat → Bool} {V : Nat → Option (List UInt8)} {F G : Nat → Prop} (h : BatchV w b N T V F) (hc : Chg G w w1) (hg : ∀ k, F k → ¬ G k) : BatchV w1 b N T V F := by
  obtain ⟨p, d, size, a, cap, L, hbi, hN, h16, hmx, hnd, hlt, hV, h0, hF, fb, fp, fd, fa⟩ := h
  refine ⟨p, d, size, a, cap, L, hbi.chg hc (hg _ fb) (hg _ fp) (hg _ fd) (fun k hk => hg _ (fa k hk)), hN, h16, hmx, hnd, hlt, hV, ?_, fun k hk => Nat.lt_of_lt_of_le (hF k hk) hc.size, fb, fp, fd, fa⟩
  rcases h0 with h0 | ⟨hn, hT, l, mN, mK, mH, most, hp, hm, f1, f2, f3⟩
  · exact .inl h0
  · exact .inr ⟨hn, hT, l, mN, mK, mH, most, hp.chg hc (hg _ fp) (hg _ fd) (hg _ f1) (hg _ f2) (hg _ f3), hm, f1, f2, f3⟩
theorem BatchV.fresh {w w1 : World} {b N : Nat} {T : Nat → Bool} {V : Nat → Option (List UInt8)} {F : Nat → Prop} (h : BatchV w b N T V F) (hc : Fresh w w1) : BatchV w1 b N T V F := h.chg hc (fun _ _ => id)
theorem BatchV.lt {w : World} {b N : Nat} {T : Nat → Bool} {V : Nat → Option (List UInt8)} {F : Nat → Prop} (h : BatchV w b N T V F) {k : Nat} (hk : F k) : k < w.heap.size := by
  obtain ⟨p, d, size, a, cap, L, hbi, hN, h16, hmx, hnd, hlt, hV, h0, hF, _⟩ := h
  exact hF k hk

/-- A page that is seen is read. -/
theorem bv_read {w : World} {b N n : Nat} {T : Nat → Bool} {V : Nat → Option (List UInt8)} {F : Nat → Prop} {pg : List UInt8} (h : BatchV w b N T V F) (hn : 1 ≤ n) (hv : V n = some pg) :
    Calls Tryz.prog 84 #[.pointer (some ⟨b, 0, none⟩), .int .i64 n] w fun e w' => e = .returned (.tuple #[aggB pg, .int .i64 0]) ∧ Fresh w w' := by
  obtain ⟨p, d, size, a, cap, L, hbi, hN, h16, hmx, hnd, hlt, hV, h0, hF, _⟩ := h
  rw [hV n hn] at hv
  exact bread_hit b p a cap L n pg w hbi.batch hv

/-- A page is written. -/
theorem bv_write {w : World} {b N n : Nat} {T : Nat → Bool} {V : Nat → Option (List UInt8)} {F : Nat → Prop} {pg : List UInt8} (h : BatchV w b N T V F) (hn : 1 ≤ n ∧ n < N) (hp : pg.length = 512) :
    Calls Tryz.prog 76 #[.pointer (some ⟨b, 0, none⟩), .int .i64 n, aggB pg] w fun e w' => e = .returned (.int .i64 0) ∧ BatchTo w w' b N T (vput V n pg) F := by
  obtain ⟨p, d, size, a, cap, L, hbi, hN, h16, hmx, hnd, hlt, hV, h0, hF, fb, fp, fd, fa⟩ := h
  have hlen := BatchV.len (w := w) (b := b) hnd hlt
  refine (bWrite_any b p d size a cap L n pg w hbi hp (by omega) (by omega)).mono ?_
  rintro e w' ⟨rfl, a', cap', hbi', hc, ha⟩
  have hcF : Chg F w w' := hc.mono (fun k _ hk => by
    rcases hk with h | h | h
    · exact h.elim
    · rw [h]; exact fb
    · exact fa k h)
  have up : ∀ {k}, F k → (F k ∨ w.heap.size ≤ k) ∧ k < w'.heap.size := fun {k} hk => ⟨.inl hk, Nat.lt_of_lt_of_le (hF k hk) hc.size⟩
  refine ⟨rfl, fun k => (F k ∨ w.heap.size ≤ k) ∧ k < w'.heap.size, ⟨p, d, size, a', cap', imgPut n pg L, hbi', hN, h16, hmx, imgPut_keys n pg L hnd, imgPut_lt hlt hn.2, fun m hm => ?_, ?_, fun k hk => hk.2, ?_, ?_, ?_, ?_⟩, fun k hk => hk.1, hcF⟩
  · rw [imgGet_put, vput, hV m hm]
  · rcases h0 with ⟨pg0, hv, hg, hb⟩ | ⟨hg, hT, l, mN, mK, mH, most, hp, hm, f1, f2, f3⟩
    · exact .inl ⟨pg0, hv, by rw [imgGet_put, if_neg (by omega)]; exact hg, hb⟩
    · have ho : ∀ m, MapI w m (fun _ => none) ∨ (∃ g, MapI w m g) → ¬ (False ∨ m = b ∨ a.map (·.block) = some m) := by
        intro m hm2
        obtain ⟨g, hg2⟩ : ∃ g, MapI w m g := by rcases hm2 with h | h; exact ⟨_, h⟩; exact h
        rintro (h | h | h)
        · exact h
        · exact hg2.blk hbi.batch.blk h
        · exact hg2.owns hbi.batch.row (by rw [ownBlock_slice]; exact h)
      refine .inr ⟨by rw [imgGet_put, if_neg (by omega)]; exact hg, hT, l, mN, mK, mH, most, hp.chg hc ?_ ?_ (ho _ (.inr ⟨_, hp.disk.now.1⟩)) (ho _ (.inr ⟨_, hp.disk.kept.1⟩)) (ho _ (.inr ⟨_, hp.has⟩)), hm, up f1, up f2, up f3⟩
      · rintro (h | h | h)
        · exact h
        · exact hbi.bp h.symm
        · exact hbi.ap h
      · rintro (h | h | h)
        · exact h
        · exact hbi.bd h.symm
        · exact hbi.ad h
  · exact up fb
  · exact up fp
  · exact up fd
  · intro k hk
    refine ⟨?_, ?_⟩
    · rcases ha k hk with h | h
      · exact .inl (fa k h)
      · exact .inr h
    · rcases hbi'.batch.row.2 with ⟨hv, _⟩ | ⟨g, cp, cur, hv, _, hg, _⟩
      · simp only [Value.slice.injEq] at hv
        rw [hv.1] at hk; cases hk
      · simp only [Value.slice.injEq] at hv
        rw [hv.1] at hk
        simp only [Option.map_some, Option.some.injEq] at hk
        subst hk
        exact (Array.getElem?_eq_some_iff.1 hg).1
end Go.Proofs.YtnmjkgnahhbnoaaGreat

/- The first page in its two forms; pages taken and given back, to the layers above. -/
namespace Go.Proofs.YtnmjkgnahhbnoaaGreat
open Go.RowKit
set_option linter.unusedSimpArgs false

theorem made_empty (kind : UInt8) : slotsF (madeF kind []) = [] ∧ (madeF kind []).length = 512 := by
  have h := (slots_made kind [] (by simp [trimF]) (by simp [trimF, endF])).1
  exact ⟨h, madeF_length _ _ (by simp [endF])⟩
theorem made_getD4 (kind : UInt8) (rs : List (Option (List UInt8))) (hn : (trimF rs).length ≤ 124) (hf : 6 + 4 * (trimF rs).length + endF rs ≤ 512) : (madeF kind rs).getD 4 0 = kind := by
  have h := (slots_made kind rs hn hf).2
  unfold byteAt at h
  apply UInt8.toNat_inj.1
  simpa using h
theorem bitsPage_ok (ms : List UInt8) (h : 1 ≤ ms.length ∧ ms.length ≤ 400) : BitsPg (bitsPage ms) ms := by
  obtain ⟨hs, hl⟩ := made_empty (lowB 255)
  have hadd : addF (madeF (lowB 255) []) ms = some (madeF ((madeF (lowB 255) []).getD 4 0) [some ms]) := by
    unfold addF
    rw [hs]
    unfold putF
    rw [if_neg]
    · rfl
    · simp [setF, freeF, costF, endF]; omega
  have ht : trimF [some ms] = [some ms] := rfl
  unfold bitsPage
  rw [hadd]
  refine ⟨madeF_length _ _ (by simp [endF]; omega), .inr ⟨?_, h⟩⟩
  exact (slots_made _ [some ms] (by rw [ht]; simp) (by rw [ht]; simp [endF]; omega)).1.trans ht

/-- The first page is read, in either form. -/
theorem reads0 {w : World} {b p d size : Nat} {a : Option Addr} {cap : Nat} {L : List (Nat × List UInt8)} {T : Nat → Bool} {F : Nat → Prop} (hbi : BI w b p d size a cap L) (h16 : 16 ≤ size) (hmx : size ≤ 25600) (h0 : Page0 w p d size L T F) (fp : F p) :
    ∃ (RD : World → Prop) (FP : Nat → Prop) (pg hv : List UInt8), ReadsTo RD w b p d size pg ∧ BitsPg pg hv ∧ (hv = [] ∨ hv.length = (size / 8 + 7) / 8) ∧ (∀ w1, RD w1 → BI w1 b p d size a cap L ∧ Chg FP w w1) ∧ (∀ k, FP k → F k) ∧
      (∀ k, k < size / 8 → T k = bitAt (takenF hv ((size / 8 + 7) / 8)) k) := by
  rcases h0 with ⟨pg, hv, hg, hb, hl, hT⟩ | ⟨hg, hT, l, mN, mK, mH, most, hp, hm, f1, f2, f3⟩
  · refine ⟨fun w1 => Fresh w w1, fun _ => False, pg, hv, ⟨bread_hit b p a cap L 0 pg w hbi.batch hg, fun w1 w2 h1 h2 => h1.trans h2 (fun _ _ f => f), fun w1 h1 => ⟨?_, (hbi.fresh h1).pool⟩, fun w1 h1 => h1.size⟩, hb, .inr hl, fun w1 h1 => ⟨hbi.fresh h1, h1⟩, fun _ h => h.elim, fun k hk => ?_⟩
    · rw [(hbi.fresh h1).batch.blk.cell]; rfl
    · rw [hT k hk, bitAt_taken hv _ k (by omega) (.inr hl)]
  · have hne : ∀ (x : Nat) (e : TypeId) (cs : List Value), Blk w x e cs → 86 ≠ e → ¬ (x = p ∨ x = mH) := fun x e cs hx he hor => by
      rcases hor with rfl | rfl
      · have := hp.blk
        rw [Blk, hx] at this
        simp only [Option.some.injEq, Obj.cells.injEq] at this
        exact he this.2.1.symm
      · exact hp.has.blk hx rfl
    have hb0 := hne _ _ _ hbi.batch.blk (by decide)
    have hd0 := hne _ _ _ hp.disk.blk (by decide)
    have ha0 : ∀ k, a.map (·.block) = some k → ¬ (k = p ∨ k = mH) := fun k hk hor => by
      rcases hor with rfl | rfl
      · exact hbi.ap hk
      · exact hp.has.owns hbi.batch.row (by rw [ownBlock_slice]; exact hk)
    have hbiw : ∀ w1, (Chg (fun k => k = p ∨ k = mH) w w1 ∧ w1.cell? ⟨p, 0, none⟩ = some (.pointer (some ⟨d, 0, none⟩))) → BI w1 b p d size a cap L := fun w1 h1 =>
      ⟨hbi.batch.chg h1.1 hb0 ha0, ⟨h1.2, h1.1.cell hbi.pool.sz hd0, hbi.pool.small⟩, hbi.bp, hbi.bd, hbi.ap, hbi.ad⟩
    refine ⟨fun w1 => Chg (fun k => k = p ∨ k = mH) w w1 ∧ w1.cell? ⟨p, 0, none⟩ = some (.pointer (some ⟨d, 0, none⟩)), fun k => k = p ∨ k = mH, madeF (lowB 0) [], [], ⟨?_, fun w1 w2 h1 h2 => ⟨h1.1.trans h2.fresh (fun _ _ h => h), h2.cell h1.2 id⟩, fun w1 h1 => ⟨?_, (hbiw w1 h1).pool⟩, fun w1 h1 => h1.1.size⟩, ⟨(made_empty _).2, .inl ⟨(made_empty _).1, rfl⟩⟩, .inl rfl, fun w1 h1 => ⟨hbiw w1 h1, h1.1⟩, ?_, fun k hk => ?_⟩
    · exact bread_first b p l d mN mK mH size most a cap L w hp hbi.batch hg ⟨h16, by omega⟩ hm
    · rw [(hbiw w1 h1).batch.blk.cell]; rfl
    · rintro k (rfl | rfl)
      · exact fp
      · exact f3
    · rw [hT k hk, bitAt_taken [] _ k (by omega) (.inl rfl)]
      simp [bitAt]

/-- Behind a call that laid the first page anew. -/
theorem BTo.batchTo {w w' : World} {b N p d size : Nat} {a : Option Addr} {FP F : Nat → Prop} {L' : List (Nat × List UInt8)} {T' : Nat → Bool} {V' : Nat → Option (List UInt8)} {pg hv : List UInt8} (hto : BTo w b p d size a FP L' w') (hFP : ∀ k, FP k → F k) (hN : N = size / 8) (h16 : 16 ≤ size) (hmx : size ≤ 25600)
    (hF : ∀ k, F k → k < w.heap.size) (fb : F b) (fp : F p) (fd : F d) (fa : ∀ k, a.map (·.block) = some k → F k) (hnd : (L'.map (·.1)).Nodup) (hlt : ∀ x ∈ L', x.1 < N) (hV : ∀ n, 1 ≤ n → V' n = imgGet n L')
    (hg : imgGet 0 L' = some pg) (hb : BitsPg pg hv) (hl : hv.length = (size / 8 + 7) / 8) (hT : ∀ k, k < size / 8 → T' k = ((k == 0) || bitAt hv k)) : BatchTo w w' b N T' V' F := by
  obtain ⟨a', cap', hbi', hc, ha⟩ := hto
  have hcF : Chg F w w' := hc.mono (fun k _ hk => by
    rcases hk with h | h | h
    · exact hFP k h
    · rw [h]; exact fb
    · exact fa k h)
  have up : ∀ {k}, F k → (F k ∨ w.heap.size ≤ k) ∧ k < w'.heap.size := fun {k} hk => ⟨.inl hk, Nat.lt_of_lt_of_le (hF k hk) hc.size⟩
  refine ⟨fun k => (F k ∨ w.heap.size ≤ k) ∧ k < w'.heap.size, ⟨p, d, size, a', cap', L', hbi', hN, h16, hmx, hnd, hlt, hV, .inl ⟨pg, hv, hg, hb, hl, hT⟩, fun k hk => hk.2, up fb, up fp, up fd, fun k hk => ⟨?_, ?_⟩⟩, fun k hk => hk.1, hcF⟩
  · rcases ha k hk with h | h
    · exact .inl (fa k h)
    · exact .inr h
  · rcases hbi'.batch.row.2 with ⟨hv, _⟩ | ⟨g, cp, cur, hv, _, hg, _⟩
    · simp only [Value.slice.injEq] at hv
      rw [hv.1] at hk; cases hk
    · simp only [Value.slice.injEq] at hv
      rw [hv.1] at hk
      simp only [Option.map_some, Option.some.injEq] at hk
      subst hk
      exact (Array.getElem?_eq_some_iff.1 hg).1

/-- A page is taken: the lowest that is free. -/
theorem bv_alloc {w : World} {b N n0 : Nat} {T : Nat → Bool} {V : Nat → Option (List UInt8)} {F : Nat → Prop} {kind : Int} (h : BatchV w b N T V F) (hk : 0 ≤ kind ∧ kind < 256) (hn : n0 < N) (hfree : T n0 = false) (hlow : ∀ k, k < n0 → T k = true) :
    Calls Tryz.prog 19 #[.pointer (some ⟨b, 0, none⟩), .int .i64 kind] w fun e w' => e = .returned (.tuple #[.int .i64 n0, .int .i64 0]) ∧ BatchTo w w' b N (tput T n0 true) (vput V n0 (madeF (lowB kind) [])) F ∧ 1 ≤ n0 := by
  obtain ⟨p, d, size, a, cap, L, hbi, hN, h16, hmx, hnd, hlt, hV, h0, hF, fb, fp, fd, fa⟩ := h
  have hlen := BatchV.len (w := w) (b := b) hnd hlt
  obtain ⟨RD, FP, pg, hv, hrd, hbp, hhv, hRD, hFP, hT⟩ := reads0 hbi h16 hmx h0 fp
  have hT0 : T 0 = true := by rw [hT 0 (by omega), bitAt_taken hv _ 0 (by omega) hhv]; rfl
  have hn1 : 1 ≤ n0 := by
    rcases Nat.eq_zero_or_pos n0 with rfl | h
    · rw [hT0] at hfree; cases hfree
    · exact h
  refine (alloc_any RD FP b p d size a cap L pg hv kind w n0 hrd hbp (by omega) hRD (by omega) (by omega) hk (by omega) (by rw [← hT n0 (by omega)]; exact hfree) (fun k hk => by rw [← hT k (by omega)]; exact hlow k hk)).mono ?_
  rintro e w' ⟨rfl, hto⟩
  have hml : (markF (takenF hv ((size / 8 + 7) / 8)) n0 true).length = (size / 8 + 7) / 8 := by rw [markF_length, takenF_length]
  refine ⟨rfl, hto.batchTo (pg := bitsPage (markF (takenF hv ((size / 8 + 7) / 8)) n0 true)) (hv := markF (takenF hv ((size / 8 + 7) / 8)) n0 true) hFP hN h16 hmx hF fb fp fd fa (imgPut_keys _ _ _ (imgPut_keys _ _ _ hnd)) (imgPut_lt (imgPut_lt hlt (by omega)) hn) (fun m hm => ?_) ?_ (bitsPage_ok _ ⟨by omega, by omega⟩) hml (fun k hk => ?_), hn1⟩
  · rw [imgGet_put, imgGet_put, vput, hV m hm, if_neg (show ¬ m = 0 by omega)]
  · rw [imgGet_put, imgGet_put, if_neg (by omega), if_pos rfl]
  · rw [bitAt_mark _ _ _ (by rw [takenF_length]; omega), tput]
    by_cases hk0 : k = n0
    · rw [if_pos hk0, if_pos hk0, Bool.or_true]
    · rw [if_neg hk0, if_neg hk0, hT k hk, bitAt_taken hv _ k (by omega) hhv, ← Bool.or_assoc, Bool.or_self]

/-- A page is given back. -/
theorem bv_free {w : World} {b N n : Nat} {T : Nat → Bool} {V : Nat → Option (List UInt8)} {F : Nat → Prop} (h : BatchV w b N T V F) (hn : 1 ≤ n ∧ n < N) (ht : T n = true) :
    Calls Tryz.prog 83 #[.pointer (some ⟨b, 0, none⟩), .int .i64 n] w fun e w' => e = .returned (.int .i64 0) ∧ BatchTo w w' b N (tput T n false) V F := by
  obtain ⟨p, d, size, a, cap, L, hbi, hN, h16, hmx, hnd, hlt, hV, h0, hF, fb, fp, fd, fa⟩ := h
  have hlen := BatchV.len (w := w) (b := b) hnd hlt
  obtain ⟨RD, FP, pg, hv, hrd, hbp, hhv, hRD, hFP, hT⟩ := reads0 hbi h16 hmx h0 fp
  refine (free_page RD FP b p d size a cap L pg hv w n hbi hrd hbp (by omega) hRD (by omega) (by omega) (by omega) (by rw [← hT n (by omega)]; exact ht)).mono ?_
  rintro e w' ⟨rfl, hto⟩
  have hml : (markF (takenF hv ((size / 8 + 7) / 8)) n false).length = (size / 8 + 7) / 8 := by rw [markF_length, takenF_length]
  refine ⟨rfl, hto.batchTo (pg := bitsPage (markF (takenF hv ((size / 8 + 7) / 8)) n false)) (hv := markF (takenF hv ((size / 8 + 7) / 8)) n false) hFP hN h16 hmx hF fb fp fd fa (imgPut_keys _ _ _ hnd) (imgPut_lt hlt (by omega)) (fun m hm => ?_) ?_ (bitsPage_ok _ ⟨by omega, by omega⟩) hml (fun k hk => ?_)⟩
  · rw [imgGet_put, hV m hm, if_neg (show ¬ m = 0 by omega)]
  · rw [imgGet_put, if_pos rfl]
  · rw [bitAt_mark _ _ _ (by rw [takenF_length]; omega), tput]
    by_cases hk0 : k = n
    · have : (k == 0) = false := by rw [beq_eq_false_iff_ne]; omega
      rw [if_pos hk0, if_pos hk0, this, Bool.or_false]
    · rw [if_neg hk0, if_neg hk0, hT k hk, bitAt_taken hv _ k (by omega) hhv, ← Bool.or_assoc, Bool.or_self]

/-- All pages are taken. -/
theorem bv_full {w : World} {b N : Nat} {T : Nat → Bool} {V : Nat → Option (List UInt8)} {F : Nat → Prop} {kind : Int} (h : BatchV w b N T V F) (hall : ∀ k, k < N → T k = true) :
    Calls Tryz.prog 19 #[.pointer (some ⟨b, 0, none⟩), .int .i64 kind] w fun e w' => e = .returned (.tuple #[.int .i64 0, .int .i64 20]) ∧ Fresh w w' := by
  obtain ⟨p, d, size, a, cap, L, hbi, hN, h16, hmx, hnd, hlt, hV, h0, hF, fb, fp, fd, fa⟩ := h
  have hlen := BatchV.len (w := w) (b := b) hnd hlt
  rcases h0 with ⟨pg, hv, hg, hb, hl, hT⟩ | ⟨hg, hT, _⟩
  · refine alloc_full (fun w1 => Fresh w w1) (fun _ => False) b p d size a cap L pg hv kind w ⟨bread_hit b p a cap L 0 pg w hbi.batch hg, fun w1 w2 h1 h2 => h1.trans h2 (fun _ _ f => f), fun w1 h1 => ⟨?_, (hbi.fresh h1).pool⟩, fun w1 h1 => h1.size⟩ hb (by omega) (fun w1 h1 => ⟨hbi.fresh h1, h1⟩) (by omega) (by omega) (fun k hk => ?_)
    · rw [(hbi.fresh h1).batch.blk.cell]; rfl
    · rw [bitAt_taken hv _ k (by omega) (.inr hl), ← hT k hk]; exact hall k (by omega)
  · have h1 := hT 1 (by omega)
    rw [hall 1 (by omega)] at h1
    simp at h1

/-- A batch of a fresh pool: the first page is taken. -/
theorem bv_new {w : World} {b p l d mN mK mH size most : Nat} (hp : PoolF w p l d mN mK mH size most) (hb : BatchAt w b p none 0 []) (h16 : 16 ≤ size) (hmx : size ≤ 25600) (hm : 1 ≤ most) :
    BatchV w b (size / 8) (fun k => k == 0) (fun _ => none) (fun k => k = b ∨ k = p ∨ k = d ∨ k = mN ∨ k = mK ∨ k = mH) := by
  have hbp : b ≠ p := by
    rintro rfl
    have := hp.blk
    rw [Blk, hb.blk] at this; simp at this
  have hbd : b ≠ d := by
    rintro rfl
    have := hp.disk.blk
    rw [Blk, hb.blk] at this; simp at this
  refine ⟨p, d, size, none, 0, [], ⟨hb, ⟨by rw [hp.blk.cell]; rfl, by rw [hp.disk.blk.cell]; rfl, by omega⟩, hbp, hbd, by simp, by simp⟩, rfl, h16, hmx, by simp, by simp, fun n _ => rfl, .inr ⟨rfl, fun k _ => rfl, l, mN, mK, mH, most, hp, hm, by simp, by simp, by simp⟩, ?_, by simp, by simp, by simp, by simp⟩
  rintro k (rfl | rfl | rfl | rfl | rfl | rfl)
  · exact hb.blk.lt
  · exact hp.blk.lt
  · exact hp.disk.blk.lt
  · exact hp.disk.now.1.lt
  · exact hp.disk.kept.1.lt
  · exact hp.has.lt
end Go.Proofs.YtnmjkgnahhbnoaaGreat
