/- Part 9 of the walks that the laws of package hash share (Pool5, Pool6, Heap2, Pool7). -/
import Derived.Test.YtnmjkgnahhbnoaaGreatM08
import Derived.Test.YtnmjkgnahhbnoaaGreatM07
set_option linter.unusedVariables false
set_option linter.unusedSimpArgs false
/- Walks of package pool: a page given back; no page left. -/
namespace Go.Proofs.YtnmjkgnahhbnoaaGreat
open Go.RowKit
set_option linter.unusedSimpArgs false

theorem BI.marked {w w' : World} {b p d size : Nat} {a : Option Addr} {cap : Nat} {L : List (Nat × List UInt8)} {n g : Nat} {tk : Bool} {ts : List UInt8} {e : Ending} (h : BI w b p d size a cap L) (hb : Blk w g 5 (bvals ts)) (hl : 0 < ts.length) (hw : MarkPost w b p a L n tk g ts e w') :
    e = .returned (.tuple #[]) ∧ ∃ a' cap', BI w' b p d size a' cap' (imgPut 0 (bitsPage (markF ts n tk)) L) ∧ Chg (fun k => k = g ∨ k = b ∨ a.map (·.block) = some k) w w' ∧ (∀ k, a'.map (·.block) = some k → a.map (·.block) = some k ∨ w.heap.size ≤ k) := by
  obtain ⟨he, a', cap', hb2, hc, ha⟩ := hw
  have hpl := cell_lt h.pool.data
  have hdl := cell_lt h.pool.sz
  simp only at hpl hdl
  have hgp : g ≠ p := by
    rintro rfl
    have h1 := hb.cell 0
    rw [h.pool.data, bvals_get, List.getElem?_eq_getElem hl] at h1
    cases h1
  have hgd : g ≠ d := by
    rintro rfl
    have h1 := hb.cell 0
    rw [h.pool.sz, bvals_get, List.getElem?_eq_getElem hl] at h1
    cases h1
  refine ⟨he, a', cap', ⟨hb2, h.pool.chg hc ?_ ?_, h.bp, h.bd, ?_, ?_⟩, hc, ha⟩
  · rintro (e | e | e)
    · exact hgp e.symm
    · exact h.bp e.symm
    · exact h.ap e
  · rintro (e | e | e)
    · exact hgd e.symm
    · exact h.bd e.symm
    · exact h.ad e
  · intro e
    rcases ha p e with e | e
    · exact h.ap e
    · omega
  · intro e
    rcases ha d e with e | e
    · exact h.ad e
    · omega

set_option maxRecDepth 100000 in
set_option maxHeartbeats 1000000 in
theorem free_page (RD : World → Prop) (FP : Nat → Prop) (b p d size : Nat) (a : Option Addr) (cap : Nat) (L : List (Nat × List UInt8)) (pg hv : List UInt8) (w : World) (n : Nat) (h0 : BI w b p d size a cap L) (h : ReadsTo RD w b p d size pg) (hp : BitsPg pg hv) (h8 : 8 ≤ size)
    (hRD : ∀ w1, RD w1 → BI w1 b p d size a cap L ∧ Chg FP w w1) (hL : L.length ≤ 80000) (h3200 : size / 8 ≤ 3200)
    (hn : 1 ≤ n ∧ n < size / 8) (htaken : bitAt (takenF hv ((size / 8 + 7) / 8)) n = true) :
    Calls Tryz.prog 83 #[.pointer (some ⟨b, 0, none⟩), .int .i64 n] w fun e w' => e = .returned (.int .i64 0) ∧
      BTo w b p d size a FP (imgPut 0 (bitsPage (markF (takenF hv ((size / 8 + 7) / 8)) n false)) L) w' := by
  have HRD := Lib.hid hRD
  have HTK := Lib.hid htaken
  have HH := Lib.hid h
  have H0 := Lib.hid h0
  have c00 : w.cell? ⟨b, 0, none⟩ = some (.pointer (some ⟨p, 0, none⟩)) := by rw [h0.batch.blk.cell]; rfl
  have hn0 : (1 : Int) ≤ n := by omega
  have hn1 : (n : Int) < ((size / 8 : Nat) : Int) := by omega
  have hn2 : (n : Int) < (size : Int) / 8 := by omega
  clear hRD htaken h h0
  go_enter Tryz.func83, Tryz.ntmps83
  go_wp2_with fail
  refine (pages_any p d size _ H0.out.pool).mono ?_
  rintro e w0 ⟨rfl, rfl⟩
  go_wp2_with fail
  refine (taken_any RD b p d size pg hv w HH.out hp h8).mono ?_
  rintro e w1 ⟨g, rfl, hr1, hb1, hg1⟩
  obtain ⟨hbi, hch⟩ := HRD.out _ hr1
  have HBI := Lib.hid hbi
  have HCH := Lib.hid hch
  have HB1 := Lib.hid hb1
  have HTL : Hid ((takenF hv ((size / 8 + 7) / 8)).length = (size / 8 + 7) / 8) := takenF_length _ _
  clear hr1 hb1 hbi hch c00
  generalize hts0 : takenF hv ((size / 8 + 7) / 8) = ts at *
  have HTS := Lib.hid hts0
  clear hts0
  have hts : ts.length = (size / 8 + 7) / 8 := HTL.out
  have hn8 : n / 8 < ts.length := by omega
  have hni : ((n : Int) / 8) < ((size / 8 + 7) / 8 : Nat) := by omega
  have hni' : ((n : Int) / 8) < ((size : Int) / 8 + 7) / 8 := by omega
  have hni0 : (0 : Int) ≤ (n : Int) / 8 := by omega
  have hnt : ((n : Int) / 8).toNat = n / 8 := by omega
  have hw : IntKind.i64.wrap ((n : Int) / 8) = (n : Int) / 8 := IntWalk.i64_in _ (by omega)
  have htm : (n : Int).tmod 8 = ((n % 8 : Nat) : Int) := by rw [Int.tmod_eq_emod_of_nonneg (by omega)]; omega
  have hm8 : n % 8 < 8 := Nat.mod_lt _ (by omega)
  have hc : w1.cell? ⟨g, n / 8, none⟩ = some (B ts[n / 8]) := by rw [HB1.out.cell, bvals_get, List.getElem?_eq_getElem hn8]; rfl
  have hx : ts.getD (n / 8) 0 = ts[n / 8] := by rw [List.getD_eq_getElem?_getD, List.getElem?_eq_getElem hn8]; rfl
  have hba : bitAt ts n = (ts[n / 8]).toNat.testBit (n % 8) := by rw [bitAt, hx]
  have hb3 := (bits_one ts[n / 8] (n % 8) hm8).2.2.1
  rw [← hba, HTK.out] at hb3
  simp only [Bool.not_true] at hb3
  clear hx hba
  generalize ts[n / 8] = x at *
  generalize n % 8 = m at *
  go_wp2_with fail
  rw [← hts]
  clear hb3 hc htm hw hnt hni0 hni' hni
  refine (mark_any b p a cap L n false g ts w1 HBI.out.batch (by omega) HB1.out ⟨by omega, by omega⟩ (by omega)).mono ?_
  intro e w2 h2
  obtain ⟨rfl, a2, cap2, hb2, hc2, ha2⟩ := HBI.out.marked HB1.out (by omega) h2
  have HB2 := Lib.hid hb2
  have HC2 := Lib.hid hc2
  have HA2 := Lib.hid ha2
  have hsz := HCH.out.size
  clear h2 hb2 hc2 ha2
  go_wp2
  go_ret
  rw [HTS.out]
  refine ⟨rfl, a2, cap2, HB2.out, (HCH.out.mono (fun q _ h => .inl h)).trans HC2.out (fun q hq h => ?_), fun q hq => ?_⟩
  · rcases h with h | h | h
    · omega
    · exact .inr (.inl h)
    · exact .inr (.inr h)
  · rcases HA2.out q hq with h | h
    · exact .inl h
    · exact .inr (by omega)

set_option maxRecDepth 100000 in
set_option maxHeartbeats 1000000 in
theorem alloc_full (RD : World → Prop) (FP : Nat → Prop) (b p d size : Nat) (a : Option Addr) (cap : Nat) (L : List (Nat × List UInt8)) (pg hv : List UInt8) (kind : Int) (w : World) (h : ReadsTo RD w b p d size pg) (hp : BitsPg pg hv) (h8 : 8 ≤ size)
    (hRD : ∀ w1, RD w1 → BI w1 b p d size a cap L ∧ Chg FP w w1) (hL : L.length ≤ 80000) (h3200 : size / 8 ≤ 3200)
    (hlow : ∀ k, k < size / 8 → bitAt (takenF hv ((size / 8 + 7) / 8)) k = true) :
    Calls Tryz.prog 19 #[.pointer (some ⟨b, 0, none⟩), .int .i64 kind] w fun e w' => e = .returned (.tuple #[.int .i64 0, .int .i64 20]) ∧ RD w' := by
  have HRD := Lib.hid hRD
  have HLOW := Lib.hid hlow
  have HH := Lib.hid h
  clear hRD hlow h
  go_enter Tryz.func19, Tryz.ntmps19
  go_wp2_with fail
  refine (taken_any RD b p d size pg hv w HH.out hp h8).mono ?_
  rintro e w1 ⟨g, rfl, hr1, hb1, hg1⟩
  obtain ⟨hbi, hch⟩ := HRD.out _ hr1
  have HBI := Lib.hid hbi
  have HCH := Lib.hid hch
  have HB1 := Lib.hid hb1
  have HTL : Hid ((takenF hv ((size / 8 + 7) / 8)).length = (size / 8 + 7) / 8) := takenF_length _ _
  have c0 : w1.cell? ⟨b, 0, none⟩ = some (.pointer (some ⟨p, 0, none⟩)) := by rw [hbi.batch.blk.cell]; rfl
  have HR1 := Lib.hid hr1
  clear hr1 hb1 hbi hch
  generalize hts0 : takenF hv ((size / 8 + 7) / 8) = ts at *
  have HTS := Lib.hid hts0
  clear hts0
  go_wp2_with fail
  refine (pages_any p d size _ HBI.out.pool).mono ?_
  rintro e w2 ⟨rfl, rfl⟩
  go_wp2_with fail
  have hts : ts.length = (size / 8 + 7) / 8 := HTL.out
  go_loop [24] (fun i => ∃ k : Nat, k ≤ size / 8 ∧ i = .int .i64 k) (fun i => size / 8 - (intOf i).toNat)
  case atStart => exact ⟨0, by omega, rfl⟩
  case round =>
    obtain ⟨k, hk, rfl⟩ := hrel
    by_cases hlt : k < size / 8
    · have hkn : k < size / 8 := by omega
      have hkn2 : (k : Int) < (size : Int) / 8 := by omega
      have hn8 : k / 8 < ts.length := by omega
      have hni : ((k : Int) / 8) < ((size / 8 + 7) / 8 : Nat) := by omega
      have hni' : ((k : Int) / 8) < ((size : Int) / 8 + 7) / 8 := by omega
      have hni0 : (0 : Int) ≤ (k : Int) / 8 := by omega
      have hnt : ((k : Int) / 8).toNat = k / 8 := by omega
      have hw : IntKind.i64.wrap ((k : Int) / 8) = (k : Int) / 8 := IntWalk.i64_in _ (by omega)
      have htm : (k : Int).tmod 8 = ((k % 8 : Nat) : Int) := by rw [Int.tmod_eq_emod_of_nonneg (by omega)]; omega
      have hm8 : k % 8 < 8 := Nat.mod_lt _ (by omega)
      have hc : w1.cell? ⟨g, k / 8, none⟩ = some (B ts[k / 8]) := by rw [HB1.out.cell, bvals_get, List.getElem?_eq_getElem hn8]; rfl
      have hx : ts.getD (k / 8) 0 = ts[k / 8] := by rw [List.getD_eq_getElem?_getD, List.getElem?_eq_getElem hn8]; rfl
      have hba : bitAt ts k = (ts[k / 8]).toNat.testBit (k % 8) := by rw [bitAt, hx]
      have hb3 := (bits_one ts[k / 8] (k % 8) hm8).2.2.1
      rw [← hba] at hb3
      clear hx hba
      generalize ts[k / 8] = x at *
      generalize k % 8 = m at *
      have hbk := HLOW.out k hlt
      rw [hbk] at hb3
      simp only [Bool.not_true] at hb3
      clear hbk
      go_wp2
      exact ⟨⟨k + 1, by omega, by go_num⟩, by simp [intOf]; omega⟩
    · have hkn : ¬ ((k : Int) < (size : Int) / 8) := by omega
      go_wp2
      go_ret2
      exact ⟨rfl, HR1.out⟩
end Go.Proofs.YtnmjkgnahhbnoaaGreat

/- Walks of package pool: the first page of a pool over an empty disk. -/
namespace Go.Proofs.YtnmjkgnahhbnoaaGreat
open Go.RowKit
set_option linter.unusedSimpArgs false

/-- A pool that nothing was read from, over a disk that nothing was written to. -/
structure PoolF (w : World) (p l d mN mK mH size most : Nat) : Prop where
  blk : Blk w p 86 [.pointer (some ⟨d, 0, none⟩), .pointer (some ⟨l, 0, none⟩), .int .i64 most, .slice none 0 0, .map (some mH), .int .i64 0]
  disk : DiskAt w d mN mK (.slice none 0 0) ⟨size, fun _ => none, fun _ => none, [], false, -1⟩
  has : MapI w mH (fun _ => none)
theorem PoolF.chg {w w1 : World} {p l d mN mK mH size most : Nat} {F : Nat → Prop} (h : PoolF w p l d mN mK mH size most) (hc : Chg F w w1) (h1 : ¬ F p) (h2 : ¬ F d) (h3 : ¬ F mN) (h4 : ¬ F mK) (h5 : ¬ F mH) : PoolF w1 p l d mN mK mH size most :=
  ⟨h.blk.chg hc h1, h.disk.chg hc h2 h3 h4 (fun _ hb => by cases hb), h.has.chg hc h5⟩
theorem PoolF.fresh {w w1 : World} {p l d mN mK mH size most : Nat} (h : PoolF w p l d mN mK mH size most) (hc : Fresh w w1) : PoolF w1 p l d mN mK mH size most := h.chg hc id id id id id

theorem buildPage (w : World) : (Instr.build 111 #[]).run Tryz.prog w = .ok (.agg (bvals zpage).toArray) w := run_build w _ _ _ (by kernel_rfl)
theorem eqlPage (w : World) : (Op.equalIn 10000 111 (.agg (bvals zpage).toArray) (.agg Tryz.zeroCells111)).run Tryz.prog w = .ok true w := by kernel_rfl
theorem over_zero (k : Nat) (h : k < 8) : over zpage (64 * k) zsec = zpage := by
  apply List.ext_getElem?
  intro j
  by_cases hj : 64 * k ≤ j ∧ j < 64 * k + zsec.length
  · have hl : zsec.length = 64 := zsec_length
    rw [over_get_in _ _ _ _ (by simp; omega) hj.1 hj.2]
    simp only [zsec, zpage, List.getElem?_replicate]
    rw [if_pos (by omega), if_pos (by omega)]
  · rw [over_get_out _ _ _ _ (by simp; omega) (by omega)]

theorem run_sliceSec (b : Nat) (w : World) : (Instr.sliceAt 131 (.pointer (some ⟨b, 0, none⟩)) none none none).run Tryz.prog w = .ok (.slice (some ⟨b, 0, none⟩) 64 64) w := by
  simp [Instr.sliceAt, Instr.sureAddr, run_underlying Tryz.underlying131, Instr.sliceBounds, Instr.sliceBound, Tryz.sizeOf5, Addr.add_mid]

set_option maxRecDepth 100000 in
set_option maxHeartbeats 1000000 in
theorem fetch0_any (p l d mN mK mH size most : Nat) (w : World) (h : PoolF w p l d mN mK mH size most) (hs : 16 ≤ size ∧ size ≤ 65536) :
    Calls Tryz.prog 103 #[.pointer (some ⟨p, 0, none⟩), .int .i64 0] w fun e w' => e = .returned (.tuple #[aggB (madeF (lowB 0) []), .int .i64 0]) ∧ Fresh w w' := by
  have H := Lib.hid h
  clear h
  go_enter Tryz.func103, Tryz.ntmps103
  go_upto_block 0 with (fail)
  have hz0 : Blk ((w.alloc (.cells Tryz.zeroCells111 111)).alloc (.cells Tryz.zeroCells111 111)) w.heap.size 111 (bvals zpage) := zeroPage ▸ (Blk.newA w 111 _ rfl).alloc _
  have hz1 : Blk ((w.alloc (.cells Tryz.zeroCells111 111)).alloc (.cells Tryz.zeroCells111 111)) (w.heap.size + 1) 111 (bvals zpage) := zeroPage ▸ Blk.newA _ _ _ (by simp)
  have hf : Fresh w ((w.alloc (.cells Tryz.zeroCells111 111)).alloc (.cells Tryz.zeroCells111 111)) := (Chg.alloc (Chg.alloc (Chg.refl _ _) _) _)
  have hpf := H.out.fresh hf
  have HZ0 := Lib.hid hz0
  have HZ1 := Lib.hid hz1
  have HF := Lib.hid hf
  have HP := Lib.hid hpf
  clear hz0 hz1 hf hpf H
  generalize (w.alloc (.cells Tryz.zeroCells111 111)).alloc (.cells Tryz.zeroCells111 111) = wc at *
  go_cut [] from 7 to 34 (fun wx => Hid (Blk wx w.heap.size 111 (bvals zpage)) ∧ Hid (Blk wx (w.heap.size + 1) 111 (bvals zpage)) ∧ Hid (Fresh w wx))
  case first =>
    go_wp2_with fail
    go_loopw [10] (fun i wr => ∃ k : Nat, k ≤ 8 ∧ i = .int .i64 k ∧ Hid (Blk wr w.heap.size 111 (bvals zpage)) ∧ Hid (Blk wr (w.heap.size + 1) 111 (bvals zpage)) ∧ Hid (Fresh w wr) ∧ Hid (PoolF wr p l d mN mK mH size most)) (fun i _ => 8 - (intOf i).toNat)
    case atStart => exact ⟨0, by omega, rfl, HZ0, HZ1, HF, HP⟩
    case round =>
      clear HZ0 HZ1 HF HP
      obtain ⟨k, hk, rfl, HZ0, HZ1, HF, HP⟩ := hrel
      by_cases hlt : k < 8
      · have c0 := HP.out.blk.cell 0
        simp only [List.getElem?_cons_zero] at c0
        go_wp2_with fail
        refine (read_any d mN mK _ _ k _ HP.out.disk rfl (by show k < size; omega) hs.2).mono ?_
        rintro e w2 ⟨rfl, hf2⟩
        have hz2 : secOf (fun _ => none) k = zsec := rfl
        rw [hz2]
        have HZ02 := Lib.hid (HZ0.out.chg hf2 id)
        have HZ12 := Lib.hid (HZ1.out.chg hf2 id)
        have HF2 := Lib.hid (HF.out.trans hf2 (fun _ _ f => f))
        have HP2 := Lib.hid (HP.out.fresh hf2)
        clear hz2 hf2 HZ0 HZ1 HF HP c0
        go_wp2_with (first
          | (refine wpList_allocA rfl 131 rfl (bvals zsec) zeroSec ?_
             intro w3 HB3 HF3 HS3)
          | (refine wpList_storeA rfl 131 _ _ rfl w2.heap.size 0 rfl (bvals zsec) rfl _ _ HB3.out (by rw [bvals_length, zsec_length]; exact infoSec) (by simp) bvals_one ?_
             intro w4 HB4 HC4))
        have hb4 := HB4.out
        rw [over_all _ _ (by simp)] at hb4
        have hc24 : Fresh w2 w4 := HF3.out.trans HC4.out (fun q hq e => by omega)
        have HZ04 := Lib.hid (HZ02.out.chg hc24 id)
        have HZ14 := Lib.hid (HZ12.out.chg hc24 id)
        have HF4 := Lib.hid (HF2.out.trans hc24 (fun _ _ f => f))
        have HP4 := Lib.hid (HP2.out.fresh hc24)
        have HS4 := Lib.hid hb4
        clear hb4 hc24 HZ02 HZ12 HF2 HP2 HB3 HF3 HS3 HB4 HC4
        generalize w2.heap.size = sb at *
        obtain ⟨so, hso, hr1⟩ := run_sliceArrL (Pr := Tryz.prog) 111 5 512 Tryz.underlying111 Tryz.sizeOf5 (w.heap.size + 1) 0 (64 * k) .i64 (by omega) ((k : Int) * 64) (by omega)
        obtain rfl := hso (by omega)
        have hr2 := run_sliceSec sb
        have hwm : IntKind.i64.wrap ((k : Int) * 64) = (k : Int) * 64 := IntWalk.i64_in _ (by omega)
        go_still_tail 4, (by kernel_rfl)
        change wpList _ _ _ _ _ w4.drew
        clear hr1 hr2 hwm
        have hsrc : ∀ (j : Nat) (v : Value), (bvals zsec)[j]? = some v → w4.drew.cell? ((⟨sb, 0, none⟩ : Addr).add j) = some v := HS4.out.drew.cells
        have HSRC := Lib.hid hsrc
        clear hsrc
        go_wp2_with (
          with_reducible refine wpList_copyB rfl _ _ rfl (w.heap.size + 1) (64 * k) _ _ HZ14.out.drew zsec _ _ _ _ _ _ rfl rfl (by rw [zsec_length]; omega) (fun hp => ⟨rfl, _, rfl, HSRC.out⟩) (by rw [bvals_length, zpage_length, zsec_length]; omega) ?_
          intro w5 HB5 HC5)
        have hb5 := HB5.out
        rw [bvals_over, over_zero k hlt] at hb5
        have hq := Blk.lt HZ04.out
        have hc45 : Chg (· = w.heap.size + 1) w4 w5 := ((Chg.refl (fun _ => False) w4).drew).fresh.trans HC5.out (fun _ _ h => h)
        have hlp := HP4.out.blk
        have hf5 : Fresh w w5 := HF4.out.trans hc45 (fun q hq e => by omega)
        have hne : ∀ (e : TypeId) (x : Nat) (cs : List Value), Blk w4 x e cs → 111 ≠ e → ¬ x = w.heap.size + 1 := fun e x cs hx he hxe => by
          subst hxe
          have := HZ14.out
          rw [Blk, hx] at this
          simp only [Option.some.injEq, Obj.cells.injEq] at this
          exact he this.2.1.symm
        have hpf : PoolF w5 p l d mN mK mH size most := HP4.out.chg hc45 (hne _ _ _ HP4.out.blk (by decide)) (hne _ _ _ HP4.out.disk.blk (by decide)) (HP4.out.disk.now.1.blk HZ14.out) (HP4.out.disk.kept.1.blk HZ14.out) (HP4.out.has.blk HZ14.out)
        go_roundw
        case rel => exact ⟨k + 1, by omega, by go_num, HZ04.out.chg hc45 (by omega), hb5, hf5, hpf⟩
        case measure => simp [intOf]; omega
      · obtain rfl : k = 8 := by omega
        go_wp2
        go_meet
        exact ⟨HZ0, HZ1, HF⟩
  case rest =>
    obtain ⟨HZ0, HZ1, HF⟩ := hcut
    clear HP
    have hbp := buildPage
    have heq := eqlPage
    go_wp2_with (refine wpList_loadA rfl 111 _ rfl (w.heap.size + 1) 0 rfl _ _ HZ1.out 512 (bvals zpage) (take_all _ _ (by simp)) _ Tryz.underlying111 rfl infoPage (by simp) ?_)
    refine (new_any 0 _ (by omega) (by omega)).mono ?_
    rintro e w2 ⟨rfl, hf2⟩
    have HZ02 := Lib.hid (HZ0.out.chg hf2 id)
    have HZ12 := Lib.hid (HZ1.out.chg hf2 id)
    have HF2 := Lib.hid (HF.out.trans hf2 (fun _ _ f => f))
    have HPK : Hid ((madeF (lowB 0) []).length = 512) := madeF_length _ _ (by simp [endF])
    clear hf2 HZ0 HZ1 HF hbp heq
    generalize hpk : madeF (lowB 0) [] = pk at *
    have HPE := Lib.hid hpk
    clear hpk
    go_wp2_with (first
      | (refine wpList_loadA rfl 111 _ rfl (w.heap.size + 1) 0 rfl _ _ HB3.out 512 (bvals pk) (take_all _ _ (by simp [HPK.out])) _ Tryz.underlying111 rfl infoPage (by simp [HPK.out]) ?_)
      | (refine wpList_storeA rfl 111 _ _ rfl (w.heap.size + 1) 0 rfl (bvals pk) rfl _ _ HZ12.out (infoPage' HPK.out) (by simp [HPK.out]) bvals_one ?_
         intro w3 HB30 HC3
         have hb3 := HB30.out
         rw [over_all _ _ (by simp [HPK.out])] at hb3
         have HB3 := Lib.hid hb3
         have HZ03 := Lib.hid (HZ02.out.chg HC3.out (by omega))
         have HF3 := Lib.hid (HF2.out.trans HC3.out (fun q hq e => by omega))
         clear hb3 HB30)
      | (refine wpList_storeA rfl 111 _ _ rfl w.heap.size 0 rfl (bvals pk) rfl _ _ HZ03.out (infoPage' HPK.out) (by simp [HPK.out]) bvals_one ?_
         intro w4 HB4 HC4))
    refine bodyPost_ret (results_cell_t Tryz.results103 _ _ w.heap.size 111 (bvals pk) _ rfl ?_ Tryz.underlying111 rfl (infoPage' HPK.out)) rfl ?_
    · have := HB4.out
      rwa [over_all _ _ (by simp [HPK.out])] at this
    · exact ⟨by rw [HPE.out]; rfl, HF3.out.trans HC4.out (fun q hq e => by omega)⟩
end Go.Proofs.YtnmjkgnahhbnoaaGreat

/- Walks of container/heap over a pool's frames: Fix, Push, Pop. -/
namespace Go.Proofs.YtnmjkgnahhbnoaaGreat
open Go.RowKit

theorem FrTo.trans {oa : Option Addr} {cap : Nat} {bs bs1 bs2 : List Nat} {fd : Nat → FD} {w w1 w2 : World} (h : FrTo oa cap bs fd w w1 bs1) (k : FrTo oa cap bs1 fd w1 w2 bs2) : FrTo oa cap bs fd w w2 bs2 :=
  ⟨k.1.trans h.1, fun b => (k.2.1 b).trans (h.2.1 b), k.2.2.1, h.2.2.2.trans k.2.2.2 (fun b _ hb => hb.of h.2.1)⟩

set_option maxHeartbeats 400000 in
theorem frLen_any (a : Option Addr) (n cap : Nat) (w : World) : Calls Tryz.prog 147 #[.slice a n cap] w fun e w' => e = .returned (.int .i64 n) ∧ w = w' := by
  go_enter Tryz.func147, Tryz.ntmps147
  go_wp2
  go_ret
  exact ⟨rfl, rfl⟩

set_option maxRecDepth 100000 in
set_option maxHeartbeats 1000000 in
theorem fix_any (p : Nat) (oa : Option Addr) (cap : Nat) (bs : List Nat) (fd : Nat → FD) (i : Nat) (w : World) (h : Frames w oa cap bs fd) (hc : w.cell? ⟨p, 3, none⟩ = some (.slice oa bs.length cap)) (hp : ¬ FrF oa bs p) (hi : i < bs.length) (hn : bs.length ≤ 1000000000) :
    Calls Tryz.prog 124 #[.iface 179 (.pointer (some ⟨p, 3, none⟩)), .int .i64 i] w (FrPost oa cap bs fd w) := by
  have H0 := Lib.hid h
  have HP := Lib.hid hp
  clear h hp
  go_enter Tryz.func124, Tryz.ntmps124
  go_wp2_with fail
  refine (frLen_any _ _ _ _).mono ?_
  rintro e w1 ⟨rfl, rfl⟩
  go_wp2_with fail
  refine (down_any p oa cap bs fd i bs.length _ H0.out hc HP.out (by omega) (Nat.le_refl _) hn).mono ?_
  rintro e w1 ⟨⟨c, rfl⟩, bs1, h1⟩
  have H1 := Lib.hid h1
  have hc1 := h1.2.2.2.cell hc HP.out
  clear h1 hc
  cases c with
  | true =>
    go_wp2
    go_end0
    exact ⟨⟨_, rfl⟩, bs1, H1.out⟩
  | false =>
    go_wp2_with fail
    have hl1 : Hid (bs1.length = bs.length) := H1.out.1
    refine (up_any p oa cap bs1 fd i _ H1.out.2.2.1 (by rw [hl1.out]; exact hc1) (fun hf => HP.out (hf.of H1.out.2.1)) (by have := hl1.out; omega) (by have := hl1.out; omega)).mono ?_
    rintro e w2 ⟨⟨v, rfl⟩, bs2, h2⟩
    have H2 := Lib.hid (H1.out.trans h2)
    clear h2
    go_wp2
    go_end0
    exact ⟨⟨_, rfl⟩, bs2, H2.out⟩

set_option maxHeartbeats 400000 in
theorem swapSame_any (oa : Option Addr) (cap : Nat) (bs : List Nat) (fd : Nat → FD) (i : Nat) (w : World) (h : Frames w oa cap bs fd) (hi : i < bs.length) (hn : bs.length ≤ 1000000000) :
    Calls Tryz.prog 149 #[.slice oa bs.length cap, .int .i64 i, .int .i64 i] w fun e w' => e = .returned (.tuple #[]) ∧ Frames w' oa cap bs fd ∧ Chg (FrF oa bs) w w' := by
  have H := Lib.hid h
  have hbi := List.getElem?_eq_getElem hi
  obtain ⟨ob, rfl, c1, z1, u1, c2, c2', z2, n1⟩ := h.at_ hbi
  have HBI := Lib.hid hbi
  have hni := n1.symm
  generalize bs[i] = fb at *
  clear h hbi c2
  have hi' : (i : Int) < bs.length := by omega
  go_enter Tryz.func149, Tryz.ntmps149
  go_wp2
  go_region
  have d1 : ((w.setCell ⟨ob, i, none⟩ (.pointer (some ⟨fb, 0, none⟩))).setCell ⟨ob, i, none⟩ (.pointer (some ⟨fb, 0, none⟩))).drew.cell? ⟨ob, i, none⟩ = some (.pointer (some ⟨fb, 0, none⟩)) := by simp [go_sem, *]
  have d4 : ((w.setCell ⟨ob, i, none⟩ (.pointer (some ⟨fb, 0, none⟩))).setCell ⟨ob, i, none⟩ (.pointer (some ⟨fb, 0, none⟩))).drew.cell? ⟨fb, 515, none⟩ = some (.int .i64 i) := by simp [go_sem, *]
  have y4 : ((w.setCell ⟨ob, i, none⟩ (.pointer (some ⟨fb, 0, none⟩))).setCell ⟨ob, i, none⟩ (.pointer (some ⟨fb, 0, none⟩))).drew.frozen? ⟨fb, 515, none⟩ = false := by simp [go_sem, *]
  have HC1 : Hid (Chg (· = ob) w ((w.setCell ⟨ob, i, none⟩ (.pointer (some ⟨fb, 0, none⟩))).setCell ⟨ob, i, none⟩ (.pointer (some ⟨fb, 0, none⟩))).drew) := ((Chg.put1 w ob i _).trans (Chg.put1 _ ob i _) (fun _ _ h => h)).drew
  have hxs : (bs.map fun b => Value.pointer (some ⟨b, 0, none⟩)).set i (.pointer (some ⟨fb, 0, none⟩)) = bs.map fun b => Value.pointer (some ⟨b, 0, none⟩) := by
    apply List.ext_getElem?
    intro k
    rw [List.getElem?_set]
    split
    · rename_i e; subst e
      rw [if_pos (by simpa using hi), List.getElem?_map, HBI.out]; rfl
    · rfl
  have HR1 : Hid (((w.setCell ⟨ob, i, none⟩ (.pointer (some ⟨fb, 0, none⟩))).setCell ⟨ob, i, none⟩ (.pointer (some ⟨fb, 0, none⟩))).drew.ownsRow 0 139 1 (.slice (some ⟨ob, 0, none⟩) bs.length cap) bs.length (bs.map fun b => .pointer (some ⟨b, 0, none⟩))) := by
    have h1 := ((H.out.row.stored i (.pointer (some ⟨fb, 0, none⟩))).1.stored i (.pointer (some ⟨fb, 0, none⟩))).1
    rw [hxs, hxs] at h1
    exact h1
  clear c1 z1 c2' z2 hxs
  generalize ((w.setCell ⟨ob, i, none⟩ (.pointer (some ⟨fb, 0, none⟩))).setCell ⟨ob, i, none⟩ (.pointer (some ⟨fb, 0, none⟩))).drew = w1 at *
  go_wp2
  go_region
  go_wp2
  go_end0
  have hc2 : Chg (· = fb) w1 ((w1.setCell ⟨fb, 515, none⟩ (.int .i64 i)).setCell ⟨fb, 515, none⟩ (.int .i64 i)).drew := ((Chg.put1 w1 fb 515 _).trans (Chg.put1 _ fb 515 _) (fun _ _ h => h)).drew
  refine ⟨rfl, ⟨hc2.owns HR1.out (fun b hb => ?_), fun k b hk => ?_⟩, ?_⟩
  · simp only [Value.ownBlock, Option.some.injEq] at hb
    subst hb
    exact fun e => hni e
  · obtain ⟨lb, ub, bb⟩ := H.out.fr k b hk
    obtain ⟨ob', he, _, _, _, _, _, _, nb⟩ := H.out.at_ hk
    simp only [Option.some.injEq, Addr.mk.injEq, and_true] at he
    subst he
    have bb1 := bb.chg HC1.out (fun e => nb e)
    by_cases h2 : b = fb
    · subst h2
      obtain rfl := H.out.inj hk HBI.out
      have := (bb1.set 515 (.int .i64 k)).set 515 (.int .i64 k)
      rw [frCells_set515 lb, frCells_set515 lb] at this
      exact ⟨lb, ub, this⟩
    · exact ⟨lb, ub, bb1.chg hc2 h2⟩
  · exact (HC1.out.mono (G := FrF (some ⟨ob, 0, none⟩) bs) (fun b _ e => .inr (by rw [e]; rfl))).trans hc2 (fun b _ e => .inl (by rw [e]; exact List.mem_of_getElem? HBI.out))

/-- A frame in hand, at whatever place. -/
def FrNew (w : World) (f : FD) (b : Nat) : Prop := f.pg.length = 512 ∧ ∃ used at_ : Int, Blk w b 143 (frCells f used at_)

theorem Frames.init {w : World} {oa : Option Addr} {cap : Nat} {bs : List Nat} {b : Nat} {fd : Nat → FD} (h : Frames w oa cap (bs ++ [b]) fd) : Frames w oa cap bs fd := by
  refine ⟨?_, fun i c hi => h.fr i c (by rw [List.getElem?_append_left (List.getElem?_eq_some_iff.1 hi).1]; exact hi)⟩
  have hr := h.row
  refine ⟨by simp, ?_⟩
  rcases hr.2 with ⟨e, h0⟩ | ⟨g, cap', cur, hv, hb, hg, hn, hm, hs, ht⟩
  · simp at h0
  · simp only [Value.slice.injEq, List.length_append, List.length_cons, List.length_nil] at hv hn
    obtain ⟨rfl, _, rfl⟩ := hv
    refine .inr ⟨g, cap, cur, rfl, hb, hg, by omega, hm, hs, ?_⟩
    have h2 := congrArg (List.take bs.length) ht
    rw [List.take_take, Nat.min_eq_left (by simp), List.map_append, List.take_left' (by simp)] at h2
    simpa using h2

end Go.Proofs.YtnmjkgnahhbnoaaGreat

/- Walks of package pool: the first page loaded. -/
namespace Go.Proofs.YtnmjkgnahhbnoaaGreat
open Go.RowKit
set_option linter.unusedSimpArgs false

theorem infoFrP : (Tryz.prog.info? 139).map (fun i => (i.zero, i.size, i.bytes)) = some (some (.pointer none), 1, 8) := by kernel_rfl

theorem tassert (v : Value) (w : World) : (Instr.typeAssert (.iface 139 v) 20 139 false).run Tryz.prog w = .ok v w := by
  simp [Instr.typeAssert, run_underlying Tryz.underlying139]

def PushTo (p f : Nat) (w w' : World) : Prop := ∃ g cap', w'.ownsRow 0 139 1 (.slice (some ⟨g, 0, none⟩) 1 cap') 1 [.pointer (some ⟨f, 0, none⟩)] ∧ w'.cell? ⟨p, 3, none⟩ = some (.slice (some ⟨g, 0, none⟩) 1 cap') ∧ Chg (fun k => k = f ∨ k = p) w w' ∧ w.heap.size ≤ g ∧ ∀ o, o ≠ 3 → w'.cell? ⟨p, o, none⟩ = w.cell? ⟨p, o, none⟩

theorem push_fin {w w2 w4 : World} {p f g' cap' : Nat} {cs : List Value} {o : Obj} (hc : Chg (· = f) w w2) (hf : Fresh w2 w4) (ho : w4.ownsRow 0 139 1 (.slice (some ⟨g', 0, none⟩) (0 + 1) cap') (0 + 1) ([] ++ [.pointer (some ⟨f, 0, none⟩)]))
    (hg : (Value.slice none 0 0).ownBlock = some g' ∨ (w2.alloc o).heap.size ≤ g') (hb : Blk w2 f 143 cs) (hpf : p ≠ f) (hp1 : p < w.heap.size) (hp2 : p < w2.heap.size) (hcell : (w4.cell? ⟨p, 3, none⟩).isSome = true) :
    PushTo p f w (w4.setCell ⟨p, 3, none⟩ (.slice (some ⟨g', 0, none⟩) 1 cap')) ∧ Blk (w4.setCell ⟨p, 3, none⟩ (.slice (some ⟨g', 0, none⟩) 1 cap')) f 143 cs := by
  have hg2 : w2.heap.size ≤ g' := by
    rcases hg with h | h
    · cases h
    · rw [World.size_alloc] at h; omega
  have hset : Chg (· = p) w4 (w4.setCell ⟨p, 3, none⟩ (.slice (some ⟨g', 0, none⟩) 1 cap')) := (Chg.refl (fun x => x = p) w4).setCell (.inl rfl) _
  have hsz := hc.size
  have hsz4 := hf.size
  refine ⟨⟨g', cap', ?_, ?_, ((hc.mono (fun k _ h => .inl h)).trans hf.fresh (fun _ _ h => h)).trans hset (fun k _ h => .inr h), by omega, fun o ho3 => ?_⟩, (hb.chg hf id).chg hset (fun e => hpf e.symm)⟩
  · simp only [List.nil_append, Nat.zero_add] at ho
    exact hset.owns ho (fun k hk => by rw [ownBlock_slice] at hk; simp only [Option.map_some, Option.some.injEq] at hk; omega)
  · exact World.cell?_setCell_same' _ _ _ hcell
  · rw [World.cell?_setCell_other _ _ _ _ (fun e => by cases e; exact ho3 rfl), hf.cellEq hp2 id, hc.cellEq (p := ⟨p, o, none⟩) hp1 hpf]

set_option maxRecDepth 100000 in
set_option maxHeartbeats 1000000 in
theorem frPush_first (p f : Nat) (cs : List Value) (w : World) (hf : Blk w f 143 cs) (hl : cs.length = 516) (hc : w.cell? ⟨p, 3, none⟩ = some (.slice none 0 0)) (hz : w.frozen? ⟨p, 3, none⟩ = false) (hpf : p ≠ f) :
    Calls Tryz.prog 151 #[.pointer (some ⟨p, 3, none⟩), .iface 139 (.pointer (some ⟨f, 0, none⟩))] w fun e w' => (∃ v, e = .returned v) ∧ PushTo p f w w' ∧ Blk w' f 143 (cs.set 515 (.int .i64 0)) := by
  have c5 : ∃ u, w.cell? ⟨f, 515, none⟩ = some u := ⟨cs[515], by rw [hf.cell, List.getElem?_eq_getElem (by omega)]⟩
  obtain ⟨u, c5⟩ := c5
  have z5 := hf.frozen 515
  have hta := tassert
  have hp1 : p < w.heap.size := cell_lt hc
  have HBF := Lib.hid hf
  clear hf
  go_enter Tryz.func151, Tryz.ntmps151
  go_wp2_with fail
  go_still_tail 8, (by kernel_rfl)
  change wpList _ _ _ _ _ w.drew
  have d5 : w.drew.cell? ⟨f, 515, none⟩ = some u := c5
  have y5 : w.drew.frozen? ⟨f, 515, none⟩ = false := z5
  go_wp2_with fail
  have HB1 : Hid (Blk (w.setCell ⟨f, 515, none⟩ (.int .i64 0)).drew f 143 (cs.set 515 (.int .i64 0))) := (HBF.out.set 515 _).drew
  have HC1 : Hid (Chg (· = f) w (w.setCell ⟨f, 515, none⟩ (.int .i64 0)).drew) := ((Chg.refl (fun x => x = f) w).setCell (.inl rfl) _).drew
  have c3 := HC1.out.cell hc hpf
  have z3 := (HC1.out.frozenEq (p := ⟨p, 3, none⟩) (cell_lt hc) hpf).trans hz
  clear d5 y5 c5 z5 HBF hc hz
  generalize (w.setCell ⟨f, 515, none⟩ (.int .i64 0)).drew = w1 at *
  have HC2 : Hid (w1.drew.cell? ⟨p, 3, none⟩ = some (.slice none 0 0)) := c3
  have HZ2 : Hid (w1.drew.frozen? ⟨p, 3, none⟩ = false) := z3
  have HB2 := Lib.hid HB1.out.drew
  have HCH : Hid (Chg (· = f) w w1.drew) := HC1.out.drew
  refine wp_region_any (by kernel_rfl) ?_
  change wpAny _ _ _ _ _ _ _ w1.drew
  clear c3 z3 HB1 HC1
  generalize w1.drew = w2 at *
  have c2 := HC2.out
  have c2' : (w2.alloc (.cells #[.pointer (some ⟨f, 0, none⟩)] 139)).cell? ⟨p, 3, none⟩ = some (.slice none 0 0) := cell_alloc HC2.out _
  refine wpAny_take (i := 0) (v := .pointer (some ⟨p, 3, none⟩)) rfl (by kernel_rfl) (by kernel_rfl) (by kernel_rfl) (fun _ _ _ h => h) (Or.inl ⟨by rfl, fun w => by rfl⟩) ?_
  try simp only [Act.put, List.setIfInBounds_toArray, List.set_cons_zero, List.set_cons_succ]
  refine wpAny_take (i := 1) (v := .pointer (some ⟨p, 3, none⟩)) rfl (by kernel_rfl) (by kernel_rfl) (by kernel_rfl) (fun _ _ _ h => h) (Or.inl ⟨by rfl, fun w => by rfl⟩) ?_
  try simp only [Act.put, List.setIfInBounds_toArray, List.set_cons_zero, List.set_cons_succ]
  refine wpAny_take (i := 2) (v := .pointer (some ⟨p, 3, none⟩)) rfl (by kernel_rfl) (by kernel_rfl) (by kernel_rfl) (fun _ _ _ h => h) (Or.inl ⟨by rfl, fun w => by go_simp⟩) ?_
  try simp only [Act.put, List.setIfInBounds_toArray, List.set_cons_zero, List.set_cons_succ]
  refine wpAny_take (i := 4) (v := .iface 139 (.pointer (some ⟨f, 0, none⟩))) rfl (by kernel_rfl) (by kernel_rfl) (by kernel_rfl) (fun _ _ _ h => h) (Or.inl ⟨by rfl, fun w => by rfl⟩) ?_
  try simp only [Act.put, List.setIfInBounds_toArray, List.set_cons_zero, List.set_cons_succ]
  refine wpAny_take (i := 5) (v := .pointer (some ⟨f, 0, none⟩)) rfl (by kernel_rfl) (by kernel_rfl) (by kernel_rfl) (fun _ _ _ h => h) (Or.inl ⟨by rfl, fun w => by go_simp⟩) ?_
  try simp only [Act.put, List.setIfInBounds_toArray, List.set_cons_zero, List.set_cons_succ]
  refine wpAny_ready (rs := [3, 6]) (by kernel_rfl) (by simp) ?_
  refine AllReady.cons (o := _) rfl (fun K hK0 => ?_) (AllReady.cons (o := _) rfl (fun K hK0 => ?_) AllReady.nil)
  all_goals (have hK := Lib.hid hK0; clear hK0; rw [if_pos (by rfl)]; try simp only [List.getElem_toArray, List.getElem_cons_succ, List.getElem_cons_zero])
  · go_simp
    refine hK.out _ _ ?_
    clear hK K
    try simp only [Act.put, List.setIfInBounds_toArray, List.set_cons_zero, List.set_cons_succ]
    refine wpAny_ready (rs := [6]) (by kernel_rfl) (by simp) ?_
    refine AllReady.cons (o := _) rfl (fun K hK0 => ?_) AllReady.nil
    have hK := Lib.hid hK0
    clear hK0
    rw [if_pos (by rfl)]
    try simp only [List.getElem_toArray, List.getElem_cons_succ, List.getElem_cons_zero]
    go_simp
    refine hK.out _ _ ?_
    clear hK K
    try simp only [Act.put, List.setIfInBounds_toArray, List.set_cons_zero, List.set_cons_succ]
    refine wpAny_ready (rs := [7]) (by kernel_rfl) (by simp) ?_
    refine AllReady.cons (o := _) rfl (fun K hK0 => ?_) AllReady.nil
    have hK := Lib.hid hK0
    clear hK0
    rw [if_pos (by rfl)]
    try simp only [List.getElem_toArray, List.getElem_cons_succ, List.getElem_cons_zero]
    refine wp_app _ _ 84 rfl 139 (.pointer none) 1 8 Tryz.underlying84 infoFrP rfl (by omega) 0 (.slice none 0 0) 0 [] rfl (World.ownsRow_nil _ _ _ _) ⟨w2.heap.size, 0, none⟩ 1 1 [.pointer (some ⟨f, 0, none⟩)] rfl rfl (new_cells _ _ _) (one_of _ rfl) (by unfold maxLen; omega) (by omega) (Nat.zero_le _) (.inr (by omega)) ?_
    intro g' cap' w4 HO4 HC4 HG4
    refine hK.out _ _ ?_
    clear hK K
    try simp only [Act.put, List.setIfInBounds_toArray, List.set_cons_zero, List.set_cons_succ]
    have hc4 : Fresh w2 w4 := ((Chg.refl (fun _ => False) w2).alloc _).trans (HC4.out.mono (G := fun _ => False) (fun k _ h => by cases h)) (fun _ _ h => h)
    have c4 := hc4.cell HC2.out id
    have z4 := (hc4.frozenEq (p := ⟨p, 3, none⟩) (cell_lt HC2.out) id).trans HZ2.out
    have HFIN := Lib.hid hc4
    refine wpAny_take (i := 8) (v := .pointer (some ⟨p, 3, none⟩)) rfl (by kernel_rfl) (by kernel_rfl) (by kernel_rfl) (fun _ _ _ h => h) (Or.inl ⟨by rfl, fun w => by go_simp⟩) ?_
    try simp only [Act.put, List.setIfInBounds_toArray, List.set_cons_zero, List.set_cons_succ]
    refine wpAny_ready (rs := [9]) (by kernel_rfl) (by simp) ?_
    refine AllReady.cons (o := _) rfl (fun K hK0 => ?_) AllReady.nil
    have hK := Lib.hid hK0
    clear hK0
    rw [if_pos (by rfl)]
    try simp only [List.getElem_toArray, List.getElem_cons_succ, List.getElem_cons_zero]
    go_simp
    refine hK.out _ _ ?_
    clear hK K
    try simp only [Act.put, List.setIfInBounds_toArray, List.set_cons_zero, List.set_cons_succ]
    refine wpAny_done (by kernel_rfl) ?_ _
    go_end0
    exact ⟨⟨_, rfl⟩, push_fin HCH.out HFIN.out HO4.out HG4.out HB2.out hpf hp1 (cell_lt HC2.out) (by rw [c4]; rfl)⟩
  · go_simp
    refine hK.out _ _ ?_
    clear hK K
    try simp only [Act.put, List.setIfInBounds_toArray, List.set_cons_zero, List.set_cons_succ]
    refine wpAny_ready (rs := [3]) (by kernel_rfl) (by simp) ?_
    refine AllReady.cons (o := _) rfl (fun K hK0 => ?_) AllReady.nil
    have hK := Lib.hid hK0
    clear hK0
    rw [if_pos (by rfl)]
    try simp only [List.getElem_toArray, List.getElem_cons_succ, List.getElem_cons_zero]
    go_simp
    refine hK.out _ _ ?_
    clear hK K
    try simp only [Act.put, List.setIfInBounds_toArray, List.set_cons_zero, List.set_cons_succ]
    refine wpAny_ready (rs := [7]) (by kernel_rfl) (by simp) ?_
    refine AllReady.cons (o := _) rfl (fun K hK0 => ?_) AllReady.nil
    have hK := Lib.hid hK0
    clear hK0
    rw [if_pos (by rfl)]
    try simp only [List.getElem_toArray, List.getElem_cons_succ, List.getElem_cons_zero]
    refine wp_app _ _ 84 rfl 139 (.pointer none) 1 8 Tryz.underlying84 infoFrP rfl (by omega) 0 (.slice none 0 0) 0 [] rfl (World.ownsRow_nil _ _ _ _) ⟨w2.heap.size, 0, none⟩ 1 1 [.pointer (some ⟨f, 0, none⟩)] rfl rfl (new_cells _ _ _) (one_of _ rfl) (by unfold maxLen; omega) (by omega) (Nat.zero_le _) (.inr (by omega)) ?_
    intro g' cap' w4 HO4 HC4 HG4
    refine hK.out _ _ ?_
    clear hK K
    try simp only [Act.put, List.setIfInBounds_toArray, List.set_cons_zero, List.set_cons_succ]
    have hc4 : Fresh w2 w4 := ((Chg.refl (fun _ => False) w2).alloc _).trans (HC4.out.mono (G := fun _ => False) (fun k _ h => by cases h)) (fun _ _ h => h)
    have c4 := hc4.cell HC2.out id
    have z4 := (hc4.frozenEq (p := ⟨p, 3, none⟩) (cell_lt HC2.out) id).trans HZ2.out
    have HFIN := Lib.hid hc4
    refine wpAny_take (i := 8) (v := .pointer (some ⟨p, 3, none⟩)) rfl (by kernel_rfl) (by kernel_rfl) (by kernel_rfl) (fun _ _ _ h => h) (Or.inl ⟨by rfl, fun w => by go_simp⟩) ?_
    try simp only [Act.put, List.setIfInBounds_toArray, List.set_cons_zero, List.set_cons_succ]
    refine wpAny_ready (rs := [9]) (by kernel_rfl) (by simp) ?_
    refine AllReady.cons (o := _) rfl (fun K hK0 => ?_) AllReady.nil
    have hK := Lib.hid hK0
    clear hK0
    rw [if_pos (by rfl)]
    try simp only [List.getElem_toArray, List.getElem_cons_succ, List.getElem_cons_zero]
    go_simp
    refine hK.out _ _ ?_
    clear hK K
    try simp only [Act.put, List.setIfInBounds_toArray, List.set_cons_zero, List.set_cons_succ]
    refine wpAny_done (by kernel_rfl) ?_ _
    go_end0
    exact ⟨⟨_, rfl⟩, push_fin HCH.out HFIN.out HO4.out HG4.out HB2.out hpf hp1 (cell_lt HC2.out) (by rw [c4]; rfl)⟩

set_option maxRecDepth 100000 in
set_option maxHeartbeats 1000000 in
theorem heapPush_first (p f : Nat) (fv : FD) (u a : Int) (w : World) (hf : Blk w f 143 (frCells fv u a)) (hl : fv.pg.length = 512) (hc : w.cell? ⟨p, 3, none⟩ = some (.slice none 0 0)) (hz : w.frozen? ⟨p, 3, none⟩ = false) (hpf : p ≠ f) :
    Calls Tryz.prog 105 #[.iface 179 (.pointer (some ⟨p, 3, none⟩)), .iface 139 (.pointer (some ⟨f, 0, none⟩))] w fun e w' => (∃ v, e = .returned v) ∧ (∃ u' a', Blk w' f 143 (frCells fv u' a')) ∧ Chg (fun k => k = f ∨ k = p) w w' ∧ ∀ o, o ≠ 3 → w'.cell? ⟨p, o, none⟩ = w.cell? ⟨p, o, none⟩ := by
  have HBF := Lib.hid hf
  have HC := Lib.hid hc
  have HZ := Lib.hid hz
  have hpw : p < w.heap.size := cell_lt hc
  clear hf hz
  go_enter Tryz.func105, Tryz.ntmps105
  go_wp2_with fail
  refine (frPush_first p f _ w HBF.out (frCells_len hl u a) HC.out HZ.out hpf).mono ?_
  rintro e w1 ⟨⟨v, rfl⟩, ⟨g, cap', ho, hc1, hch, hg, hp3⟩, hb⟩
  have HP3 := Lib.hid hp3
  clear hp3
  rw [frCells_set515 hl] at hb
  have HO := Lib.hid ho
  have HCH := Lib.hid hch
  have HB := Lib.hid hb
  have hsome : (w1.cell? ⟨p, 3, none⟩).isSome = true := by rw [hc1]; rfl
  clear ho hch hb hc
  go_wp2_with fail
  refine (frLen_any _ _ _ _).mono ?_
  rintro e w2 ⟨rfl, rfl⟩
  go_wp2_with fail
  have hfr : Frames w1 (some ⟨g, 0, none⟩) cap' [f] (fun _ => fv) := ⟨HO.out, fun i b hi => by
    cases i with
    | zero => simp only [List.getElem?_cons_zero, Option.some.injEq] at hi; subst hi; exact ⟨hl, u, HB.out⟩
    | succ i => simp at hi⟩
  refine (up_any p (some ⟨g, 0, none⟩) cap' [f] (fun _ => fv) 0 w1 hfr hc1 (by rintro (h | h); exact hpf (List.mem_singleton.1 h); simp at h; omega) (by simp) (by simp)).mono ?_
  rintro e w3 ⟨⟨v3, rfl⟩, bs', hlen, hmem, hfr3, hch3⟩
  have HF3 := Lib.hid hfr3
  have HC3 := Lib.hid hch3
  have HM := Lib.hid hmem
  clear hfr3 hch3 hmem
  go_wp2
  go_end0
  refine ⟨⟨_, rfl⟩, ?_, HCH.out.trans HC3.out (fun k hk h => ?_), fun o ho3 => ?_⟩
  · obtain ⟨x, rfl⟩ : ∃ x, bs' = [x] := List.length_eq_one_iff.1 hlen
    have hx : x = f := by have := (HM.out x).1 (by simp); simpa using this
    subst hx
    obtain ⟨_, u3, hb3⟩ := HF3.out.fr 0 x rfl
    exact ⟨u3, _, hb3⟩
  · rcases h with h | h
    · exact .inl (List.mem_singleton.1 h)
    · simp at h; omega
  · rw [← HP3.out o ho3]
    refine HC3.out.cellEq (p := ⟨p, o, none⟩) (by have := HCH.out.size; show p < _; omega) ?_
    rintro (h | h)
    · exact hpf (List.mem_singleton.1 h)
    · simp at h; omega
end Go.Proofs.YtnmjkgnahhbnoaaGreat
