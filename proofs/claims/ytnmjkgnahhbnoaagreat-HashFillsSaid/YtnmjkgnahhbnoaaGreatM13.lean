/- Part 13 of the walks that the laws of package hash share (HeapD, HeapE, Ents). -/
import Derived.Test.YtnmjkgnahhbnoaaGreatM12
set_option linter.unusedVariables false
set_option linter.unusedSimpArgs false
/- Walks of package heap: at, Set, Drop. -/
namespace Go.Proofs.YtnmjkgnahhbnoaaGreat
open Go.RowKit
set_option linter.unusedSimpArgs false

theorem cells2 {w : World} {q : Nat} {e : TypeId} {x y : Value} (h : Blk w q e [x, y]) : w.cell? ⟨q, 0, none⟩ = some x ∧ w.cell? ⟨q, 1, none⟩ = some y := ⟨by rw [h.cell]; rfl, by rw [h.cell]; rfl⟩

set_option maxRecDepth 100000 in
set_option maxHeartbeats 1000000 in
theorem hat_any {b N m s nx : Nat} {T : Nat → Bool} {V : Nat → Option (List UInt8)} {F : Nat → Prop} {rs : Rs} {x : List UInt8} (w : World) (h : BatchV w b N T V F) (hm : 1 ≤ m) (hv : V m = some (hpage nx rs)) (hf : HFit rs) (hnx : nx ≤ 65535)
    (hs : 1 ≤ s ∧ s ≤ 1000) (hg : getF (hpage nx rs) s = some x) :
    Calls Tryz.prog 80 #[.pointer (some ⟨b, 0, none⟩), .agg #[.int .i64 m, .int .i64 s]] w fun e w' => ∃ v, e = .returned (.tuple #[aggB (hpage nx rs), v, .int .i64 0]) ∧ RecV w' v (some x) ∧ Fresh w w' := by
  have H := Lib.hid h
  have HV := Lib.hid hv
  have HF := Lib.hid hf
  have HG := Lib.hid hg
  have HPL : Hid ((hpage nx rs).length = 512) := (hpage_slots hf).2.2
  have hs0 : ((s : Int) == 0) = false := by rw [beq_eq_false_iff_ne]; omega
  clear h hv hf hg
  go_enter Tryz.func80, Tryz.ntmps80
  go_wp2_with (first
    | (refine wpList_boxA rfl 45 _ rfl [.int .i64 m, .int .i64 s] rfl ?_
       intro w1 HB1 HF1 HS1)
    | (refine wpList_allocA rfl 111 rfl (bvals zpage) Tryz.zeroValue111 ?_
       intro w2 HB2 HF2 HS2
       have c2 := cells2 (HB1.out.chg HF2.out id)))
  have HF02 := Lib.hid (HF1.out.trans HF2.out (fun _ _ f => f))
  refine (hread_any w2 (H.out.fresh HF02.out) hm HV.out HF.out hnx).mono ?_
  rintro e w3 ⟨rfl, hf3⟩
  have HR3 := Lib.hid ((HB1.out.chg HF2.out id).chg hf3 id)
  have HB3 := Lib.hid (HB2.out.chg hf3 id)
  have HF3 := Lib.hid (HF02.out.trans hf3 (fun _ _ f => f))
  have hsz : w.heap.size + 1 < w3.heap.size := by have := HS1.out; have := HS2.out; have := hf3.size; omega
  have hw1 : w1.heap.size = w.heap.size + 1 := HS1.out
  have HW1 := Lib.hid hw1
  clear hf3 HB1 HF1 HS1 HB2 HF2 HS2 HF02 c2 hw1
  generalize hpg : hpage nx rs = pg at *
  have HPG := Lib.hid hpg
  clear hpg
  go_wp2_with (first
    | (refine wpList_allocA rfl 111 rfl (bvals zpage) Tryz.zeroValue111 ?_
       intro w4 HB4 HF4 HS4)
    | (refine wpList_storeA rfl 111 _ _ rfl w3.heap.size 0 rfl (bvals pg) rfl _ _ HB4.out (infoPage' HPL.out) (by simp [HPL.out]) bvals_one ?_
       intro w5 HB5 HC5
       have hb5 := HB5.out
       rw [over_all _ _ (by simp [HPL.out])] at hb5
       have HP5 := Lib.hid hb5
       clear hb5
       have hf35 : Fresh w3 w5 := HF4.out.trans HC5.out (fun k hk e => by omega)
       have HF35 := Lib.hid hf35
       clear hf35
       have c5 := cells2 (HR3.out.chg HF35.out id))
    | (refine wpList_loadA rfl 111 _ rfl w3.heap.size 0 rfl _ _ HP5.out 512 (bvals pg) (take_all _ _ (by simp [HPL.out])) _ Tryz.underlying111 rfl infoPage (by simp [HPL.out]) ?_))
  refine (get_any pg s w5 HPL.out (by omega)).mono ?_
  rw [HG.out]
  rintro e w6 ⟨v, rfl, hr6, hf6⟩
  have HRE := Lib.hid hr6
  have HF6 := Lib.hid (((HF3.out.trans HF35.out (fun _ _ f => f)).trans hf6 (fun _ _ f => f)))
  have HP6 := Lib.hid (HP5.out.chg hf6 id)
  have HB6 := Lib.hid ((HB3.out.chg HF35.out id).chg hf6 id)
  have HR6 := Lib.hid ((HR3.out.chg HF35.out id).chg hf6 id)
  have c6 := cells2 HR6.out
  clear hr6 hf6 HF3 HF35 HP5 HB5 HC5 HB4 HF4 HS4 HB3 HR3 c5
  generalize w3.heap.size = p7 at *
  go_wp2_with (first
    | (refine wpList_loadA rfl 111 _ rfl p7 0 rfl _ _ HP6.out 512 (bvals pg) (take_all _ _ (by simp [HPL.out])) _ Tryz.underlying111 rfl infoPage (by simp [HPL.out]) ?_)
    | (refine wpList_storeA rfl 111 _ _ rfl w1.heap.size 0 rfl (bvals pg) rfl _ _ HB6.out (infoPage' HPL.out) (by simp [HPL.out]) bvals_one ?_
       intro w9 HB9 HC9))
  refine bodyPost_ret (results_cell_tt Tryz.results80 _ _ w1.heap.size 111 (bvals pg) _ rfl ?_ Tryz.underlying111 rfl (infoPage' HPL.out)) rfl ⟨v, by rw [HPG.out]; rfl, ?_, ?_⟩
  · have := HB9.out
    rwa [over_all _ _ (by simp [HPL.out])] at this
  · obtain ⟨bb, hbb⟩ := HRE.out
    refine ⟨bb, hbb.chg HC9.out (fun e => ?_)⟩
    obtain ⟨_, _, cur, _, hh, _⟩ := hbb
    have := HB6.out
    rw [Blk, ← e, hh] at this
    simp at this
  · exact HF6.out.trans HC9.out (fun k hk e => by have := HW1.out; omega)

set_option maxRecDepth 100000 in
set_option maxHeartbeats 1000000 in
theorem hset_any {b N m s nx : Nat} {T : Nat → Bool} {V : Nat → Option (List UInt8)} {F : Nat → Prop} {rs : Rs} {x r pg2 : List UInt8} {v : Value} (w : World) (h : BatchV w b N T V F) (hm : 1 ≤ m ∧ m < N) (hv : V m = some (hpage nx rs)) (hf : HFit rs) (hnx : nx ≤ 65535)
    (hs : 1 ≤ s ∧ s ≤ 1000) (hg : getF (hpage nx rs) s = some x) (hr : BytesO w v r F) (hl : r.length ≤ x.length) (hx : x.length ≤ 1000) (hset : setpF (hpage nx rs) s r = some pg2) (hpl : pg2.length = 512) :
    Calls Tryz.prog 79 #[.pointer (some ⟨b, 0, none⟩), .agg #[.int .i64 m, .int .i64 s], v] w fun e w' => e = .returned (.int .i64 0) ∧ BatchTo w w' b N T (vput V m pg2) F := by
  have H := Lib.hid h
  have HV := Lib.hid hv
  have HF := Lib.hid hf
  have HG := Lib.hid hg
  have HR := Lib.hid hr
  have HSE := Lib.hid hset
  have HPL2 := Lib.hid hpl
  have HPL : Hid ((hpage nx rs).length = 512) := (hpage_slots hf).2.2
  have hs0 : ((s : Int) == 0) = false := by rw [beq_eq_false_iff_ne]; omega
  obtain ⟨av, cv, rfl⟩ := hr.toS.toV.slice
  have hgt : decide ((x.length : Int) < (r.length : Int)) = false := by simp; omega
  have hgt2 : decide (x.length < r.length) = false := by simp; omega
  clear h hv hf hg hr hset hpl
  go_enter Tryz.func79, Tryz.ntmps79
  go_wp2_with (first
    | (refine wpList_boxA rfl 45 _ rfl [.int .i64 m, .int .i64 s] rfl ?_
       intro w1 HB1 HF1 HS1)
    | (refine wpList_loadA rfl 45 _ rfl w.heap.size 0 rfl _ _ HB1.out 2 [.int .i64 m, .int .i64 s] (take_all _ _ (by simp)) _ Tryz.underlying45 rfl infoRid (by simp) ?_))
  refine (hat_any w1 (H.out.fresh HF1.out) hm.1 HV.out HF.out hnx hs HG.out).mono ?_
  rintro e w3 ⟨vx, rfl, hre, hf3⟩
  obtain ⟨bx, hsx⟩ := hre
  obtain ⟨ox, cx, _, rfl, _, _⟩ := hsx
  have HB3 := Lib.hid (HB1.out.chg hf3 id)
  have HF3 := Lib.hid (HF1.out.trans hf3 (fun _ _ f => f))
  clear hf3 HB1 HF1 HS1
  generalize hpage nx rs = pg at *
  go_wp2_with (first
    | (refine wpList_allocA rfl 111 rfl (bvals zpage) Tryz.zeroValue111 ?_
       intro w4 HB4 HF4 HS4)
    | (refine wpList_storeA rfl 111 _ _ rfl w3.heap.size 0 rfl (bvals pg) rfl _ _ HB4.out (infoPage' HPL.out) (by simp [HPL.out]) bvals_one ?_
       intro w5 HB5 HC5
       have hb5 := HB5.out
       rw [over_all _ _ (by simp [HPL.out])] at hb5
       have HP5 := Lib.hid hb5
       clear hb5
       have hf35 : Fresh w3 w5 := HF4.out.trans HC5.out (fun k hk e => by omega)
       have HF35 := Lib.hid hf35
       clear hf35
       have c5 := cells2 (HB3.out.chg HF35.out id))
    | (refine wpList_loadA rfl 111 _ rfl w3.heap.size 0 rfl _ _ HP5.out 512 (bvals pg) (take_all _ _ (by simp [HPL.out])) _ Tryz.underlying111 rfl infoPage (by simp [HPL.out]) ?_))
  have HF5 := Lib.hid (HF3.out.trans HF35.out (fun _ _ f => f))
  have HR5 := Lib.hid (HR.out.fresh HF5.out)
  refine (set_any pg s _ r w5 HPL.out (by omega) HR5.out.toS (by omega)).mono ?_
  rintro e w6 ⟨hf6, rfl⟩
  rw [HSE.out]
  simp only [Option.getD_some, Option.isSome_some]
  have HF6 := Lib.hid (HF5.out.trans hf6 (fun _ _ f => f))
  have HP6 := Lib.hid (HP5.out.chg hf6 id)
  have HB6 := Lib.hid ((HB3.out.chg HF35.out id).chg hf6 id)
  have hqp : w.heap.size ≠ w3.heap.size := by have := HB3.out.lt; omega
  have hw3 := HF3.out.size
  clear hf6 HF5 HF35 HF3 HP5 HB5 HC5 HB4 HF4 HS4 HB3 c5 HR5
  generalize w3.heap.size = p7 at *
  go_wp2_with (first
    | (refine wpList_storeA rfl 111 _ _ rfl p7 0 rfl (bvals pg2) rfl _ _ HP6.out (infoPage' HPL2.out) (by simp [HPL.out, HPL2.out]) bvals_one ?_
       intro w7 HB7 HC7
       have hb7 := HB7.out
       rw [over_all _ _ (by simp [HPL.out, HPL2.out])] at hb7
       have HP7 := Lib.hid hb7
       clear hb7
       have c7 := cells2 (HB6.out.chg HC7.out hqp))
    | (refine wpList_loadA rfl 111 _ rfl p7 0 rfl _ _ HP7.out 512 (bvals pg2) (take_all _ _ (by simp [HPL2.out])) _ Tryz.underlying111 rfl infoPage (by simp [HPL2.out]) ?_))
  have HF7 : Hid (Fresh w w7) := HF6.out.trans HC7.out (fun k hk e => by omega)
  refine (bv_write (H.out.fresh HF7.out) hm HPL2.out).mono ?_
  rintro e w8 ⟨rfl, hb8⟩
  go_wp2
  go_ret
  exact ⟨rfl, BatchTo.trans (fun k hk => .inl hk) HF7.out.fresh hb8⟩

set_option maxRecDepth 100000 in
set_option maxHeartbeats 1000000 in
theorem hdrop_any {b N m s nx : Nat} {T : Nat → Bool} {V : Nat → Option (List UInt8)} {F : Nat → Prop} {rs : Rs} {x pg2 : List UInt8} (w : World) (h : BatchV w b N T V F) (hm : 1 ≤ m ∧ m < N) (hv : V m = some (hpage nx rs)) (hf : HFit rs) (hnx : nx ≤ 65535)
    (hs : 1 ≤ s ∧ s ≤ 1000) (hg : getF (hpage nx rs) s = some x) (hset : dropF (hpage nx rs) s = some pg2) (hpl : pg2.length = 512) :
    Calls Tryz.prog 46 #[.pointer (some ⟨b, 0, none⟩), .agg #[.int .i64 m, .int .i64 s]] w fun e w' => e = .returned (.int .i64 0) ∧ BatchTo w w' b N T (vput V m pg2) F := by
  have H := Lib.hid h
  have HV := Lib.hid hv
  have HF := Lib.hid hf
  have HG := Lib.hid hg
  have HSE := Lib.hid hset
  have HPL2 := Lib.hid hpl
  have HPL : Hid ((hpage nx rs).length = 512) := (hpage_slots hf).2.2
  clear h hv hf hg hset hpl
  go_enter Tryz.func46, Tryz.ntmps46
  go_wp2_with (first
    | (refine wpList_boxA rfl 45 _ rfl [.int .i64 m, .int .i64 s] rfl ?_
       intro w1 HB1 HF1 HS1)
    | (refine wpList_loadA rfl 45 _ rfl w.heap.size 0 rfl _ _ HB1.out 2 [.int .i64 m, .int .i64 s] (take_all _ _ (by simp)) _ Tryz.underlying45 rfl infoRid (by simp) ?_))
  refine (hat_any w1 (H.out.fresh HF1.out) hm.1 HV.out HF.out hnx hs HG.out).mono ?_
  rintro e w3 ⟨vx, rfl, hre, hf3⟩
  clear hre
  have HB3 := Lib.hid (HB1.out.chg hf3 id)
  have HF3 := Lib.hid (HF1.out.trans hf3 (fun _ _ f => f))
  clear hf3 HB1 HF1 HS1
  generalize hpage nx rs = pg at *
  go_wp2_with (first
    | (refine wpList_allocA rfl 111 rfl (bvals zpage) Tryz.zeroValue111 ?_
       intro w4 HB4 HF4 HS4)
    | (refine wpList_storeA rfl 111 _ _ rfl w3.heap.size 0 rfl (bvals pg) rfl _ _ HB4.out (infoPage' HPL.out) (by simp [HPL.out]) bvals_one ?_
       intro w5 HB5 HC5
       have hb5 := HB5.out
       rw [over_all _ _ (by simp [HPL.out])] at hb5
       have HP5 := Lib.hid hb5
       clear hb5
       have hf35 : Fresh w3 w5 := HF4.out.trans HC5.out (fun k hk e => by omega)
       have HF35 := Lib.hid hf35
       clear hf35
       have c5 := cells2 (HB3.out.chg HF35.out id))
    | (refine wpList_loadA rfl 111 _ rfl w3.heap.size 0 rfl _ _ HP5.out 512 (bvals pg) (take_all _ _ (by simp [HPL.out])) _ Tryz.underlying111 rfl infoPage (by simp [HPL.out]) ?_))
  have HF5 := Lib.hid (HF3.out.trans HF35.out (fun _ _ f => f))
  refine (drop_any pg s w5 HPL.out (by omega)).mono ?_
  rintro e w6 ⟨hf6, rfl⟩
  rw [HSE.out]
  simp only [Option.getD_some, Option.isSome_some]
  have HF6 := Lib.hid (HF5.out.trans hf6 (fun _ _ f => f))
  have HP6 := Lib.hid (HP5.out.chg hf6 id)
  have HB6 := Lib.hid ((HB3.out.chg HF35.out id).chg hf6 id)
  have hqp : w.heap.size ≠ w3.heap.size := by have := HB3.out.lt; omega
  have hw3 := HF3.out.size
  clear hf6 HF5 HF35 HF3 HP5 HB5 HC5 HB4 HF4 HS4 HB3 c5
  generalize w3.heap.size = p7 at *
  go_wp2_with (first
    | (refine wpList_storeA rfl 111 _ _ rfl p7 0 rfl (bvals pg2) rfl _ _ HP6.out (infoPage' HPL2.out) (by simp [HPL.out, HPL2.out]) bvals_one ?_
       intro w7 HB7 HC7
       have hb7 := HB7.out
       rw [over_all _ _ (by simp [HPL.out, HPL2.out])] at hb7
       have HP7 := Lib.hid hb7
       clear hb7
       have c7 := cells2 (HB6.out.chg HC7.out hqp))
    | (refine wpList_loadA rfl 111 _ rfl p7 0 rfl _ _ HP7.out 512 (bvals pg2) (take_all _ _ (by simp [HPL2.out])) _ Tryz.underlying111 rfl infoPage (by simp [HPL2.out]) ?_))
  have HF7 : Hid (Fresh w w7) := HF6.out.trans HC7.out (fun k hk e => by omega)
  refine (bv_write (H.out.fresh HF7.out) hm HPL2.out).mono ?_
  rintro e w8 ⟨rfl, hb8⟩
  go_wp2
  go_ret
  exact ⟨rfl, BatchTo.trans (fun k hk => .inl hk) HF7.out.fresh hb8⟩
end Go.Proofs.YtnmjkgnahhbnoaaGreat

/- Walks of package heap: each. -/
namespace Go.Proofs.YtnmjkgnahhbnoaaGreat
open Go.RowKit
set_option linter.unusedSimpArgs false

/-- At the head of a round of heap.each. -/
def EachI (L : List (Nat × Rs)) (I : Nat → World → Prop) (k : Nat) (v : Value) (wr : World) : Prop :=
  ∃ (i m : Nat) (rs : Rs), L[i]? = some (m, rs) ∧ k + i = L.length ∧ v = .int .i64 m ∧ I i wr

set_option maxRecDepth 100000 in
set_option maxHeartbeats 1000000 in
theorem heachScan_any {b N : Nat} {V : Nat → Option (List UInt8)} {L : List (Nat × Rs)} (c : Addr) (I : Nat → World → Prop) (w : World) (hI : ∀ i w1, I i w1 → ∃ T F, BatchV w1 b N T V F) (hF : ∀ i w1 w2, I i w1 → Fresh w1 w2 → I i w2)
    (hV : HeapV V N L)
    (hdo : ∀ (i m : Nat) (rs : Rs) w1, L[i]? = some (m, rs) → I i w1 → Calls Tryz.prog 56 #[.int .i64 m, aggB (hpage (nextAt L (i + 1)) rs), .pointer (some c)] w1 fun e w2 => e = .returned (.int .i64 0) ∧ I (i + 1) w2)
    (h0 : I 0 w) :
    Calls Tryz.prog 55 #[.pointer (some ⟨b, 0, none⟩), .int .i64 (nextAt L 0 : Nat), .func (.func 56) #[] #[.pointer (some c)]] w fun e w' => e = .returned (.int .i64 0) ∧ I L.length w' := by
  have HI := Lib.hid hI
  have HF := Lib.hid hF
  have HV := Lib.hid hV
  have HD := Lib.hid hdo
  have HE : Hid (EachI L I L.length (.int .i64 (nextAt L 0 : Nat)) w) := by
    have h1 := hV.ne
    have hx2 : L[0]? = some ((L[0]'h1).1, (L[0]'h1).2) := List.getElem?_eq_getElem h1
    refine ⟨0, _, _, hx2, rfl, ?_, h0⟩
    unfold nextAt; rw [hx2]; rfl
  clear hI hF hV hdo h0
  generalize nextAt L 0 = first at *
  go_enter Tryz.func55, Tryz.ntmps55
  go_wp2_with fail
  go_loopg [7] (L.length) (fun k n wr => EachI L I k n wr)
  case atStart => exact HE.out
  case round =>
    clear HE
    obtain ⟨i, m, rs, hi, hk, rfl, hinv⟩ := hrel
    obtain ⟨T, F, hb⟩ := HI.out i wr hinv
    have HINV := Lib.hid hinv
    have HX := Lib.hid hi
    have HK := Lib.hid hk
    have hN := hb.le
    have HB := Lib.hid hb
    obtain ⟨hvm, hf, hm1, hm2⟩ := HV.out.pg i m rs hi
    have HVM := Lib.hid hvm
    have HFT := Lib.hid hf
    have HNX := Lib.hid (HV.out.next_lt (i + 1))
    have hnx : nextAt L (i + 1) ≤ 65535 := by have := HNX.out.1; omega
    have HPL : Hid ((hpage (nextAt L (i + 1)) rs).length = 512) := (hpage_slots hf).2.2
    have HDO : Hid (∀ w1, I i w1 → Calls Tryz.prog 56 #[.int .i64 m, aggB (hpage (nextAt L (i + 1)) rs), .pointer (some c)] w1 fun e w2 => e = .returned (.int .i64 0) ∧ I (i + 1) w2) := fun w1 => HD.out i m rs w1 hi
    clear hinv hi hk hb hvm hf
    go_wp2_with fail
    refine (hread_any wr HB.out hm1 HVM.out HFT.out hnx).mono ?_
    rintro e w1 ⟨rfl, hf1⟩
    have HF1 := Lib.hid hf1
    clear hf1 HVM
    generalize hpage (nextAt L (i + 1)) rs = pg at *
    generalize hnx2 : nextAt L (i + 1) = nx at *
    have HNX2 := Lib.hid hnx2
    clear hnx2
    go_wp2_with (first
      | (refine wpList_allocA rfl 111 rfl (bvals zpage) Tryz.zeroValue111 ?_
         intro w2 HB2 HF2 HS2)
      | (refine wpList_storeA rfl 111 _ _ rfl w1.heap.size 0 rfl (bvals pg) rfl _ _ HB2.out (infoPage' HPL.out) (by simp [HPL.out]) bvals_one ?_
         intro w3 HB3 HC3
         have hb3 := HB3.out
         rw [over_all _ _ (by simp [HPL.out])] at hb3
         have HP3 := Lib.hid hb3
         clear hb3)
      | (refine wpList_loadA rfl 111 _ rfl w1.heap.size 0 rfl _ _ HP3.out 512 (bvals pg) (take_all _ _ (by simp [HPL.out])) _ Tryz.underlying111 rfl infoPage (by simp [HPL.out]) ?_))
    have hf13 : Fresh w1 w3 := HF2.out.trans HC3.out (fun k hk e => by omega)
    have HI3 := Lib.hid (HF.out i _ _ HINV.out (HF1.out.trans hf13 (fun _ _ f => f)))
    clear hf13 HB2 HF2 HS2 HB3 HC3 HP3 HF1 HINV HB HFT HPL
    generalize w1.heap.size = p9 at *
    refine (HDO.out w3 HI3.out).mono ?_
    rintro e w4 ⟨rfl, hi4⟩
    have HI4 := Lib.hid hi4
    clear hi4 HI3 HDO
    rcases Nat.eq_zero_or_pos nx with hz | hz
    · subst hz
      go_wp2
      go_ret
      have hl : i + 1 = L.length := by
        have h1 : i < L.length := (List.getElem?_eq_some_iff.1 HX.out).1
        rcases Nat.lt_or_ge (i + 1) L.length with h2 | h2
        · have := HNX.out.2 h2; omega
        · omega
      exact ⟨rfl, hl ▸ HI4.out⟩
    · have hz2 : ((nx : Int) == 0) = false := by rw [beq_eq_false_iff_ne]; omega
      go_wp2
      have hlt : i + 1 < L.length := by
        rcases Nat.lt_or_ge (i + 1) L.length with h1 | h1
        · exact h1
        · have h2 := HNX2.out
          unfold nextAt at h2
          rw [List.getElem?_eq_none h1] at h2
          simp at h2; omega
      have HLT := Lib.hid hlt
      go_roundg (L.length - (i + 1))
      case rel =>
        have hx2 : L[i + 1]? = some ((L[i + 1]'hlt).1, (L[i + 1]'hlt).2) := List.getElem?_eq_getElem hlt
        have hx3 : (L[i + 1]'hlt).1 = nx := by
          have := HNX2.out
          unfold nextAt at this
          rw [hx2] at this
          simpa using this
        rw [hx3] at hx2
        exact ⟨i + 1, nx, _, hx2, by omega, rfl, HI4.out⟩
      case measure => have := HK.out; omega
set_option maxRecDepth 100000 in
set_option maxHeartbeats 1000000 in
theorem heachFree_any {b N : Nat} {V : Nat → Option (List UInt8)} {L : List (Nat × Rs)} (c : Addr) (I : Nat → World → Prop) (w : World) (hI : ∀ i w1, I i w1 → ∃ T F, BatchV w1 b N T V F) (hF : ∀ i w1 w2, I i w1 → Fresh w1 w2 → I i w2)
    (hV : HeapV V N L)
    (hdo : ∀ (i m : Nat) (rs : Rs) w1, L[i]? = some (m, rs) → I i w1 → Calls Tryz.prog 82 #[.int .i64 m, aggB (hpage (nextAt L (i + 1)) rs), .pointer (some c)] w1 fun e w2 => e = .returned (.int .i64 0) ∧ I (i + 1) w2)
    (h0 : I 0 w) :
    Calls Tryz.prog 55 #[.pointer (some ⟨b, 0, none⟩), .int .i64 (nextAt L 0 : Nat), .func (.func 82) #[] #[.pointer (some c)]] w fun e w' => e = .returned (.int .i64 0) ∧ I L.length w' := by
  have HI := Lib.hid hI
  have HF := Lib.hid hF
  have HV := Lib.hid hV
  have HD := Lib.hid hdo
  have HE : Hid (EachI L I L.length (.int .i64 (nextAt L 0 : Nat)) w) := by
    have h1 := hV.ne
    have hx2 : L[0]? = some ((L[0]'h1).1, (L[0]'h1).2) := List.getElem?_eq_getElem h1
    refine ⟨0, _, _, hx2, rfl, ?_, h0⟩
    unfold nextAt; rw [hx2]; rfl
  clear hI hF hV hdo h0
  generalize nextAt L 0 = first at *
  go_enter Tryz.func55, Tryz.ntmps55
  go_wp2_with fail
  go_loopg [7] (L.length) (fun k n wr => EachI L I k n wr)
  case atStart => exact HE.out
  case round =>
    clear HE
    obtain ⟨i, m, rs, hi, hk, rfl, hinv⟩ := hrel
    obtain ⟨T, F, hb⟩ := HI.out i wr hinv
    have HINV := Lib.hid hinv
    have HX := Lib.hid hi
    have HK := Lib.hid hk
    have hN := hb.le
    have HB := Lib.hid hb
    obtain ⟨hvm, hf, hm1, hm2⟩ := HV.out.pg i m rs hi
    have HVM := Lib.hid hvm
    have HFT := Lib.hid hf
    have HNX := Lib.hid (HV.out.next_lt (i + 1))
    have hnx : nextAt L (i + 1) ≤ 65535 := by have := HNX.out.1; omega
    have HPL : Hid ((hpage (nextAt L (i + 1)) rs).length = 512) := (hpage_slots hf).2.2
    have HDO : Hid (∀ w1, I i w1 → Calls Tryz.prog 82 #[.int .i64 m, aggB (hpage (nextAt L (i + 1)) rs), .pointer (some c)] w1 fun e w2 => e = .returned (.int .i64 0) ∧ I (i + 1) w2) := fun w1 => HD.out i m rs w1 hi
    clear hinv hi hk hb hvm hf
    go_wp2_with fail
    refine (hread_any wr HB.out hm1 HVM.out HFT.out hnx).mono ?_
    rintro e w1 ⟨rfl, hf1⟩
    have HF1 := Lib.hid hf1
    clear hf1 HVM
    generalize hpage (nextAt L (i + 1)) rs = pg at *
    generalize hnx2 : nextAt L (i + 1) = nx at *
    have HNX2 := Lib.hid hnx2
    clear hnx2
    go_wp2_with (first
      | (refine wpList_allocA rfl 111 rfl (bvals zpage) Tryz.zeroValue111 ?_
         intro w2 HB2 HF2 HS2)
      | (refine wpList_storeA rfl 111 _ _ rfl w1.heap.size 0 rfl (bvals pg) rfl _ _ HB2.out (infoPage' HPL.out) (by simp [HPL.out]) bvals_one ?_
         intro w3 HB3 HC3
         have hb3 := HB3.out
         rw [over_all _ _ (by simp [HPL.out])] at hb3
         have HP3 := Lib.hid hb3
         clear hb3)
      | (refine wpList_loadA rfl 111 _ rfl w1.heap.size 0 rfl _ _ HP3.out 512 (bvals pg) (take_all _ _ (by simp [HPL.out])) _ Tryz.underlying111 rfl infoPage (by simp [HPL.out]) ?_))
    have hf13 : Fresh w1 w3 := HF2.out.trans HC3.out (fun k hk e => by omega)
    have HI3 := Lib.hid (HF.out i _ _ HINV.out (HF1.out.trans hf13 (fun _ _ f => f)))
    clear hf13 HB2 HF2 HS2 HB3 HC3 HP3 HF1 HINV HB HFT HPL
    generalize w1.heap.size = p9 at *
    refine (HDO.out w3 HI3.out).mono ?_
    rintro e w4 ⟨rfl, hi4⟩
    have HI4 := Lib.hid hi4
    clear hi4 HI3 HDO
    rcases Nat.eq_zero_or_pos nx with hz | hz
    · subst hz
      go_wp2
      go_ret
      have hl : i + 1 = L.length := by
        have h1 : i < L.length := (List.getElem?_eq_some_iff.1 HX.out).1
        rcases Nat.lt_or_ge (i + 1) L.length with h2 | h2
        · have := HNX.out.2 h2; omega
        · omega
      exact ⟨rfl, hl ▸ HI4.out⟩
    · have hz2 : ((nx : Int) == 0) = false := by rw [beq_eq_false_iff_ne]; omega
      go_wp2
      have hlt : i + 1 < L.length := by
        rcases Nat.lt_or_ge (i + 1) L.length with h1 | h1
        · exact h1
        · have h2 := HNX2.out
          unfold nextAt at h2
          rw [List.getElem?_eq_none h1] at h2
          simp at h2; omega
      have HLT := Lib.hid hlt
      go_roundg (L.length - (i + 1))
      case rel =>
        have hx2 : L[i + 1]? = some ((L[i + 1]'hlt).1, (L[i + 1]'hlt).2) := List.getElem?_eq_getElem hlt
        have hx3 : (L[i + 1]'hlt).1 = nx := by
          have := HNX2.out
          unfold nextAt at this
          rw [hx2] at this
          simpa using this
        rw [hx3] at hx2
        exact ⟨i + 1, nx, _, hx2, by omega, rfl, HI4.out⟩
      case measure => have := HK.out; omega
end Go.Proofs.YtnmjkgnahhbnoaaGreat

/- Slices of entries of a heap. -/
namespace Go.Proofs.YtnmjkgnahhbnoaaGreat
open Go.RowKit
set_option linter.unusedSimpArgs false

section
variable {Pr : Program} {ops : Array Oper} {rest : List Oper} {o : Oper} {a : Act} {w : World} {Q : Exit → Act → World → Prop}
theorem fill_one (k : Nat) (hk : 0 < k) (cs : List Value) (h : cs.length = k) (z : Array Value) : Instr.fill (fun i => some (i * k, k)) ((Array.range (1 * k)).map (z[· % z.size]!)) [(0, .agg cs.toArray)] = some cs.toArray := by
  have := Great.fill_whole (s := k) hk [.agg cs.toArray] ((Array.range (1 * k)).map (z[· % z.size]!)) (by intro v hv; simp at hv; subst hv; simpa [Value.cells] using h) (by simp)
  simpa [Value.cells] using this
/-- A slice of one element of many cells. -/
theorem wpList_sliceOne (hg : o.guard = none) (t e : TypeId) (k : Nat) (x : Operand) (ho : o.op = .buildSlice t 1 #[(0, x)]) (cs : List Value) (hx : a.eval x = .agg cs.toArray) (hl : cs.length = k) (hk : 0 < k ∧ k ≤ 1000) (z : Value) (bytes : Nat)
    (hu : Pr.underlying t = some (.slice e)) (hi : (Pr.info? e).map (fun i => (i.zero, i.size, i.bytes)) = some (some z, k, bytes))
    (h : ∀ w', Hid (Blk w' w.heap.size e cs) → Hid (Fresh w w') → Hid (w'.heap.size = w.heap.size + 1) → wpList Pr ops Q rest (a.put o.dst (.slice (some ⟨w.heap.size, 0, none⟩) 1 1)) w') : wpList Pr ops Q (o :: rest) a w := by
  obtain ⟨i0, hi, hz0, hz1, hz2⟩ := info_parts hi
  refine wpList_buildSlice hg t e 1 _ ho cs.toArray i0 z hu hi hz0 (by rw [hz1]; omega) (by rw [hz1]; omega) ?_ (h _ (Blk.new w e cs) ((Chg.refl _ w).alloc _) (World.size_alloc _ _))
  rw [hz1]
  have := fill_one k hk.1 cs hl z.cells
  simpa [hx] using this
end

theorem infoEnt3 : (Tryz.prog.info? 73).map (fun i => (i.zero, i.size, i.bytes)) = some (some (.agg #[.int .i64 0, .int .i64 0, .slice none 0 0]), 3, 40) := by kernel_rfl
theorem infoEnt : (Tryz.prog.info? 73).map (·.size) = some 3 := by kernel_rfl
theorem entZero : (Value.agg #[.int .i64 0, .int .i64 0, .slice none 0 0]).cells.size = 3 := by kernel_rfl

/-- An entry: its place, its record. -/
abbrev Ent := (Nat × Nat) × List UInt8
/-- Entries, as cells. -/
def eCells (X : List ((Nat × Nat) × Value)) : List Value := X.flatMap fun x => [.int .i64 (x.1.1 : Nat), .int .i64 (x.1.2 : Nat), x.2]
theorem eCells_snoc (X : List ((Nat × Nat) × Value)) (x : (Nat × Nat) × Value) : eCells (X ++ [x]) = eCells X ++ [.int .i64 (x.1.1 : Nat), .int .i64 (x.1.2 : Nat), x.2] := by simp [eCells]
theorem eCells_len (X : List ((Nat × Nat) × Value)) : (eCells X).length = X.length * 3 := by
  induction X with
  | nil => rfl
  | cons x X ih =>
    have : eCells (x :: X) = [.int .i64 (x.1.1 : Nat), .int .i64 (x.1.2 : Nat), x.2] ++ eCells X := rfl
    rw [this, List.length_append, ih]; simp; omega
theorem eCells_at {X : List ((Nat × Nat) × Value)} {i : Nat} {x : (Nat × Nat) × Value} (h : X[i]? = some x) : ((eCells X).drop (i * 3)).take 3 = [.int .i64 (x.1.1 : Nat), .int .i64 (x.1.2 : Nat), x.2] := by
  induction X generalizing i with
  | nil => simp at h
  | cons y X ih =>
    have hc : eCells (y :: X) = [.int .i64 (y.1.1 : Nat), .int .i64 (y.1.2 : Nat), y.2] ++ eCells X := rfl
    rw [hc]
    cases i with
    | zero =>
      simp only [List.getElem?_cons_zero, Option.some.injEq] at h
      subst h; rfl
    | succ i =>
      simp only [List.getElem?_cons_succ] at h
      rw [← ih h]
      rw [show ((i + 1) * 3) = [Value.int .i64 (y.1.1 : Nat), .int .i64 (y.1.2 : Nat), y.2].length + i * 3 by simp; omega, List.drop_length_add_append]

/-- The values of entries. -/
structure EntsV (w : World) (base : Nat) (X : List ((Nat × Nat) × Value)) (E : List Ent) : Prop where
  keys : X.map (·.1) = E.map (·.1)
  recs : ∀ (i : Nat) (x : (Nat × Nat) × Value) (e : Ent), X[i]? = some x → E[i]? = some e → ∃ b, SlB w x.2 b e.2 ∧ base ≤ b
  cap : ∀ x ∈ X, ∀ a n c, x.2 = .slice a n c → n ≤ c
theorem EntsV.len {w : World} {base : Nat} {X : List ((Nat × Nat) × Value)} {E : List Ent} (h : EntsV w base X E) : X.length = E.length := by
  have := congrArg List.length h.keys; simpa using this
theorem EntsV.chg {w w1 : World} {base : Nat} {X : List ((Nat × Nat) × Value)} {E : List Ent} {F : Nat → Prop} (h : EntsV w base X E) (hc : Chg F w w1) (hf : ∀ (i : Nat) (x : (Nat × Nat) × Value) b, X[i]? = some x → x.2.ownBlock = some b → base ≤ b → ¬ F b) : EntsV w1 base X E :=
  ⟨h.keys, fun i x e hx he => by
    obtain ⟨b, h1, h2⟩ := h.recs i x e hx he
    exact ⟨b, h1.chg hc (hf i x b hx (by obtain ⟨_, _, _, hv, _⟩ := h1; rw [hv]; rfl) h2), h2⟩, h.cap⟩
theorem EntsV.chgT {w w1 : World} {base : Nat} {X : List ((Nat × Nat) × Value)} {E : List Ent} {F : Nat → Prop} (h : EntsV w base X E) (hc : Chg F w w1) (hf : ∀ b cur, w.heap[b]? = some (.cells cur 5 (0, 0)) → ¬ F b) : EntsV w1 base X E :=
  ⟨h.keys, fun i x e hx he => by
    obtain ⟨b, h1, h2⟩ := h.recs i x e hx he
    exact ⟨b, h1.chg hc (by obtain ⟨_, _, cur, _, hh, _⟩ := h1; exact hf b cur hh), h2⟩, h.cap⟩
theorem Blk.ne_of_type {w : World} {a b : Nat} {e e' : TypeId} {cs cs' : List Value} (h : Blk w a e cs) (h' : Blk w b e' cs') (hne : e ≠ e') : a ≠ b := by
  rintro rfl
  rw [Blk, h'] at h
  simp only [Option.some.injEq, Obj.cells.injEq] at h
  exact hne h.2.1.symm
theorem Blk.not_bytes {w : World} {a b : Nat} {e : TypeId} {cs : List Value} {cur : Array Value} (h : Blk w a e cs) (h' : w.heap[b]? = some (.cells cur 5 (0, 0))) (hne : e ≠ 5) : ¬ b = a := by
  rintro rfl
  rw [Blk, h'] at h
  simp only [Option.some.injEq, Obj.cells.injEq] at h
  exact hne h.2.1.symm
/-- A slice of entries; the blocks are from base on. -/
def EntsS (w : World) (base : Nat) (sv : Value) (E : List Ent) : Prop := ∃ X, w.ownsRow base 73 3 sv E.length (eCells X) ∧ EntsV w base X E
theorem EntsS.nil (w : World) (base : Nat) : EntsS w base (.slice none 0 0) [] := ⟨[], World.ownsRow_nil _ _ _ _, rfl, fun i x e hx => by simp at hx, fun x hx => by cases hx⟩
theorem EntsS.chg {w w1 : World} {base : Nat} {sv : Value} {E : List Ent} {F : Nat → Prop} (h : EntsS w base sv E) (hc : Chg F w w1) (hf : ∀ k, F k → k < base) : EntsS w1 base sv E := by
  obtain ⟨X, ho, hv⟩ := h
  refine ⟨X, hc.owns ho (fun k hk hF => ?_), hv.chg hc (fun i x b _ _ hb hF => by have := hf b hF; omega)⟩
  have := (ho.lt k hk).1
  have := hf k hF
  omega
theorem EntsS.fresh {w w1 : World} {base : Nat} {sv : Value} {E : List Ent} (h : EntsS w base sv E) (hc : Fresh w w1) : EntsS w1 base sv E := h.chg hc (fun _ f => f.elim)
theorem EntsS.slice {w : World} {base : Nat} {sv : Value} {E : List Ent} (h : EntsS w base sv E) : ∃ a cap, sv = .slice a E.length cap := by
  obtain ⟨X, ho, hv⟩ := h
  rcases ho.2 with ⟨rfl, h0⟩ | ⟨g, cap, cur, rfl, _⟩
  · exact ⟨none, 0, by rw [h0]⟩
  · exact ⟨_, _, rfl⟩
theorem EntsS.base_le {w : World} {base b : Nat} {sv : Value} {E : List Ent} (h : EntsS w base sv E) (hb : b ≤ base) : EntsS w b sv E := by
  obtain ⟨X, ho, hv⟩ := h
  exact ⟨X, owns_base ho hb, hv.keys, fun i x e hx he => by
    obtain ⟨c, h1, h2⟩ := hv.recs i x e hx he
    exact ⟨c, h1, by omega⟩, hv.cap⟩
/-- A slice of entries does not lie in a block of another type. -/
theorem EntsS.other {w : World} {base : Nat} {sv : Value} {E : List Ent} (h : EntsS w base sv E) {b : Nat} {e : TypeId} {cs : List Value} (hb : Blk w b e cs) (hne : 73 ≠ e) : ¬ sv.ownBlock = some b := by
  obtain ⟨X, ho, _⟩ := h
  exact owns_other ho hb hne
/-- A change of other blocks. -/
theorem EntsS.chg' {w w1 : World} {base : Nat} {sv : Value} {E : List Ent} {F : Nat → Prop} (h : EntsS w base sv E) (hc : Chg F w w1) (hf : ∀ k, F k → ∃ e cs, Blk w k e cs ∧ 73 ≠ e ∧ 5 ≠ e) : EntsS w1 base sv E := by
  obtain ⟨X, ho, hv⟩ := h
  refine ⟨X, hc.owns ho (fun k hk hF => ?_), ⟨hv.keys, fun i x e hx he => ?_, hv.cap⟩⟩
  · obtain ⟨e, cs, hb, h1, _⟩ := hf k hF
    exact owns_other ho hb h1 hk
  · obtain ⟨b, h1, h2⟩ := hv.recs i x e hx he
    refine ⟨b, h1.chg hc (fun hF => ?_), h2⟩
    obtain ⟨e, cs, hb, _, h3⟩ := hf b hF
    obtain ⟨_, _, cur, _, hh, _⟩ := h1
    rw [Blk, hh] at hb
    simp only [Option.some.injEq, Obj.cells.injEq] at hb
    exact h3 hb.2.1
/-- An entry of a slice. -/
theorem EntsS.at_ {w : World} {base : Nat} {sv : Value} {E : List Ent} {i : Nat} {e : Ent} (h : EntsS w base sv E) (hi : E[i]? = some e) :
    ∃ g cap cs vx bx, sv = .slice (some ⟨g, 0, none⟩) E.length cap ∧ base ≤ g ∧ Blk w g 73 cs ∧ (cs.drop (i * 3)).take 3 = [.int .i64 (e.1.1 : Nat), .int .i64 (e.1.2 : Nat), vx] ∧ i * 3 + 3 ≤ cs.length ∧ SlB w vx bx e.2 ∧ base ≤ bx ∧ (∀ a n c, vx = .slice a n c → n ≤ c) := by
  obtain ⟨X, ho, hv⟩ := h
  have hlt : i < E.length := (List.getElem?_eq_some_iff.1 hi).1
  have hx : X[i]? = some (X[i]'(by rw [hv.len]; exact hlt)) := List.getElem?_eq_getElem _
  obtain ⟨bx, h1, h2⟩ := hv.recs i _ e hx hi
  have hk : (X[i]'(by rw [hv.len]; exact hlt)).1 = e.1 := by
    have h3 : (X.map (·.1))[i]? = (E.map (·.1))[i]? := by rw [hv.keys]
    rw [List.getElem?_map, List.getElem?_map, hx, hi] at h3
    simpa using h3
  have hc := eCells_at hx
  rw [hk] at hc
  rcases ho.2 with ⟨_, h0⟩ | ⟨g, cap, cur, rfl, hb, hg, hnc, hcm, hcs, ht⟩
  · omega
  · refine ⟨g, cap, cur.toList, _, bx, rfl, hb, hg, ?_, ?_, h1, h2, hv.cap _ (List.mem_of_getElem? hx)⟩
    · rw [← hc, ← ht, List.drop_take, List.take_take, Nat.min_eq_left (by omega)]
    · rw [Array.length_toList, hcs]; omega
/-- An entry's cells. -/
theorem EntsS.cells {w : World} {base : Nat} {sv : Value} {E : List Ent} {i : Nat} {e : Ent} (h : EntsS w base sv E) (hi : E[i]? = some e) :
    ∃ g cap vx bx, sv = .slice (some ⟨g, 0, none⟩) E.length cap ∧ base ≤ g ∧ w.cell? ⟨g, i * 3, none⟩ = some (.int .i64 (e.1.1 : Nat)) ∧ w.cell? ⟨g, i * 3 + 1, none⟩ = some (.int .i64 (e.1.2 : Nat)) ∧ w.cell? ⟨g, i * 3 + 2, none⟩ = some vx ∧ SlB w vx bx e.2 ∧ base ≤ bx := by
  obtain ⟨g, cap, cs, vx, bx, h1, h2, h3, h4, h5, h6, h7, _⟩ := h.at_ hi
  have hget : ∀ j, j < 3 → cs[i * 3 + j]? = [Value.int .i64 (e.1.1 : Nat), .int .i64 (e.1.2 : Nat), vx][j]? := by
    intro j hj
    rw [← h4, List.getElem?_take, if_pos hj, List.getElem?_drop]
  refine ⟨g, cap, vx, bx, h1, h2, ?_, ?_, ?_, h6, h7⟩
  · rw [h3.cell]; exact hget 0 (by omega)
  · rw [h3.cell]; exact hget 1 (by omega)
  · rw [h3.cell]; exact hget 2 (by omega)
/-- One entry more. -/
theorem EntsS.snoc {w' : World} {base : Nat} {sv' : Value} {E : List Ent} {X : List ((Nat × Nat) × Value)} {m s b : Nat} {x : List UInt8} {v : Value} (hv : EntsV w' base X E) (ho : w'.ownsRow base 73 3 sv' (E.length + 1) (eCells X ++ [.int .i64 (m : Nat), .int .i64 (s : Nat), v])) (hx : SlB w' v b x) (hb : base ≤ b) (hcp : ∀ a n c, v = .slice a n c → n ≤ c) :
    EntsS w' base sv' (E ++ [((m, s), x)]) := by
  refine ⟨X ++ [((m, s), v)], by rw [eCells_snoc]; simpa using ho, by simp [hv.keys], fun i y e hy he => ?_, fun y hy => by
    rcases List.mem_append.1 hy with h | h
    · exact hv.cap y h
    · simp only [List.mem_singleton] at h; subst h; exact hcp⟩
  have hl := hv.len
  by_cases hi : i < X.length
  · rw [List.getElem?_append_left hi] at hy; rw [List.getElem?_append_left (by omega)] at he
    exact hv.recs i y e hy he
  · rw [List.getElem?_append_right (by omega)] at hy; rw [List.getElem?_append_right (by omega)] at he
    have h0 : i - X.length = 0 := by
      rcases Nat.eq_zero_or_pos (i - X.length) with h0 | h0
      · exact h0
      · rw [List.getElem?_eq_none (by simp; omega)] at hy; cases hy
    rw [h0] at hy
    rw [show i - E.length = 0 by omega] at he
    simp at hy he
    subst hy; subst he
    exact ⟨b, hx, hb⟩
/-- What a slot adds to the entries. -/
def entOf (m s : Nat) : Option (List UInt8) → List Ent
  | none => []
  | some x => [((m, s), x)]
theorem entsFrom_cons (m i : Nat) (r : Option (List UInt8)) (rs : Rs) : entsFrom m i (r :: rs) = entOf m i r ++ entsFrom m (i + 1) rs := by cases r <;> rfl
theorem entsFrom_take (m i : Nat) (rs : Rs) (k : Nat) (r : Option (List UInt8)) (h : rs[k]? = some r) : entsFrom m i (rs.take (k + 1)) = entsFrom m i (rs.take k) ++ entOf m (i + k) r := by
  induction rs generalizing i k with
  | nil => simp at h
  | cons y rs ih =>
    cases k with
    | zero =>
      simp only [List.getElem?_cons_zero, Option.some.injEq] at h
      subst h
      cases y <;> rfl
    | succ k =>
      simp only [List.getElem?_cons_succ] at h
      have h1 := ih (i + 1) k h
      rw [show i + 1 + k = i + (k + 1) by omega] at h1
      rw [List.take_succ_cons, List.take_succ_cons, entsFrom_cons, entsFrom_cons, h1, List.append_assoc]
theorem entsL_take {L : List (Nat × Rs)} {i m : Nat} {rs : Rs} (h : L[i]? = some (m, rs)) : entsL (L.take (i + 1)) = entsL (L.take i) ++ ents m rs := by
  have hlt : i < L.length := (List.getElem?_eq_some_iff.1 h).1
  rw [List.take_succ_eq_append_getElem hlt, entsL_append, (List.getElem?_eq_some_iff.1 h).2]
  simp [entsL]
end Go.Proofs.YtnmjkgnahhbnoaaGreat
