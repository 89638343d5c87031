/- Part 5 of the walks that the laws of package hash share (Page7, PageLaw). -/
import Derived.Test.YtnmjkgnahhbnoaaGreatM04
import Derived.Test.YtnmjkgnahhbnoaaGreatM03
set_option linter.unusedVariables false
set_option linter.unusedSimpArgs false
/- Walks of package page: Set, Drop. -/
namespace Go.Proofs.YtnmjkgnahhbnoaaGreat
open Go.RowKit

theorem loadPage (W : World) (b : Nat) (p : List UInt8) (hp : p.length = 512) (hb : Blk W b 111 (bvals p)) : (Instr.loadAt 111 (.pointer (some ⟨b, 0, none⟩))).run Tryz.prog W = .ok (aggB p) W :=
  run_loadAt_mid W b 0 111 (bvals p) _ (hb.range 0 512 (take_all _ _ (by simp [hp]))) Tryz.underlying111 rfl (infoPage' hp)

theorem Chg.setCells (b : Nat) : ∀ (vs : List Value) (o : Nat) (w : World), Chg (· = b) w (w.setCells b o vs)
  | [], _, w => Chg.refl _ w
  | v :: vs, o, w => (Chg.store1 w b o v).trans (Chg.setCells b vs (o + 1) _) (fun _ _ h => h)
theorem Blk.setCells {b : Nat} {e : TypeId} : ∀ (vs : List Value) (o : Nat) (w : World) (cs : List Value), Blk w b e cs → o + vs.length ≤ cs.length → Blk (w.setCells b o vs) b e (over cs o vs)
  | [], o, w, cs, h, _ => by simpa [over, World.setCells] using h
  | v :: vs, o, w, cs, h, hl => by
    simp only [List.length_cons] at hl
    have := Blk.setCells vs (o + 1) (w.setCell ⟨b, o, none⟩ v) (cs.set o v) (h.set o v) (by simp; omega)
    have he : over (cs.set o v) (o + 1) vs = over cs o (v :: vs) := by
      apply List.ext_getElem?
      intro j
      by_cases h1 : o ≤ j ∧ j < o + (vs.length + 1)
      · rw [over_get_in cs o (v :: vs) j (by omega) h1.1 (by simp; omega)]
        by_cases h2 : j = o
        · subst h2
          rw [over_get_out _ _ _ _ (by simp; omega) (.inl (by omega))]; simp [show j < cs.length by omega]
        · rw [over_get_in _ _ _ _ (by simp; omega) (by omega) (by omega)]
          obtain ⟨k, rfl⟩ : ∃ k, j = o + 1 + k := ⟨j - (o + 1), by omega⟩
          rw [show o + 1 + k - o = k + 1 by omega]; simp
      · rw [over_get_out cs o (v :: vs) j (by simp; omega) (by simp; omega), over_get_out _ _ _ _ (by simp; omega) (by omega)]
        rw [List.getElem?_set_ne (by omega)]
    rwa [he] at this
theorem Blk.there {w : World} {b : Nat} {e : TypeId} {cs : List Value} (h : Blk w b e cs) (n : Nat) (hn : n ≤ cs.length) : w.there b 0 n := by
  intro j hj
  refine ⟨?_, h.frozen _⟩
  rw [h.cell, List.getElem?_eq_getElem (by omega)]; rfl

/-- A record set in another's place. -/
def setpF (p : List UInt8) (slot : Nat) (r : List UInt8) : Option (List UInt8) := if (getF p slot).isSome then putF (p.getD 4 0) (slotsF p) slot r else none
def SetPost (p : List UInt8) (slot : Nat) (r : List UInt8) (w : World) (e : Ending) (w' : World) : Prop :=
  Fresh w w' ∧ e = .returned (.tuple #[aggB ((setpF p slot r).getD zpage), .bool (setpF p slot r).isSome])

set_option maxRecDepth 100000 in
set_option maxHeartbeats 1000000 in
theorem set_any (p : List UInt8) (slot : Nat) (v : Value) (r : List UInt8) (w : World) (hp : p.length = 512) (hs : slot ≤ 1000000000) (hv : BytesS w v r) (hrl : r.length ≤ 1000000) :
    Calls Tryz.prog 78 #[aggB p, .int .i64 slot, v] w (SetPost p slot r w) := by
  have HV := Lib.hid hv
  obtain ⟨av, cv, rfl⟩ := hv.toV.slice
  clear hv
  go_enter Tryz.func78, Tryz.ntmps78
  have hb1 := (Blk.new w 111 (bvals p)).alloc (.cells Tryz.zeroCells111 111)
  have hz : Blk ((w.alloc (.cells (bvals p).toArray 111)).alloc (.cells Tryz.zeroCells111 111)) (w.heap.size + 1) 111 (bvals zpage) := zeroPage ▸ Blk.newA _ _ _ (by simp)
  have HB := Lib.hid hb1
  have HZ := Lib.hid hz
  have HF : Hid (Fresh w ((w.alloc (.cells (bvals p).toArray 111)).alloc (.cells Tryz.zeroCells111 111))) := ((Chg.refl _ _).alloc _).alloc _
  clear hb1 hz
  go_wp2_with (refine wpList_loadA rfl 111 _ rfl w.heap.size 0 rfl 111 _ HB.out 512 (bvals p) (take_all _ _ (by simp [hp])) _ Tryz.underlying111 rfl infoPage (by simp [hp]) ?_)
  generalize (w.alloc (.cells (bvals p).toArray 111)).alloc (.cells Tryz.zeroCells111 111) = w0 at *
  refine (get_any p slot _ hp hs).mono ?_
  rintro e1 w1 ⟨v1, rfl, h1, h2⟩
  obtain ⟨a1, c1, rfl, _, _⟩ := h1.slice
  have HF1 := Lib.hid (HF.out.trans h2 (fun _ _ f => f))
  have HB1 := Lib.hid (HB.out.chg h2 id)
  have HZ1 := Lib.hid (HZ.out.chg h2 id)
  clear h1 h2 HB HZ HF
  have HGE := Lib.hid (getF_ge p slot)
  have HSP : Hid (setpF p slot r = if (getF p slot).isSome then putF (p.getD 4 0) (slotsF p) slot r else none) := rfl
  generalize getF p slot = gr at *
  cases gr with
  | none =>
    simp only [Option.isSome, lenR]
    go_wp2_with (refine wpList_storeA rfl 111 _ _ rfl (w.heap.size + 1) 0 rfl (bvals zpage) (congrArg Value.agg zeroPageA) _ _ HZ1.out (infoPage' zpage_length) (by simp) bvals_one ?_; intro w9 HB9 HC9)
    refine bodyPost_ret (results_cell_t Tryz.results78 _ _ (w.heap.size + 1) 111 (bvals zpage) _ rfl ?_ Tryz.underlying111 rfl (infoPage' zpage_length)) rfl ?_
    · have := HB9.out
      rwa [over_all _ _ (by simp)] at this
    · exact ⟨HF1.out.trans HC9.out (fun b hb e => by omega), by rw [HSP.out]; rfl⟩
  | some gl =>
    simp only [Option.isSome, lenR]
    have hlt : slot < nslots p := by
      rcases Nat.lt_or_ge slot (nslots p) with h | h
      · exact h
      · exact absurd (HGE.out (by omega)) (by simp)
    have hse := slotsF_end p hp
    have hn : nslots p ≤ 124 := Nat.min_le_right _ _
    have hu := Tryz.underlying111
    have hi : (Tryz.prog.info? 111).map (·.size) = some (bvals p).length := infoPage' hp
    have hn1 : (bvals p).length = 512 := bytes_page hp
    clear HGE
    go_wp2_with fail
    have hS0 : Blk w1.drew w.heap.size 111 (bvals p) := HB1.out
    have HZ1d : Hid (Blk w1.drew (w.heap.size + 1) 111 (bvals zpage)) := HZ1.out
    have HF1d : Hid (Fresh w w1.drew) := HF1.out.drew
    refine wp_region_held_drew (S := fun W => Blk W w.heap.size 111 (bvals p)) (by kernel_rfl) hS0 (fun hHeld => ?_)
    generalize w1.drew = w2 at *
    refine wpAnyH_take (i := 0) (v := aggB p) rfl (by kernel_rfl) (by kernel_rfl) (by kernel_rfl) (fun _ _ _ h => h) (yieldsIf_load_mid (by rfl) _ _ rfl _ _ rfl _ _ (fun W h => h.range 0 512 (take_all _ _ (by simp [hp]))) hu rfl hi) hHeld ?_
    refine wpAnyH_take (i := 1) (v := aggB p) rfl (by kernel_rfl) (by kernel_rfl) (by kernel_rfl) (fun _ _ _ h => h) (yieldsIf_load_mid (by rfl) _ _ rfl _ _ rfl _ _ (fun W h => h.range 0 512 (take_all _ _ (by simp [hp]))) hu rfl hi) hHeld ?_
    refine wpAnyH_take (i := 3) (v := .int .i64 slot) rfl (by kernel_rfl) (by kernel_rfl) (by kernel_rfl) (fun _ _ _ h => h) (Or.inl ⟨by rfl, fun w _ => by rfl⟩) hHeld ?_
    refine wpAnyH_take (i := 4) (v := .slice av r.length cv) rfl (by kernel_rfl) (by kernel_rfl) (by kernel_rfl) (fun _ _ _ h => h) (Or.inl ⟨by rfl, fun w _ => by rfl⟩) hHeld ?_
    refine wpAnyH_ready (rs := [2]) (by kernel_rfl) (by simp) ?_
    refine AllReadyH.cons (o := _) rfl (fun K hK => ?_) AllReadyH.nil
    go_simp
    refine (slots_rows p _ hp).mono ?_
    rintro e2 w3 ⟨a, cap, rfl, h1, h2⟩
    have HB3 := hHeld.chg h2 id
    have HZ3 := Lib.hid (HZ1d.out.chg h2 id)
    have HF3 := Lib.hid (HF1d.out.trans h2 (fun _ _ f => f))
    have HR := Lib.hid h1
    have HOWN : Hid (∀ b, OwnA a b → w.heap.size ≤ b) := by
      obtain ⟨_, vs, ho, _⟩ := h1
      intro b hb
      have := (ho.lt b (by rw [ownBlock_slice]; exact hb)).1
      have := HF1d.out.size; omega
    have HOT : Hid (∀ (b : Nat) (e : TypeId) (cs : List Value), Blk w3 b e cs → 23 ≠ e → ¬ OwnA a b) := by
      obtain ⟨_, vs, ho, _⟩ := h1
      intro b e cs hb hne
      have := owns_other ho hb hne; rwa [ownBlock_slice] at this
    clear h1 h2
    refine hK.out _ _ HB3 (fun hHeld2 => ?_)
    clear hK K hHeld
    refine wpAnyH_ready (rs := [5]) (by kernel_rfl) (by simp) ?_
    refine AllReadyH.cons (o := _) rfl (fun K hK => ?_) AllReadyH.nil
    go_simp
    refine (put_any p _ _ _ _ _ _ _ r _ hp HR.out (by omega) hse (by omega) (HV.out.fresh HF3.out) hrl).mono ?_
    rintro e3 w4 ⟨rfl, h3⟩
    have HB4 := HB3.chg h3 (HOT.out _ _ _ HB3 (by decide))
    have HZ4 := Lib.hid (HZ3.out.chg h3 (HOT.out _ _ _ HZ3.out (by decide)))
    have HF4 : Hid (Fresh w w4) := HF3.out.trans h3 (fun b hb h => by have := HOWN.out b h; omega)
    clear h3
    have HSP2 : Hid (setpF p slot r = putF (p.getD 4 0) (slotsF p) slot r) := HSP.out
    have hql : ((putF (p.getD 4 0) (slotsF p) slot r).getD zpage).length = 512 := getD_length _ fun q hq => putF_length _ _ _ _ _ hq
    have HQL := Lib.hid hql
    clear hql HSP
    generalize putF (p.getD 4 0) (slotsF p) slot r = q at *
    refine hK.out _ _ HB4 (fun hHeld3 => ?_)
    clear hK K hHeld2
    refine wpAnyH_take (i := 6) (v := aggB (q.getD zpage)) rfl (by kernel_rfl) (by kernel_rfl) (by kernel_rfl) (fun _ _ _ h => h) (Or.inl ⟨by rfl, fun w _ => by rfl⟩) hHeld3 ?_
    refine wpAnyH_take (i := 7) (v := .bool q.isSome) rfl (by kernel_rfl) (by kernel_rfl) (by kernel_rfl) (fun _ _ _ h => h) (Or.inl ⟨by rfl, fun w _ => by rfl⟩) hHeld3 ?_
    refine wpAnyH_ready (rs := [8]) (by kernel_rfl) (by simp) ?_
    refine AllReadyH.cons (o := _) rfl (fun K hK => ?_) AllReadyH.nil
    rw [if_pos (by rfl)]
    refine wp_storeA 111 _ _ rfl (w.heap.size + 1) 0 rfl (bvals (q.getD zpage)) rfl _ _ HZ4.out (infoPage' HQL.out) (by simp [HQL.out]) bvals_one ?_
    intro w9 HB9 HC9
    refine hK.out _ _ (HB4.chg HC9.out (by omega)) (fun hHeld4 => ?_)
    clear hK K
    refine wpAnyH_take (i := 9) (v := .bool q.isSome) rfl (by kernel_rfl) (by kernel_rfl) (by kernel_rfl) (fun _ _ _ h => h) (Or.inl ⟨by rfl, fun w _ => by rfl⟩) hHeld4 ?_
    refine wpAnyH_done (by kernel_rfl) ?_ _
    go_wp2
    refine bodyPost_ret (results_cell_t Tryz.results78 _ _ (w.heap.size + 1) 111 (bvals (q.getD zpage)) _ rfl ?_ Tryz.underlying111 rfl (infoPage' HQL.out)) rfl ?_
    · have := HB9.out
      rwa [over_all _ _ (by simp [HQL.out])] at this
    · exact ⟨HF4.out.trans HC9.out (fun b hb e => by omega), by rw [HSP2.out]; rfl⟩

/-- A slot emptied. -/
def dropF (p : List UInt8) (slot : Nat) : Option (List UInt8) :=
  if (getF p slot).isSome then (if 496 < costF ((slotsF p).set slot none) then none else some (madeF (p.getD 4 0) ((slotsF p).set slot none))) else none
def DropPost (p : List UInt8) (slot : Nat) (w : World) (e : Ending) (w' : World) : Prop :=
  Fresh w w' ∧ e = .returned (.tuple #[aggB ((dropF p slot).getD zpage), .bool (dropF p slot).isSome])

theorem endF_setNone (rs : List (Option (List UInt8))) (k : Nat) : endF (rs.set k none) ≤ endF rs := by
  induction rs generalizing k with
  | nil => simp [endF]
  | cons x rs ih =>
    cases k with
    | zero => cases x <;> simp [endF]
    | succ k => have := ih k; cases x <;> simp [endF] <;> omega

set_option maxRecDepth 100000 in
set_option maxHeartbeats 1000000 in
theorem drop_any (p : List UInt8) (slot : Nat) (w : World) (hp : p.length = 512) (hs : slot ≤ 1000000000) :
    Calls Tryz.prog 81 #[aggB p, .int .i64 slot] w (DropPost p slot w) := by
  have HGL := Lib.hid (getF_lt p slot)
  have HGE := Lib.hid (getF_ge p slot)
  have HSP : Hid (dropF p slot = if (getF p slot).isSome then (if 496 < costF ((slotsF p).set slot none) then none else some (madeF (p.getD 4 0) ((slotsF p).set slot none))) else none) := rfl
  have hse := slotsF_end p hp
  have hn : nslots p ≤ 124 := Nat.min_le_right _ _
  go_enter Tryz.func81, Tryz.ntmps81
  have hb1 := (Blk.new w 111 (bvals p)).alloc (.cells Tryz.zeroCells111 111)
  have hz : Blk ((w.alloc (.cells (bvals p).toArray 111)).alloc (.cells Tryz.zeroCells111 111)) (w.heap.size + 1) 111 (bvals zpage) := zeroPage ▸ Blk.newA _ _ _ (by simp)
  have HB := Lib.hid hb1
  have HZ := Lib.hid hz
  have HF : Hid (Fresh w ((w.alloc (.cells (bvals p).toArray 111)).alloc (.cells Tryz.zeroCells111 111))) := ((Chg.refl _ _).alloc _).alloc _
  clear hb1 hz
  go_wp2_with (refine wpList_loadA rfl 111 _ rfl w.heap.size 0 rfl 111 _ HB.out 512 (bvals p) (take_all _ _ (by simp [hp])) _ Tryz.underlying111 rfl infoPage (by simp [hp]) ?_)
  generalize (w.alloc (.cells (bvals p).toArray 111)).alloc (.cells Tryz.zeroCells111 111) = w0 at *
  refine (slots_rows p _ hp).mono ?_
  rintro e1 w1 ⟨a, cap, rfl, h1, h2⟩
  have H1 := Lib.hid h1
  have HF1 := Lib.hid (HF.out.trans h2 (fun _ _ f => f))
  have HB1 := Lib.hid (HB.out.chg h2 id)
  have HZ1 := Lib.hid (HZ.out.chg h2 id)
  have hbase : w.heap.size ≤ w0.heap.size := HF.out.size
  clear h1 h2 HB HZ HF
  have fin : ∀ {w9 : World} {act : Act}, dropF p slot = none → Blk w9 (w.heap.size + 1) 111 (bvals zpage) → Fresh w w9 → act.tmps.getD 4 undef = .pointer (some ⟨w.heap.size + 1, 0, none⟩) → act.tmps.getD 5 undef = .bool false → act.defers = [] →
      bodyPost Tryz.prog Tryz.f81 (DropPost p slot w) .ret act w9 := by
    intro w9 act h1 h2 h3 h4 h5 h6
    refine bodyPost_ret (results_cell_t Tryz.results81 _ _ (w.heap.size + 1) 111 (bvals zpage) _ h4 h2 Tryz.underlying111 rfl (infoPage' zpage_length)) h6 ⟨h3, ?_⟩
    rw [h1, h5]; rfl
  have FIN := @Lib.hid _ @fin
  clear fin
  by_cases hlt : slot < nslots p
  · have hr0 := HGL.out hlt
    generalize getF p slot = gr at *
    obtain ⟨g, v, rfl, hc, hfz, hr, hbg, _⟩ := H1.out.at_ hr0
    clear hr0 HGL HGE
    cases gr with
    | none =>
      obtain rfl : v = .slice none 0 0 := hr
      go_wp2_with (refine wpList_storeA rfl 111 _ _ rfl (w.heap.size + 1) 0 rfl (bvals zpage) (congrArg Value.agg zeroPageA) _ _ HZ1.out (infoPage' zpage_length) (by simp) bvals_one ?_; intro w9 HB9 HC9)
      refine FIN.out (by rw [HSP.out]; rfl) ?_ (HF1.out.trans HC9.out (fun b hb e => by omega)) rfl rfl rfl
      have := HB9.out
      rwa [over_all _ _ (by simp)] at this
    | some l =>
      obtain ⟨b, o, cp, cur, rfl, _, _⟩ := hr
      obtain ⟨hr4, hc4⟩ := RowsV.store (slot := slot) (v := .slice none 0 0) (r := none) H1.out rfl
      have HR4 := Lib.hid hr4
      have HZ4 := Lib.hid (HZ1.out.chg hc4 (H1.out.other HZ1.out (by decide)))
      have HB4 := HB1.out.chg hc4 (H1.out.other HB1.out (by decide))
      have HF4 : Hid (Fresh w (w1.setCell ⟨g, slot, none⟩ (.slice none 0 0))) := HF1.out.trans hc4 (fun b hb e => by omega)
      have HCELL := HB4.cell 4
      rw [bvals_get, List.getElem?_eq_getElem (by omega)] at HCELL
      have HPD : Hid ((p.getD 4 0) = p[4]'(by omega)) := by show _ = _; rw [List.getD_eq_getElem?_getD, List.getElem?_eq_getElem (by omega)]; rfl
      generalize p[4]'(by omega) = kind at *
      have hE1 := endF_setNone (slotsF p) slot
      have HSP2 : Hid (dropF p slot = if 496 < costF ((slotsF p).set slot none) then none else some (madeF (p.getD 4 0) ((slotsF p).set slot none))) := HSP.out
      clear hr4 hc4 HB4 HSP
      generalize (slotsF p).set slot none = rs4 at *
      by_cases h496 : 496 < costF rs4
      · have hx : decide ((496 : Int) < (costF rs4 : Int)) = true := by simp; omega
        go_wp2_with (first
          | (go_at_call 113; go_must (refine (cost_any _ _ _ _ _ _ HR4.out (by omega) (by omega)).mono ?_); rintro e6 w6 ⟨rfl, rfl⟩)
          | (refine wpList_storeA rfl 111 _ _ rfl (w.heap.size + 1) 0 rfl (bvals zpage) (congrArg Value.agg zeroPageA) _ _ HZ4.out (infoPage' zpage_length) (by simp) bvals_one ?_; intro w9 HB9 HC9))
        refine FIN.out (by rw [HSP2.out, if_pos h496]) ?_ (HF4.out.trans HC9.out (fun b hb e => by omega)) rfl rfl rfl
        have := HB9.out
        rwa [over_all _ _ (by simp)] at this
      · have hx : decide ((496 : Int) < (costF rs4 : Int)) = false := by simp; omega
        have HLM : Hid ((madeF kind rs4).length = 512) := madeF_length _ _ (by unfold costF at h496; omega)
        go_wp2_with (first
          | (go_at_call 113; go_must (refine (cost_any _ _ _ _ _ _ HR4.out (by omega) (by omega)).mono ?_); rintro e6 w6 ⟨rfl, rfl⟩)
          | (go_at_call 87; go_must (refine (made_any _ _ _ _ _ _ _ HR4.out (by unfold costF at h496; omega)).mono ?_); rintro e8 w8 ⟨rfl, hw8⟩; have HW8 := Lib.hid hw8; clear hw8)
          | (refine wpList_storeA rfl 111 _ _ rfl (w.heap.size + 1) 0 rfl (bvals (madeF kind rs4)) rfl _ _ (HZ4.out.chg HW8.out id) (by rw [bvals_length, HLM.out]; exact infoPage) (by simp [HLM.out]) bvals_one ?_; intro w9 HB9 HC9))
        refine bodyPost_ret (results_cell_t Tryz.results81 _ _ (w.heap.size + 1) 111 (bvals (madeF kind rs4)) _ rfl ?_ Tryz.underlying111 rfl (infoPage' HLM.out)) rfl ⟨?_, ?_⟩
        · have := HB9.out
          rwa [over_all _ _ (by simp [HLM.out])] at this
        · exact (HF4.out.trans HW8.out (fun _ _ f => f)).trans HC9.out (fun b hb e => by omega)
        · rw [HSP2.out, if_neg h496, HPD.out]; rfl
  · have hr0 := HGE.out hlt
    generalize getF p slot = gr at *
    subst hr0
    clear HGL HGE
    go_wp2_with (refine wpList_storeA rfl 111 _ _ rfl (w.heap.size + 1) 0 rfl (bvals zpage) (congrArg Value.agg zeroPageA) _ _ HZ1.out (infoPage' zpage_length) (by simp) bvals_one ?_; intro w9 HB9 HC9)
    refine FIN.out (by rw [HSP.out]; rfl) ?_ (HF1.out.trans HC9.out (fun b hb e => by omega)) rfl rfl rfl
    have := HB9.out
    rwa [over_all _ _ (by simp)] at this
end Go.Proofs.YtnmjkgnahhbnoaaGreat

/- The plain law of pages: what is laid into a page is read out of it. -/
namespace Go.Proofs.YtnmjkgnahhbnoaaGreat

theorem lowB_toNat (x : Int) : (lowB x).toNat = (x % 256).toNat := by
  have h1 := Int.emod_nonneg x (show (256 : Int) ≠ 0 by omega)
  have h2 := Int.emod_lt_of_pos x (show (0 : Int) < 256 by omega)
  simp only [lowB, UInt8.toNat_ofNat']
  omega
theorem byteAt_set_eq (p : List UInt8) (i : Nat) (c : UInt8) (h : i < p.length) : byteAt (p.set i c) i = c.toNat := by
  simp [byteAt, List.getD_eq_getElem?_getD, h]
theorem byteAt_set_ne (p : List UInt8) (i j : Nat) (c : UInt8) (h : i ≠ j) : byteAt (p.set i c) j = byteAt p j := by
  simp [byteAt, List.getD_eq_getElem?_getD, h]
theorem byteAt_over_out (p : List UInt8) (o : Nat) (l : List UInt8) (j : Nat) (hf : o + l.length ≤ p.length) (h : j < o ∨ o + l.length ≤ j) : byteAt (over p o l) j = byteAt p j := by
  simp only [byteAt, List.getD_eq_getElem?_getD]
  rw [over_get_out _ _ _ _ hf h]
theorem byteAt_sealTo (p : List UInt8) (c : Int) (k j : Nat) (h : k ≤ j) : byteAt (sealTo p c k) j = byteAt p j := by
  induction k with
  | zero => rfl
  | succ k ih => rw [sealTo, byteAt_set_ne _ _ _ _ (by omega), ih (by omega)]
theorem drop_sealTo (p : List UInt8) (c : Int) (k j : Nat) (h : k ≤ j) : (sealTo p c k).drop j = p.drop j := by
  induction k with
  | zero => rfl
  | succ k ih => rw [sealTo, List.drop_set_of_lt (by omega), ih (by omega)]
theorem wordAt_sealF (p : List UInt8) (j : Nat) (h : 4 ≤ j) : wordAt (sealF p) j = wordAt p j := by
  simp only [wordAt, sealF]; rw [byteAt_sealTo _ _ _ _ h, byteAt_sealTo _ _ _ _ (by omega)]
theorem slotAt_seal (p : List UInt8) (i : Nat) : slotAt (sealF p) i = slotAt p i := by
  unfold slotAt
  rw [wordAt_sealF _ _ (by omega), wordAt_sealF _ _ (by omega)]
  dsimp only
  split
  · rfl
  · rename_i h
    rw [sealF, drop_sealTo _ _ _ _ (by omega)]

theorem set4_byte (p : List UInt8) (a e n j : Nat) (h : j < a ∨ a + 4 ≤ j) : byteAt (set4 p a e n) j = byteAt p j := by
  unfold set4
  rw [byteAt_set_ne _ _ _ _ (by omega), byteAt_set_ne _ _ _ _ (by omega), byteAt_set_ne _ _ _ _ (by omega), byteAt_set_ne _ _ _ _ (by omega)]
theorem set4_word0 (p : List UInt8) (a e n : Nat) (h : a + 4 ≤ p.length) (he : e < 65536) : wordAt (set4 p a e n) a = e := by
  unfold wordAt set4
  rw [byteAt_set_ne _ _ _ _ (by omega), byteAt_set_ne _ _ _ _ (by omega), byteAt_set_ne _ _ _ _ (by omega), byteAt_set_eq _ _ _ (by omega),
    byteAt_set_ne _ _ _ _ (by omega), byteAt_set_ne _ _ _ _ (by omega), byteAt_set_eq _ _ _ (by simp; omega), lowB_toNat, lowB_toNat]
  omega
theorem set4_word2 (p : List UInt8) (a e n : Nat) (h : a + 4 ≤ p.length) (he : n < 65536) : wordAt (set4 p a e n) (a + 2) = n := by
  unfold wordAt set4
  rw [byteAt_set_ne _ _ _ _ (by omega), byteAt_set_eq _ _ _ (by simp; omega), byteAt_set_eq _ _ _ (by simp; omega), lowB_toNat, lowB_toNat]
  omega
theorem set4_drop (p : List UInt8) (a e n j : Nat) (h : a + 4 ≤ j) : (set4 p a e n).drop j = p.drop j := by
  unfold set4
  rw [List.drop_set_of_lt (by omega), List.drop_set_of_lt (by omega), List.drop_set_of_lt (by omega), List.drop_set_of_lt (by omega)]
theorem over_drop_take_in (p : List UInt8) (o : Nat) (l : List UInt8) (h : o ≤ p.length) : ((over p o l).drop o).take l.length = l := by
  have hl : (p.take o).length = o := by simp; omega
  rw [over, List.append_assoc, List.drop_append_of_le_length (by omega), List.drop_of_length_le (by omega), List.nil_append, List.take_left]
theorem over_drop_take_out (p : List UInt8) (o : Nat) (l : List UInt8) (f n : Nat) (hf : o + l.length ≤ p.length) (h : o + l.length ≤ f) : ((over p o l).drop f).take n = (p.drop f).take n := by
  have hl : (p.take o ++ l).length = o + l.length := by simp; omega
  rw [over, List.drop_append, hl, List.drop_of_length_le (by omega), List.nil_append, List.drop_drop]
  congr 2; omega

/-- A page while records are laid into it: i slots are done, the records begin at e, n slots in all. -/
structure Laid (kind : UInt8) (n : Nat) (p : List UInt8) (i e : Nat) (done : List (Option (List UInt8))) : Prop where
  len : p.length = 512
  kind : byteAt p 4 = kind.toNat
  cnt : byteAt p 5 = n
  num : done.length = i
  slots : ∀ j r, done[j]? = some r → slotAt p j = r
  froms : ∀ j, j < i → wordAt p (6 + 4 * j + 2) = 0 ∨ e ≤ wordAt p (6 + 4 * j)
  rest : ∀ j, i ≤ j → j < n → wordAt p (6 + 4 * j + 2) = 0
theorem slotAt_none {p : List UInt8} {j : Nat} (h : wordAt p (6 + 4 * j + 2) = 0) : slotAt p j = none := by
  unfold slotAt; dsimp only; rw [if_pos (.inl h)]
theorem Laid.head (kind : UInt8) (n : Nat) (hn : n < 256) : Laid kind n (headF kind n) 0 512 [] := by
  have hz : ∀ j, byteAt zpage j = 0 := by
    intro j
    simp only [byteAt, zpage, List.getD_eq_getElem?_getD, List.getElem?_replicate]
    split <;> rfl
  refine ⟨by simp, ?_, ?_, rfl, fun j r h => by simp at h, fun j h => by omega, fun j _ _ => ?_⟩
  · unfold headF; rw [byteAt_set_ne _ _ _ _ (by omega), byteAt_set_eq _ _ _ (by simp)]
  · unfold headF; rw [byteAt_set_eq _ _ _ (by simp), lowB_toNat]; omega
  · unfold wordAt headF
    rw [byteAt_set_ne _ _ _ _ (by omega), byteAt_set_ne _ _ _ _ (by omega), byteAt_set_ne _ _ _ _ (by omega), byteAt_set_ne _ _ _ _ (by omega), hz, hz]
theorem Laid.stepN {kind : UInt8} {n : Nat} {p : List UInt8} {i e : Nat} {done : List (Option (List UInt8))} (h : Laid kind n p i e done) (hi : i < n) : Laid kind n p (i + 1) e (done ++ [none]) := by
  refine ⟨h.len, h.kind, h.cnt, by simp [h.num], fun j r hj => ?_, fun j hj => ?_, fun j h1 h2 => h.rest j (by omega) h2⟩
  · by_cases hji : j < i
    · rw [List.getElem?_append_left (by rw [h.num]; exact hji)] at hj; exact h.slots j r hj
    · have hl : j < (done ++ [none]).length := (List.getElem?_eq_some_iff.1 hj).1
      simp [h.num] at hl
      obtain rfl : j = i := by omega
      rw [List.getElem?_append_right (by rw [h.num]; exact Nat.le_refl _), h.num] at hj
      simp at hj; subst hj
      exact slotAt_none (h.rest j (Nat.le_refl _) hi)
  · by_cases hji : j < i
    · exact h.froms j hji
    · obtain rfl : j = i := by omega
      exact .inl (h.rest j (Nat.le_refl _) hi)
theorem Laid.stepS {kind : UInt8} {n : Nat} {p : List UInt8} {i e : Nat} {done : List (Option (List UInt8))} (h : Laid kind n p i e done) (hi : i < n) (l : List UInt8)
    (he : e ≤ 512) (hl : 6 + 4 * n + l.length ≤ e) : Laid kind n (layF p i (e - l.length) l) (i + 1) (e - l.length) (done ++ [some l]) := by
  have hp := h.len
  have hov : (over p (e - l.length) l).length = 512 := by rw [over_length _ _ _ (by omega), hp]
  have hb : ∀ j, (j < 6 + 4 * i ∨ (6 + 4 * i + 4 ≤ j ∧ j < 6 + 4 * n)) → byteAt (layF p i (e - l.length) l) j = byteAt p j := by
    intro j hj
    unfold layF
    rw [set4_byte _ _ _ _ _ (by omega), byteAt_over_out _ _ _ _ (by omega) (by omega)]
  have hw : ∀ j, j ≠ i → j < n → wordAt (layF p i (e - l.length) l) (6 + 4 * j) = wordAt p (6 + 4 * j) ∧ wordAt (layF p i (e - l.length) l) (6 + 4 * j + 2) = wordAt p (6 + 4 * j + 2) := by
    intro j h1 h2
    unfold wordAt
    rw [hb _ (by omega), hb _ (by omega), hb _ (by omega), hb _ (by omega)]
    exact ⟨rfl, rfl⟩
  have hw0 : wordAt (layF p i (e - l.length) l) (6 + 4 * i) = e - l.length := set4_word0 _ _ _ _ (by omega) (by omega)
  have hw2 : wordAt (layF p i (e - l.length) l) (6 + 4 * i + 2) = l.length + 1 := set4_word2 _ _ _ _ (by omega) (by omega)
  refine ⟨by rw [layF_length _ _ _ _ (by omega), hp], ?_, ?_, by simp [h.num], fun j r hj => ?_, fun j hj => ?_, fun j h1 h2 => ?_⟩
  · rw [hb 4 (by omega)]; exact h.kind
  · rw [hb 5 (by omega)]; exact h.cnt
  · by_cases hji : j < i
    · rw [List.getElem?_append_left (by rw [h.num]; exact hji)] at hj
      have h1 := h.slots j r hj
      have h2 := hw j (by omega) (by omega)
      rw [← h1]
      unfold slotAt
      rw [h2.1, h2.2]
      dsimp only
      split
      · rfl
      · rename_i hc
        have h3 := (h.froms j hji).resolve_left (by omega)
        unfold layF
        rw [set4_drop _ _ _ _ _ (by omega), over_drop_take_out _ _ _ _ _ (by omega) (by omega)]
    · have hl2 : j < (done ++ [some l]).length := (List.getElem?_eq_some_iff.1 hj).1
      simp [h.num] at hl2
      obtain rfl : j = i := by omega
      rw [List.getElem?_append_right (by rw [h.num]; exact Nat.le_refl _), h.num] at hj
      simp at hj; subst hj
      unfold slotAt
      rw [hw0, hw2]
      dsimp only
      rw [if_neg (by omega), Nat.add_sub_cancel]
      unfold layF
      rw [set4_drop _ _ _ _ _ (by omega), over_drop_take_in _ _ _ (by omega)]
  · by_cases hji : j = i
    · subst hji; exact .inr (by rw [hw0]; exact Nat.le_refl _)
    · have h2 := hw j hji (by omega)
      rw [h2.1, h2.2]
      rcases h.froms j (by omega) with h3 | h3
      · exact .inl h3
      · exact .inr (by omega)
  · rw [(hw j (by omega) h2).2]; exact h.rest j (by omega) h2
theorem Laid.all {kind : UInt8} {n : Nat} (rs : List (Option (List UInt8))) : ∀ {p : List UInt8} {i e : Nat} {done : List (Option (List UInt8))}, Laid kind n p i e done → i + rs.length = n → e ≤ 512 → 6 + 4 * n + endF rs ≤ e →
    ∃ e', Laid kind n (layAll p i e rs) n e' (done ++ rs) := by
  induction rs with
  | nil => intro p i e done h hn _ _; simp at hn; subst hn; exact ⟨e, by simpa [layAll] using h⟩
  | cons r rs ih =>
    intro p i e done h hn he hf
    simp at hn
    cases r with
    | none =>
      simp only [endF] at hf
      obtain ⟨e', h'⟩ := ih (h.stepN (by omega)) (by omega) he hf
      exact ⟨e', by simpa [layAll] using h'⟩
    | some l =>
      simp only [endF] at hf
      obtain ⟨e', h'⟩ := ih (h.stepS (by omega) l he (by omega)) (by omega) (by omega) (by omega)
      exact ⟨e', by simpa [layAll] using h'⟩

/-- THE LAW: a page's records are those that were laid into it. -/
theorem slots_made (kind : UInt8) (rs : List (Option (List UInt8))) (hn : (trimF rs).length ≤ 124) (hf : 6 + 4 * (trimF rs).length + endF rs ≤ 512) :
    slotsF (madeF kind rs) = trimF rs ∧ byteAt (madeF kind rs) 4 = kind.toNat := by
  obtain ⟨e', h⟩ := Laid.all (trimF rs) (Laid.head kind (trimF rs).length (by omega)) (by simp) (Nat.le_refl _) (by rw [endF_trim]; omega)
  simp only [List.nil_append] at h
  have hb : ∀ j, 4 ≤ j → byteAt (madeF kind rs) j = byteAt (layAll (headF kind (trimF rs).length) 0 512 (trimF rs)) j := fun j hj => byteAt_sealTo _ _ _ _ hj
  have hns : nslots (madeF kind rs) = (trimF rs).length := by
    unfold nslots; rw [hb 5 (by omega), h.cnt]; omega
  refine ⟨?_, by rw [hb 4 (by omega)]; exact h.kind⟩
  apply List.ext_getElem?
  intro j
  by_cases hj : j < (trimF rs).length
  · rw [List.getElem?_eq_getElem hj, slotsF, List.getElem?_map, List.getElem?_range (by omega)]
    simp only [Option.map_some]
    rw [madeF, slotAt_seal, h.slots j _ (List.getElem?_eq_getElem hj)]
  · rw [List.getElem?_eq_none (by rw [slotsF_length, hns]; omega), List.getElem?_eq_none (by omega)]

end Go.Proofs.YtnmjkgnahhbnoaaGreat
