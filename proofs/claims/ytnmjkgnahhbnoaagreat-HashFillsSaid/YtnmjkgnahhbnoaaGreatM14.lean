/- Part 14 of the walks that the laws of package hash share (HeapF, HeapG, HashA, HashB). -/
import Derived.Test.YtnmjkgnahhbnoaaGreatM13
set_option linter.unusedVariables false
set_option linter.unusedSimpArgs false
/- Walks of package heap: Scan. -/
namespace Go.Proofs.YtnmjkgnahhbnoaaGreat
open Go.RowKit
set_option linter.unusedSimpArgs false

/-- While a page's entries are collected. -/
def ScanI (w : World) (cb base q : Nat) (E : List Ent) (m : Nat) (rs : Rs) (pg : List UInt8) (k : Nat) (wr : World) : Prop :=
  ∃ sv, Blk wr cb 63 [sv] ∧ EntsS wr base sv (E ++ entsFrom m 1 ((trimF rs).take k)) ∧ Blk wr q 111 (bvals pg) ∧ Chg (fun b => base ≤ b) w wr
/-- What the collecting of a page leaves. -/
def ScanTo (w : World) (cb base : Nat) (E : List Ent) (w' : World) : Prop :=
  ∃ sv, Blk w' cb 63 [sv] ∧ EntsS w' base sv E ∧ Chg (fun b => base ≤ b) w w'
theorem cell1 {w : World} {q : Nat} {e : TypeId} {x : Value} (h : Blk w q e [x]) : w.cell? ⟨q, 0, none⟩ = some x := by rw [h.cell]; rfl
theorem RecV.some_own {w : World} {v : Value} {x : List UInt8} {base : Nat} (h : RecV w v (some x)) (hb : ∀ b, v.ownBlock = some b → base ≤ b) : ∃ b, SlB w v b x ∧ base ≤ b := by
  obtain ⟨b, h⟩ := h
  refine ⟨b, h, hb b ?_⟩
  obtain ⟨_, _, _, hv, _⟩ := h; rw [hv]; rfl
theorem entsFrom_len (m i : Nat) (rs : Rs) : (entsFrom m i rs).length ≤ rs.length := by
  induction rs generalizing i with
  | nil => simp [entsFrom]
  | cons r rs ih => have := ih (i + 1); cases r <;> simp [entsFrom] <;> omega

set_option maxRecDepth 100000 in
set_option maxHeartbeats 1000000 in
theorem scanFn_any (cb base m nx : Nat) (sv0 : Value) (E : List Ent) (rs : Rs) (w : World) (hf : HFit rs) (hc : Blk w cb 63 [sv0]) (hE : EntsS w base sv0 E) (hb : base ≤ cb) (hbw : base ≤ w.heap.size) (hEl : E.length ≤ 1000000) :
    Calls Tryz.prog 56 #[.int .i64 m, aggB (hpage nx rs), .pointer (some ⟨cb, 0, none⟩)] w fun e w' => e = .returned (.int .i64 0) ∧ ScanTo w cb base (E ++ ents m rs) w' := by
  have HPL : Hid ((hpage nx rs).length = 512) := (hpage_slots hf).2.2
  have HNS : Hid (nslots (hpage nx rs) = (trimF rs).length + 1) := hnslots hf
  have HG : Hid (∀ i, getF (hpage nx rs) (i + 1) = ((trimF rs)[i]?).getD none) := fun i => by rw [trim_getD]; exact hgetS hf i
  have hn : (trimF rs).length ≤ 130 := by unfold HFit at hf; omega
  have HEND : Hid (∀ w', ScanTo w cb base (E ++ entsFrom m 1 ((trimF rs).take (trimF rs).length)) w' → ScanTo w cb base (E ++ ents m rs) w') := fun w' h => by
    rw [List.take_length, entsFrom_trim] at h; exact h
  have HC := Lib.hid hc
  have HE := Lib.hid hE
  clear hc hE hf
  generalize hpage nx rs = pg at *
  generalize htr : trimF rs = tr at *
  have HTR := Lib.hid htr
  clear htr
  go_enter Tryz.func56, Tryz.ntmps56
  go_wp2_with (
    refine wpList_boxA rfl 111 _ rfl (bvals pg) rfl ?_
    intro w0 HB0 HF0 HS0)
  have HI0 : Hid (ScanI w cb base w.heap.size E m rs pg 0 w0) := by
    refine ⟨sv0, HC.out.chg HF0.out id, ?_, HB0.out, HF0.out.fresh⟩
    simpa [entsFrom] using HE.out.fresh HF0.out
  have hqb : base ≤ w.heap.size := hbw
  clear HB0 HF0 HS0 HC HE
  generalize w.heap.size = q at *
  go_loopw [6] (fun i wr => ∃ j : Nat, 1 ≤ j ∧ j ≤ tr.length + 1 ∧ i = .int .i64 j ∧ Hid (ScanI w cb base q E m rs pg (j - 1) wr)) (fun i _ => tr.length + 1 - (intOf i).toNat)
  case atStart => exact ⟨1, by omega, by omega, rfl, HI0.out⟩
  case round =>
    clear HI0
    obtain ⟨j, hj1, hj2, rfl, HI⟩ := hrel
    have HH := HI.out
    unfold ScanI at HH
    rw [HTR.out] at HH
    obtain ⟨sv, hcb, hes, hq, hch⟩ := HH
    have HCB := Lib.hid hcb
    have HES := Lib.hid hes
    have HQ := Lib.hid hq
    have HCH := Lib.hid hch
    clear hcb hes hq hch HI
    go_wp2_with (first
      | (refine wpList_loadA rfl 111 _ rfl q 0 rfl _ _ HQ.out 512 (bvals pg) (take_all _ _ (by simp [HPL.out])) _ Tryz.underlying111 rfl infoPage (by simp [HPL.out]) ?_)
      | fail)
    refine (slotsN_any pg wr HPL.out).mono ?_
    rw [HNS.out]
    rintro e w1 ⟨rfl, hf1⟩
    have HF1 := Lib.hid hf1
    have HQ1 := Lib.hid (HQ.out.chg hf1 id)
    have HCB1 := Lib.hid (HCB.out.chg hf1 id)
    have HES1 := Lib.hid (HES.out.fresh hf1)
    have HCH1 : Hid (Chg (fun b => base ≤ b) w w1) := HCH.out.trans hf1 (fun _ _ f => f.elim)
    clear hf1 HF1 HQ HCB HES HCH
    by_cases hlt : j < tr.length + 1
    · go_wp2_with (first
        | (refine wpList_loadA rfl 111 _ rfl q 0 rfl _ _ HQ1.out 512 (bvals pg) (take_all _ _ (by simp [HPL.out])) _ Tryz.underlying111 rfl infoPage (by simp [HPL.out]) ?_)
        | fail)
      obtain ⟨k, rfl⟩ : ∃ k, j = k + 1 := ⟨j - 1, by omega⟩
      have hkr : tr[k]? = some (tr[k]'(by omega)) := List.getElem?_eq_getElem _
      have HGK := Lib.hid (HG.out k)
      generalize tr[k]'(by omega) = r at *
      have hg : getF pg (k + 1) = r := by rw [HGK.out, hkr]; rfl
      have HGR := Lib.hid hg
      have HTK := Lib.hid (entsFrom_take m 1 tr k r hkr)
      have HKR := Lib.hid hkr
      clear hkr hg HGK
      refine (get_own pg (k + 1) w1 HPL.out (by omega)).mono ?_
      rw [HGR.out]
      rintro e w2 ⟨v, rfl, hr2, hf2, hob⟩
      have hb12 : base ≤ w1.heap.size := by have := HCH1.out.size; have := HQ1.out.lt; omega
      have HOB : Hid (OwnV base v) := hob.le hb12
      have HR2 := Lib.hid hr2
      have HQ2 := Lib.hid (HQ1.out.chg hf2 id)
      have HCB2 := Lib.hid (HCB1.out.chg hf2 id)
      have HES2 := Lib.hid (HES1.out.fresh hf2)
      have HCH2 : Hid (Chg (fun b => base ≤ b) w w2) := HCH1.out.trans hf2 (fun _ _ f => f.elim)
      have hb2 : base ≤ w2.heap.size := by have := hf2.size; omega
      clear hr2 hf2 hob HQ1 HCB1 HES1 HCH1
      have hk1 : k + 1 - 1 = k := by omega
      rw [hk1] at HES2
      clear hk1
      cases r with
      | none =>
        obtain rfl : v = .slice none 0 0 := HR2.out
        go_wp2
        go_roundw
        case rel =>
          refine ⟨k + 2, by omega, by omega, by go_num, sv, HCB2.out, ?_, HQ2.out, HCH2.out⟩
          rw [HTR.out, show k + 2 - 1 = k + 1 by omega, HTK.out]
          simpa [entOf] using HES2.out
        case measure => simp [intOf]; omega
      | some x =>
        obtain ⟨bx, hsx, hbx⟩ := HR2.out.some_own HOB.out.1
        have HSX := Lib.hid hsx
        obtain ⟨ox, cx, curx, rfl, _, _⟩ := hsx
        obtain ⟨X, ho, hev⟩ := HES2.out
        have HO := Lib.hid ho
        have HEV := Lib.hid hev
        have hcl := cell1 HCB2.out
        have hfz := HCB2.out.frozen 0
        have hel : (E ++ entsFrom m 1 (tr.take k)).length ≤ 1000200 := by
          have h1 := entsFrom_len m 1 (tr.take k)
          have h2 : (tr.take k).length ≤ tr.length := List.length_take_le' _ _
          rw [List.length_append]; omega
        clear ho hev
        generalize hE1 : E ++ entsFrom m 1 (tr.take k) = E1 at *
        have HE1 := Lib.hid hE1
        clear hE1
        have HEL := Lib.hid hel
        have hnc : ¬ sv.ownBlock = some cb := HES2.out.other HCB2.out (by decide)
        go_wp2_with (
          at_builtin; go_must (refine wpList_app rfl _ _ 63 rfl 73 (.agg #[.int .i64 0, .int .i64 0, .slice none 0 0]) 3 40 Tryz.underlying63 infoEnt3 entZero (by omega) base sv _ (eCells X) rfl (HO.out.alloc _) ⟨w2.heap.size, 0, none⟩ 1 1 [.int .i64 m, .int .i64 ((k : Int) + 1), .slice (some ⟨bx, ox, none⟩) x.length cx] rfl rfl (new_cells _ _ _) (by simp [Value.oneCell']) (by unfold maxLen; omega) (by omega) (by simp; omega) (.inr (by omega)) ?_); intro g' cap' w3 HO3 HC3 HG3
          have HCB3 := Lib.hid ((HCB2.out.alloc _).chg HC3.out hnc)
          have hcl3 := cell1 HCB3.out
          have hfz3 := HCB3.out.frozen 0)
        go_roundw
        case rel =>
          have hst : Chg (· = cb) w3 (w3.setCell ⟨cb, 0, none⟩ (.slice (some ⟨g', 0, none⟩) (E1.length + 1) cap')) := (Chg.refl (fun y => y = cb) w3).setCell (.inl rfl) _
          have hq3 : Blk w3 q 111 (bvals pg) := (HQ2.out.alloc _).chg HC3.out (HES2.out.other HQ2.out (by decide))
          have hnew := HCH2.out.alloc (.cells #[.int .i64 (m : Int), .int .i64 ((k : Int) + 1), .slice (some ⟨bx, ox, none⟩) x.length cx] 73)
          have hne : ¬ g' = cb := fun e => by
            have h1 := owns_other HO3.out HCB3.out (by decide)
            exact h1 (by rw [e]; rfl)
          refine ⟨k + 2, by omega, by omega, by go_num, _, HCB3.out.set 0 _, ?_, ?_, ?_⟩
          · rw [HTR.out, show k + 2 - 1 = k + 1 by omega, HTK.out, ← List.append_assoc, HE1.out]
            have hev3 := (HEV.out.chgT ((Chg.refl (fun _ => False) w2).alloc _) (fun _ _ _ f => f)).chgT HC3.out (fun b cur hb => owns_other (HO.out.alloc _) hb (by decide))
            have hev4 := hev3.chgT hst (fun b cur hb => HCB3.out.not_bytes hb (by decide))
            have hsx3 := (((show SlB w2 _ bx x from HSX.out).chg ((Chg.refl (fun _ => False) w2).alloc _) id).chg HC3.out (fun hk => by
              obtain ⟨_, _, cur, _, hh, _⟩ := HSX.out
              exact owns_other HO.out hh (by decide) hk)).chg hst (by
              obtain ⟨_, _, cur, _, hh, _⟩ := HSX.out
              exact fun e => HCB2.out.not_bytes hh (by decide) e)
            have ho4 := hst.owns HO3.out (fun j hj e => by
              simp only [Value.ownBlock, Option.some.injEq] at hj
              exact hne (hj.trans e))
            rw [← show (((1 + k : Nat)) : Int) = (k : Int) + 1 by omega] at ho4
            exact EntsS.snoc hev4 ho4 hsx3 hbx HOB.out.2
          · exact hq3.chg hst (hq3.ne_of_type HCB3.out (by decide))
          · refine (hnew.trans HC3.out (fun j hj hk => ?_)).trans hst (fun j hj e => by omega)
            have := (HO.out.lt j hk).1
            omega
        case measure => simp [intOf]; omega
    · obtain rfl : j = tr.length + 1 := by omega
      go_wp2
      go_ret
      exact ⟨rfl, HEND.out _ ⟨sv, HCB1.out, HES1.out, HCH1.out⟩⟩

/-- While a heap is scanned: i pages are done. -/
def ScanJ (w0 : World) (b N : Nat) (T : Nat → Bool) (V : Nat → Option (List UInt8)) (F : Nat → Prop) (cb : Nat) (L : List (Nat × Rs)) (i : Nat) (wr : World) : Prop :=
  BatchV wr b N T V F ∧ ScanTo w0 cb w0.heap.size (entsL (L.take i)) wr
theorem entsL_len (N : Nat) (L : List (Nat × Rs)) (h : ∀ x ∈ L, HFit x.2) (hl : L.length ≤ N) : (entsL L).length ≤ 130 * N := by
  induction L generalizing N with
  | nil => simp [entsL]
  | cons x L ih =>
    simp only [List.length_cons] at hl
    have h1 := ih (N - 1) (fun y hy => h y (List.mem_cons_of_mem _ hy)) (by omega)
    have h2 := entsFrom_len x.1 1 (trimF x.2)
    rw [entsFrom_trim] at h2
    have h3 := h x (List.mem_cons_self ..)
    unfold HFit at h3
    rw [entsL_cons, List.length_append]
    unfold ents
    omega
theorem HeapV.len_le {V : Nat → Option (List UInt8)} {N : Nat} {L : List (Nat × Rs)} (h : HeapV V N L) : L.length ≤ N := by
  have := nodup_lt_length N (pagesL L) h.nodup (fun x hx => by
    obtain ⟨y, hy, rfl⟩ := List.mem_map.1 hx
    obtain ⟨i, hi⟩ := List.getElem?_of_mem hy
    exact (h.pg i y.1 y.2 hi).2.2.2)
  simpa using this
theorem HeapV.ents_le {V : Nat → Option (List UInt8)} {N : Nat} {L : List (Nat × Rs)} (h : HeapV V N L) (i : Nat) : (entsL (L.take i)).length ≤ 130 * N := by
  refine entsL_len N _ (fun x hx => ?_) (Nat.le_trans (List.length_take_le' _ _) h.len_le)
  obtain ⟨j, hj⟩ := List.getElem?_of_mem (List.mem_of_mem_take hx)
  exact (h.pg j x.1 x.2 hj).2.1

set_option maxRecDepth 100000 in
set_option maxHeartbeats 1000000 in
theorem hscan_any {b N : Nat} {T : Nat → Bool} {V : Nat → Option (List UInt8)} {F : Nat → Prop} {L : List (Nat × Rs)} (w : World) (h : BatchV w b N T V F) (hV : HeapV V N L) :
    Calls Tryz.prog 26 #[.pointer (some ⟨b, 0, none⟩), .int .i64 (nextAt L 0 : Nat)] w fun e w' => ∃ sv, e = .returned (.tuple #[sv, .int .i64 0]) ∧ EntsS w' w.heap.size sv (entsL L) ∧ Fresh w w' := by
  have H := Lib.hid h
  have HV := Lib.hid hV
  clear h hV
  go_enter Tryz.func26, Tryz.ntmps26
  go_wp2_with fail
  have hb1 : Blk (w.alloc (.cells #[.slice none 0 0] 63)) w.heap.size 63 [.slice none 0 0] := Blk.newA _ _ _ rfl
  have hf1 : Fresh w (w.alloc (.cells #[.slice none 0 0] 63)) := (Chg.refl _ _).alloc _
  have HJ : Hid (ScanJ w b N T V F w.heap.size L 0 (w.alloc (.cells #[.slice none 0 0] 63))) := ⟨H.out.fresh hf1, _, hb1, EntsS.nil _ _, hf1.fresh⟩
  clear hb1 hf1
  generalize w.alloc (.cells #[.slice none 0 0] 63) = w1 at *
  refine (heachScan_any (b := b) (N := N) (V := V) (L := L) ⟨w.heap.size, 0, none⟩ (fun i wr => ScanJ w b N T V F w.heap.size L i wr) w1 (fun i w2 h => ⟨T, F, h.1⟩) (fun i w2 w3 h hf => ?_) HV.out (fun i m rs w2 hi h => ?_) HJ.out).mono ?_
  · obtain ⟨h1, sv, h2, h3, h4⟩ := h
    exact ⟨h1.fresh hf, sv, h2.chg hf id, h3.fresh hf, h4.trans hf (fun _ _ f => f.elim)⟩
  · obtain ⟨h1, sv, h2, h3, h4⟩ := h
    refine (scanFn_any w.heap.size w.heap.size m (nextAt L (i + 1)) sv _ rs w2 (HV.out.pg i m rs hi).2.1 h2 h3 (Nat.le_refl _) h4.size (by have := HV.out.ents_le i; have := H.out.le; omega)).mono ?_
    rintro e w3 ⟨rfl, sv2, h5, h6, h7⟩
    exact ⟨rfl, h1.chg h7 (fun k hk hb => by have := H.out.lt hk; omega), sv2, h5, by rw [entsL_take hi]; exact h6, h4.trans h7 (fun _ _ h => h)⟩
  · rintro e w2 ⟨rfl, h1, sv, h2, h3, h4⟩
    rw [List.take_length] at h3
    have HE := Lib.hid h3
    have HC := Lib.hid h4
    have hc := cell1 h2
    clear h1 h2 h3 h4
    go_wp2
    go_ret2
    exact ⟨sv, rfl, HE.out, HC.out.os, HC.out.tape, HC.out.output, HC.out.size, fun k hk _ => HC.out.block k hk (by omega)⟩
end Go.Proofs.YtnmjkgnahhbnoaaGreat

/- Walks of package heap: Free. -/
namespace Go.Proofs.YtnmjkgnahhbnoaaGreat
open Go.RowKit
set_option linter.unusedSimpArgs false

/-- Some pages given back. -/
def tfree (T : Nat → Bool) (ps : List Nat) : Nat → Bool := fun k => if k ∈ ps then false else T k
theorem tfree_nil (T : Nat → Bool) : tfree T [] = T := by funext k; simp [tfree]
theorem tfree_snoc (T : Nat → Bool) (ps : List Nat) (m : Nat) : tput (tfree T ps) m false = tfree T (ps ++ [m]) := by
  funext k
  unfold tput tfree
  by_cases h : k = m
  · simp [h]
  · simp [h]
theorem pagesL_take {L : List (Nat × Rs)} {i m : Nat} {rs : Rs} (h : L[i]? = some (m, rs)) : pagesL (L.take (i + 1)) = pagesL (L.take i) ++ [m] := by
  have hlt : i < L.length := (List.getElem?_eq_some_iff.1 h).1
  show (L.take (i + 1)).map (·.1) = _
  rw [List.take_succ_eq_append_getElem hlt, (List.getElem?_eq_some_iff.1 h).2]
  simp [pagesL]
theorem HeapV.fresh_page {V : Nat → Option (List UInt8)} {N : Nat} {L : List (Nat × Rs)} (h : HeapV V N L) {i m : Nat} {rs : Rs} (hi : L[i]? = some (m, rs)) : m ∉ pagesL (L.take i) := by
  intro hm
  obtain ⟨x, hx, hxm⟩ := List.mem_map.1 hm
  obtain ⟨j, hj⟩ := List.getElem?_of_mem hx
  rw [List.getElem?_take] at hj
  split at hj
  · have : L[j]? = some (m, x.2) := by rw [hj, ← hxm]
    have := h.inj hi this
    omega
  · cases hj

set_option maxRecDepth 100000 in
set_option maxHeartbeats 1000000 in
theorem freeFn_any {b N m cb : Nat} {T : Nat → Bool} {V : Nat → Option (List UInt8)} {F : Nat → Prop} {pg : List UInt8} (w : World) (h : BatchV w b N T V F) (hm : 1 ≤ m ∧ m < N) (ht : T m = true) (hc : w.cell? ⟨cb, 0, none⟩ = some (.pointer (some ⟨b, 0, none⟩))) :
    Calls Tryz.prog 82 #[.int .i64 m, aggB pg, .pointer (some ⟨cb, 0, none⟩)] w fun e w' => e = .returned (.int .i64 0) ∧ BatchTo w w' b N (tput T m false) V F := by
  have H := Lib.hid h
  have HT := Lib.hid ht
  clear h ht
  go_enter Tryz.func82, Tryz.ntmps82
  go_wp2_with (
    refine wpList_boxA rfl 111 _ rfl (bvals pg) rfl ?_
    intro w1 HB1 HF1 HS1
    have c1 := HF1.out.cell hc id)
  refine (bv_free (H.out.fresh HF1.out) hm HT.out).mono ?_
  rintro e w2 ⟨rfl, hb2⟩
  go_wp2
  go_ret
  exact ⟨rfl, BatchTo.trans (fun k hk => .inl hk) HF1.out.fresh hb2⟩

/-- While a heap is given back: i pages are done. -/
def FreeJ (w0 : World) (b N : Nat) (T : Nat → Bool) (V : Nat → Option (List UInt8)) (F : Nat → Prop) (cb : Nat) (L : List (Nat × Rs)) (i : Nat) (wr : World) : Prop :=
  ∃ F', BatchV wr b N (tfree T (pagesL (L.take i))) V F' ∧ (∀ k, F' k → F k ∨ w0.heap.size ≤ k) ∧ Chg F w0 wr ∧ wr.cell? ⟨cb, 0, none⟩ = some (.pointer (some ⟨b, 0, none⟩)) ∧ ¬ F' cb ∧ cb < wr.heap.size

set_option maxRecDepth 100000 in
set_option maxHeartbeats 1000000 in
theorem hfree_any {b N : Nat} {T : Nat → Bool} {V : Nat → Option (List UInt8)} {F : Nat → Prop} {L : List (Nat × Rs)} (w : World) (h : BatchV w b N T V F) (hV : HeapV V N L) (ht : ∀ k ∈ pagesL L, T k = true) :
    Calls Tryz.prog 47 #[.pointer (some ⟨b, 0, none⟩), .int .i64 (nextAt L 0 : Nat)] w fun e w' => e = .returned (.int .i64 0) ∧ BatchTo w w' b N (tfree T (pagesL L)) V F := by
  have H := Lib.hid h
  have HV := Lib.hid hV
  have HT := Lib.hid ht
  clear h hV ht
  go_enter Tryz.func47, Tryz.ntmps47
  go_wp2_with fail
  have hb1 : Blk (w.alloc (.cells #[.pointer (some ⟨b, 0, none⟩)] 25)) w.heap.size 25 [.pointer (some ⟨b, 0, none⟩)] := Blk.newA _ _ _ rfl
  have hf1 : Fresh w (w.alloc (.cells #[.pointer (some ⟨b, 0, none⟩)] 25)) := (Chg.refl _ _).alloc _
  have HJ : Hid (FreeJ w b N T V F w.heap.size L 0 (w.alloc (.cells #[.pointer (some ⟨b, 0, none⟩)] 25))) := by
    refine ⟨F, ?_, fun _ h => .inl h, hf1.fresh, cell1 hb1, fun hk => by have := H.out.lt hk; omega, hb1.lt⟩
    rw [List.take_zero, pagesL, List.map_nil, tfree_nil]
    exact H.out.fresh hf1
  clear hb1 hf1
  generalize w.alloc (.cells #[.pointer (some ⟨b, 0, none⟩)] 25) = w1 at *
  refine (heachFree_any (b := b) (N := N) (V := V) (L := L) ⟨w.heap.size, 0, none⟩ (fun i wr => FreeJ w b N T V F w.heap.size L i wr) w1 (fun i w2 h => by obtain ⟨F', h1, _⟩ := h; exact ⟨_, F', h1⟩) (fun i w2 w3 h hf => ?_) HV.out (fun i m rs w2 hi h => ?_) HJ.out).mono ?_
  · obtain ⟨F', h1, h2, h3, h4, h5, h6⟩ := h
    exact ⟨F', h1.fresh hf, h2, h3.trans hf (fun _ _ f => f.elim), hf.cell h4 id, h5, by have := hf.size; omega⟩
  · obtain ⟨F', h1, h2, h3, h4, h5, h6⟩ := h
    have hp := HV.out.pg i m rs hi
    have hnew := HV.out.fresh_page hi
    have htm : tfree T (pagesL (L.take i)) m = true := by
      unfold tfree; rw [if_neg hnew]; exact HT.out m (pagesL_get hi)
    refine (freeFn_any w2 h1 ⟨hp.2.2.1, hp.2.2.2⟩ htm h4).mono ?_
    rintro e w3 ⟨rfl, F3, hb3, hs3, hc3⟩
    rw [tfree_snoc, ← pagesL_take hi] at hb3
    refine ⟨rfl, F3, hb3, fun k hk => ?_, h3.trans hc3 (fun k hk hF => ?_), hc3.cell h4 h5, fun hk => ?_, by have := hc3.size; omega⟩
    · rcases hs3 k hk with h | h
      · exact h2 k h
      · have := h3.size; exact .inr (by omega)
    · rcases h2 k hF with h | h
      · exact h
      · omega
    · rcases hs3 _ hk with h | h
      · exact h5 h
      · omega
  · rintro e w2 ⟨rfl, F', h1, h2, h3, _⟩
    rw [List.take_length] at h1
    have HB := Lib.hid h1
    have HS := Lib.hid h2
    have HC := Lib.hid h3
    clear h1 h2 h3
    go_wp2
    go_ret
    exact ⟨rfl, F', HB.out, HS.out, HC.out⟩
end Go.Proofs.YtnmjkgnahhbnoaaGreat

/- Walks of package hash: bytes, number, sum, bucket. -/
namespace Go.Proofs.YtnmjkgnahhbnoaaGreat
open Go.RowKit
set_option linter.unusedSimpArgs false

/-- A number, as three bytes. -/
def num3 (n : Nat) : List UInt8 := [lowB n, lowB ((n : Int) / 256), lowB ((n : Int) / 65536)]
set_option maxHeartbeats 400000 in
theorem hbytes_any (n : Nat) (w : World) (hn : n < 16777216) :
    Calls Tryz.prog 41 #[.int .i64 n] w fun e w' => e = .returned (.slice (some ⟨w.heap.size, 0, none⟩) 3 3) ∧ Blk w' w.heap.size 5 (bvals (num3 n)) ∧ Fresh w w' := by
  go_enter Tryz.func41, Tryz.ntmps41
  go_wp2
  go_ret
  refine ⟨rfl, ?_, (Chg.refl _ w).alloc _⟩
  have h1 : bvals (num3 n) = [.int .u8 ((n : Int) % 256), .int .u8 ((n : Int) / 256 % 256), .int .u8 ((n : Int) / 65536)] := by
    show [B (lowB n), B (lowB ((n : Int) / 256)), B (lowB ((n : Int) / 65536))] = _
    rw [lowB_val, lowB_val, lowB_val, show ((n : Int) / 65536) % 256 = (n : Int) / 65536 by omega]
  rw [h1]
  exact Blk.newA w 5 #[.int .u8 ((n : Int) % 256), .int .u8 ((n : Int) / 256 % 256), .int .u8 ((n : Int) / 65536)] rfl

set_option maxHeartbeats 400000 in
theorem hnum_any (b o cap : Nat) (n : Nat) (w : World) (hn : n < 16777216) (hs : SlB w (.slice (some ⟨b, o, none⟩) 3 cap) b (num3 n)) :
    Calls Tryz.prog 59 #[.slice (some ⟨b, o, none⟩) 3 cap] w fun e w' => e = .returned (.int .i64 n) ∧ Fresh w w' := by
  have hby := hs.bytes.2.2
  have c0 : w.cell? ⟨b, o, none⟩ = some (B (lowB n)) := hby 0 _ rfl
  have c1 : w.cell? ⟨b, o + 1, none⟩ = some (B (lowB ((n : Int) / 256))) := hby 1 _ rfl
  have c2 : w.cell? ⟨b, o + 2, none⟩ = some (B (lowB ((n : Int) / 65536))) := hby 2 _ rfl
  have hxyz : (lowB n).toNat + 256 * (lowB ((n : Int) / 256)).toNat + 65536 * (lowB ((n : Int) / 65536)).toNat = n := by
    rw [lowB_toNat, lowB_toNat, lowB_toNat]; omega
  generalize lowB n = x at *
  generalize lowB ((n : Int) / 256) = y at *
  generalize lowB ((n : Int) / 65536) = z at *
  have hor := or_bytes x.toNat y.toNat x.toNat_lt (by have := y.toNat_lt; omega)
  have hor2 : bits .or .i64 ((x.toNat + 256 * y.toNat : Nat) : Int) ((z.toNat : Int) * 65536) = (n : Int) := by
    have h := bits_or_i64_nat (x.toNat + 256 * y.toNat) (z.toNat * 65536) (by have := x.toNat_lt; have := y.toNat_lt; omega) (by have := z.toNat_lt; omega)
    rw [Int.natCast_mul] at h
    rw [show (((65536 : Nat) : Int)) = 65536 from rfl] at h
    rw [h, ← hxyz]
    congr 1
    have := Nat.two_pow_add_eq_or_of_lt (i := 16) (b := x.toNat + 256 * y.toNat) (by have := x.toNat_lt; have := y.toNat_lt; omega) z.toNat
    rw [Nat.or_comm, Nat.mul_comm z.toNat 65536, show (65536 : Nat) = 2 ^ 16 from rfl, ← this]
    omega
  have hx := x.toNat_lt
  have hy := y.toNat_lt
  have hz := z.toNat_lt
  have hxw : IntKind.i64.wrap (x.toNat : Int) = x.toNat := IntWalk.i64_in _ (by omega)
  have hyw0 : IntKind.i64.wrap (y.toNat : Int) = y.toNat := IntWalk.i64_in _ (by omega)
  have hzw0 : IntKind.i64.wrap (z.toNat : Int) = z.toNat := IntWalk.i64_in _ (by omega)
  have hyw : IntKind.i64.wrap ((y.toNat : Int) * 256) = (y.toNat : Int) * 256 := IntWalk.i64_in _ (by omega)
  have hzw : IntKind.i64.wrap ((z.toNat : Int) * 65536) = (z.toNat : Int) * 65536 := IntWalk.i64_in _ (by omega)
  obtain ⟨m, hm⟩ : ∃ m : Nat, m = x.toNat + 256 * y.toNat := ⟨_, rfl⟩
  rw [← hm] at hor hor2
  clear hs hby hxyz hm
  go_enter Tryz.func59, Tryz.ntmps59
  go_wp2
  go_quiet (fail)
  go_wp2
  go_ret
  exact ⟨rfl, (Chg.refl _ w).drewN nq⟩

/-- A key's sum. -/
def hstep (h : Int) (c : UInt8) : Int := bits BinOp.xor IntKind.u32 h ((c.toNat : Int) % 4294967296) * 16777619 % 4294967296
def hsumF (key : List UInt8) : Int := key.foldl hstep 2166136261
theorem hsumF_snoc (zs : List UInt8) (k : Nat) (h : k < zs.length) : hsumF (zs.take (k + 1)) = hstep (hsumF (zs.take k)) zs[k] := by
  unfold hsumF
  rw [List.take_succ_eq_append_getElem h, List.foldl_append]; rfl
theorem hstep_bd (h : Int) (c : UInt8) : 0 ≤ hstep h c ∧ hstep h c < 4294967296 := by unfold hstep; omega
theorem hsumF_bd (zs : List UInt8) : 0 ≤ hsumF zs ∧ hsumF zs < 4294967296 := by
  unfold hsumF
  suffices h : ∀ (l : List UInt8) (c : Int), 0 ≤ c ∧ c < 4294967296 → 0 ≤ l.foldl hstep c ∧ l.foldl hstep c < 4294967296 from h zs _ (by omega)
  intro l
  induction l with
  | nil => intro c h; exact h
  | cons x l ih => intro c _; exact ih _ (hstep_bd c x)
set_option maxHeartbeats 400000 in
theorem hsum_any (v : Value) (key : List UInt8) (w : World) (hs : BytesV w v key) (hl : key.length ≤ 4611686018427387904) :
    Calls Tryz.prog 60 #[v] w fun e w' => e = .returned (.int .i64 (hsumF key)) ∧ w = w' := by
  have HS := Lib.hid hs
  obtain ⟨a, cap, rfl⟩ := hs.slice
  have HB := Lib.hid (hsumF_bd key)
  clear hs
  go_enter Tryz.func60, Tryz.ntmps60
  go_wp2
  go_loop [3, 8] (fun c i => ∃ (k : Nat), k ≤ key.length ∧ i = .int .i64 k ∧ c = .int .u32 (hsumF (key.take k))) (fun _ i => key.length - (intOf i).toNat)
  case atStart => exact ⟨0, Nat.zero_le _, rfl, rfl⟩
  case round =>
    obtain ⟨k, hk, rfl, rfl⟩ := hrel
    by_cases hlt : k < key.length
    · have HSN := Lib.hid (hsumF_snoc key k hlt)
      obtain ⟨ad, rfl, h1⟩ : ∃ ad, a = some ad ∧ w.cell? (ad.add k) = some (B key[k]) := by
        rcases HS.out with ⟨_, h0⟩ | ⟨ad, c, hv, hr⟩
        · rw [h0] at hlt; simp at hlt
        · simp only [Value.slice.injEq] at hv
          refine ⟨ad, hv.1, hr k _ ?_⟩
          rw [bvals_get, List.getElem?_eq_getElem hlt]; rfl
      obtain ⟨b, o, m⟩ := ad
      generalize hsumF (key.take k) = c at *
      generalize key[k] = x at *
      go_wp2
      go_round
      case rel => exact ⟨k + 1, by omega, by go_num, by rw [HSN.out]; rfl⟩
      case measure => simp [intOf]; omega
    · obtain rfl : k = key.length := by omega
      have HT : Hid (hsumF (key.take key.length) = hsumF key) := by show _ = _; rw [List.take_length]
      rw [HT.out]
      have hb := HB.out
      generalize hc : hsumF key = c at *
      have HC := Lib.hid hc
      clear hc
      have hw : c % 18446744073709551616 = c := by omega
      go_wp2
      go_ret
      exact ⟨by rw [HC.out]; rfl, rfl⟩

/-- The greatest power of two that is not above n. -/
def levelF (n : Nat) : Nat := 2 ^ n.log2
theorem levelF_eq {n j : Nat} (h1 : 2 ^ j ≤ n) (h2 : n < 2 * 2 ^ j) : levelF n = 2 ^ j := by
  have h0 : n ≠ 0 := by have := Nat.two_pow_pos j; omega
  unfold levelF
  rw [(Nat.log2_eq_iff h0).2 ⟨h1, by rw [Nat.pow_succ]; omega⟩]
theorem levelF_bd {n : Nat} (h : 1 ≤ n) : 1 ≤ levelF n ∧ levelF n ≤ n ∧ n < 2 * levelF n := by
  have h0 : n ≠ 0 := by omega
  have h1 := Nat.log2_self_le h0
  have h2 : n < 2 ^ (n.log2 + 1) := Nat.lt_log2_self
  rw [Nat.pow_succ] at h2
  unfold levelF
  exact ⟨Nat.two_pow_pos _, h1, by omega⟩
/-- A key's bucket among n. -/
def bucketF (key : List UInt8) (n : Nat) : Nat := if n ≤ (hsumF key).toNat % (2 * levelF n) then (hsumF key).toNat % (2 * levelF n) - levelF n else (hsumF key).toNat % (2 * levelF n)
theorem bucketF_lt (key : List UInt8) {n : Nat} (h : 1 ≤ n) : bucketF key n < n := by
  have h1 := levelF_bd h
  have h2 := Nat.mod_lt (hsumF key).toNat (show 0 < 2 * levelF n by omega)
  unfold bucketF
  split <;> omega
theorem levelF_succ {n : Nat} (h : 1 ≤ n) : levelF (n + 1) = levelF n ∨ (levelF (n + 1) = 2 * levelF n ∧ n + 1 = 2 * levelF n) := by
  have h1 := levelF_bd h
  by_cases h2 : n + 1 < 2 * levelF n
  · left
    unfold levelF at h1 h2 ⊢
    exact levelF_eq (by omega) h2
  · right
    have h3 : n + 1 = 2 * levelF n := by omega
    refine ⟨?_, h3⟩
    have h4 : levelF (n + 1) = 2 ^ (n.log2 + 1) := levelF_eq (by unfold levelF at h3; rw [Nat.pow_succ]; omega) (by unfold levelF at h3; rw [Nat.pow_succ]; omega)
    rw [h4, Nat.pow_succ]; unfold levelF; omega
/-- What a bucket more changes. -/
theorem bucketF_succ (key : List UInt8) {n : Nat} (h : 1 ≤ n) : (bucketF key (n + 1) = n ∧ bucketF key n = n - levelF n) ∨ (bucketF key (n + 1) ≠ n ∧ bucketF key (n + 1) = bucketF key n) := by
  have h1 := levelF_bd h
  have hm := Nat.mod_lt (hsumF key).toNat (show 0 < 2 * levelF n by omega)
  rcases levelF_succ h with h2 | ⟨h2, h3⟩
  · unfold bucketF
    rw [h2]
    generalize (hsumF key).toNat % (2 * levelF n) = k at *
    by_cases hk : k = n
    · subst hk
      rw [if_neg (by omega), if_pos (Nat.le_refl _)]; exact .inl ⟨rfl, rfl⟩
    · right
      by_cases hk2 : n ≤ k
      · rw [if_pos (by omega), if_pos hk2]; exact ⟨by omega, rfl⟩
      · rw [if_neg (by omega), if_neg hk2]; exact ⟨by omega, rfl⟩
  · unfold bucketF
    rw [h2]
    have hm2 := Nat.mod_lt (hsumF key).toNat (show 0 < 2 * (2 * levelF n) by omega)
    have hmm : (hsumF key).toNat % (2 * (2 * levelF n)) % (2 * levelF n) = (hsumF key).toNat % (2 * levelF n) := by
      rw [Nat.mul_comm 2 (2 * levelF n), Nat.mod_mul_right_mod]
    generalize (hsumF key).toNat % (2 * (2 * levelF n)) = k2 at *
    generalize (hsumF key).toNat % (2 * levelF n) = k at *
    rw [← h3] at hmm hm2
    have hkk : k = if n + 1 ≤ k2 then k2 - 2 * levelF n else k2 := by
      rw [← h3]
      split
      · rename_i hh
        rw [← hmm, Nat.mod_eq_sub_mod hh, Nat.mod_eq_of_lt (by omega)]
      · rename_i hh
        rw [← hmm, Nat.mod_eq_of_lt (by omega)]
    rw [← hkk]
    by_cases hk : k = n
    · left
      exact ⟨hk, by rw [if_pos (by omega), hk]⟩
    · right
      exact ⟨hk, by rw [if_neg (by omega)]⟩

set_option maxHeartbeats 400000 in
theorem hbucket_any (v : Value) (key : List UInt8) (n : Nat) (w : World) (hs : BytesV w v key) (hl : key.length ≤ 4611686018427387904) (hn : 1 ≤ n ∧ n ≤ 1000000) :
    Calls Tryz.prog 28 #[v, .int .i64 n] w fun e w' => e = .returned (.int .i64 (bucketF key n)) ∧ w = w' := by
  have HS := Lib.hid hs
  have HB := Lib.hid (hsumF_bd key)
  clear hs
  go_enter Tryz.func28, Tryz.ntmps28
  go_wp2
  go_loop [5] (fun l => ∃ j : Nat, Hid (2 ^ j ≤ n) ∧ l = .int .i64 ((2 ^ j : Nat) : Int)) (fun l => n - (intOf l).toNat)
  case atStart => exact ⟨0, hn.1, rfl⟩
  case round =>
    obtain ⟨j, HJ, rfl⟩ := hrel
    have hp := Nat.two_pow_pos j
    have hjn := HJ.out
    have HL : Hid (n < 2 * 2 ^ j → levelF n = 2 ^ j) := fun h => levelF_eq HJ.out h
    have HP : Hid (2 ^ (j + 1) = 2 ^ j * 2) := Nat.pow_succ ..
    generalize hll : 2 ^ j = l at *
    have HLL := Lib.hid hll
    clear hll
    by_cases hlt : 2 * l ≤ n
    · go_wp2
      go_round
      case rel => exact ⟨j + 1, by rw [HP.out]; show _ ≤ _; omega, by rw [HP.out]; go_num⟩
      case measure => simp [intOf]; omega
    · have hlev := HL.out (by omega)
      have HLV := Lib.hid hlev
      clear hlev HL HP HLL
      go_wp2_with fail
      refine (hsum_any v key w HS.out hl).mono ?_
      rintro e w1 ⟨rfl, rfl⟩
      obtain ⟨sm, hsm⟩ : ∃ sm : Nat, hsumF key = sm := ⟨(hsumF key).toNat, by have := HB.out.1; omega⟩
      have hsm2 : sm < 4294967296 := by have := HB.out.2; omega
      have HF : Hid (bucketF key n = if n ≤ sm % (2 * l) then sm % (2 * l) - l else sm % (2 * l)) := by
        show _ = _
        unfold bucketF
        rw [HLV.out, hsm]; rfl
      rw [hsm]
      have HSM := Lib.hid hsm
      clear hsm
      have hmd : ((sm : Int) % (2 * (l : Int))) = ((sm % (2 * l) : Nat) : Int) := by simp
      have hlt2 := Nat.mod_lt sm (show 0 < 2 * l by omega)
      generalize sm % (2 * l) = k at *
      by_cases hk : n ≤ k
      · go_wp2
        go_ret
        refine ⟨?_, rfl⟩
        rw [HF.out, if_pos hk]
        exact ret_int (by omega)
      · go_wp2
        go_ret
        refine ⟨?_, rfl⟩
        rw [HF.out, if_neg hk]
        exact ret_int hmd

/-- An entry's record: the place, the key. -/
def entB (key : List UInt8) (rid : Nat × Nat) : List UInt8 := [lowB rid.1, lowB ((rid.1 : Int) / 256), lowB rid.2, lowB ((rid.2 : Int) / 256)] ++ key
@[simp] theorem entB_length (key : List UInt8) (rid : Nat × Nat) : (entB key rid).length = key.length + 4 := by simp [entB]
/-- Bytes in a block that is new. -/
def SlN (w : World) (base : Nat) (v : Value) (l : List UInt8) : Prop := ∃ b, SlB w v b l ∧ base ≤ b
theorem SlN.fresh {w w1 : World} {base : Nat} {v : Value} {l : List UInt8} (h : SlN w base v l) (hc : Fresh w w1) : SlN w1 base v l := by
  obtain ⟨b, h1, h2⟩ := h; exact ⟨b, h1.chg hc id, h2⟩
theorem SlN.toO {w : World} {base : Nat} {v : Value} {l : List UInt8} {F : Nat → Prop} (h : SlN w base v l) (hF : ∀ k, F k → k < base) : BytesO w v l F := by
  obtain ⟨b, h1, h2⟩ := h
  exact .inr ⟨b, h1, fun hk => by have := hF b hk; omega⟩

theorem owns_slB {w : World} {base g n cap : Nat} {l : List UInt8} (h : w.ownsRow base 5 1 (.slice (some ⟨g, 0, none⟩) n cap) n (bvals l)) (hn : n = l.length) : SlB w (.slice (some ⟨g, 0, none⟩) n cap) g l := by
  subst hn
  rcases h.2 with ⟨e, _⟩ | ⟨g1, cap1, cur, e, _, hg, _, _, _, ht⟩
  · cases e
  · simp only [Value.slice.injEq, Option.some.injEq, Addr.mk.injEq, and_true, true_and] at e
    obtain ⟨rfl, rfl⟩ := e
    refine ⟨0, cap, cur, rfl, hg, fun j c hj => ?_⟩
    have h1 : (bvals l)[j]? = some (B c) := by rw [bvals_get, hj]; rfl
    rw [← ht, List.getElem?_take] at h1
    split at h1
    · simpa using h1
    · cases h1
theorem Blk.slB {w : World} {g n : Nat} {l : List UInt8} (h : Blk w g 5 (bvals l)) (hn : n = l.length) : SlB w (.slice (some ⟨g, 0, none⟩) n n) g l := by
  subst hn
  exact ⟨0, l.length, _, rfl, h, fun j c hj => by simp [bvals_get, hj]⟩
theorem rangeAt_chg {w w1 : World} {g o : Nat} {cs : List Value} {F : Nat → Prop} (h : w.rangeAt g o cs) (hc : Chg F w w1) (hf : ¬ F g) : w1.rangeAt g o cs := fun j v hj => hc.cell (h j v hj) hf
section
variable {ops : Array Oper} {rest : List Oper} {o : Oper} {a : Act} {w : World} {Q : Exit → Act → World → Prop}
/-- 'append(s, x...)' where s is a whole block of bytes. -/
theorem wpList_appB (hgd : o.guard = none) (s x : Operand) (ho : o.op = .call { callee := .builtin .append, args := #[s, x], argTypes := #[23, 23] })
    (g0 : Nat) {n0 : Nat} (hs : a.eval s = .slice (some ⟨g0, 0, none⟩) n0 n0) {cs : List Value} (hb : Blk w g0 5 cs) (hn0 : cs.length = n0) (news : List Value) (m : Nat) (hm : news.length = m) (h1 : ∀ u ∈ news, u.oneCell' = true) (hbd : n0 + m ≤ 1000000000)
    {ax : Option Addr} {c : Nat} (hx : a.eval x = .slice ax m c) (hsrc : (ax = none ∧ c = 0 ∧ news = []) ∨ ∃ ad, ax = some ad ∧ ∀ (j : Nat) (u : Value), news[j]? = some u → w.cell? (ad.add j) = some u)
    (h : ∀ g' cap' w', Hid (w'.ownsRow 0 5 1 (.slice (some ⟨g', 0, none⟩) (n0 + m) cap') (n0 + m) (cs ++ news)) → Hid (Chg (· = g0) w w') → Hid (g' = g0 ∨ w.heap.size ≤ g') →
      wpList Tryz.prog ops Q rest (a.put o.dst (.slice (some ⟨g', 0, none⟩) (n0 + m) cap')) w') : wpList Tryz.prog ops Q (o :: rest) a w := by
  have hown : w.ownsRow 0 5 1 (.slice (some ⟨g0, 0, none⟩) n0 n0) n0 cs := ⟨by omega, .inr ⟨g0, n0, cs.toArray, rfl, Nat.zero_le _, hb, Nat.le_refl _, by unfold maxLen; omega, by simp [hn0], by simp [← hn0]⟩⟩
  rcases hsrc with ⟨rfl, rfl, rfl⟩ | ⟨ad, rfl, hsrc⟩
  · obtain rfl : m = 0 := by simpa using hm.symm
    refine wpList_appNil hgd s x _ ho 5 (.int .u8 0) 1 1 Tryz.underlying23 infoByte 0 _ n0 cs hs hown hx ?_
    exact h g0 n0 w (by show World.ownsRow _ _ _ _ _ _ _; simpa using hown) (Chg.refl _ _) (.inl rfl)
  · refine wpList_app hgd s x _ ho 5 (.int .u8 0) 1 1 Tryz.underlying23 infoByte rfl (by decide) 0 _ n0 cs hs hown ad m c news hx (by omega) hsrc h1 (by unfold maxLen; omega) (by omega) (Nat.zero_le _) (.inl (by simp)) ?_
    intro g' cap' w' h1 h2 h3
    exact h g' cap' w' h1 (h2.out.mono fun b _ e => by simpa [Value.ownBlock, eq_comm] using e) (by rcases h3.out with e | e; exact .inl (by simpa [Value.ownBlock, eq_comm] using e); exact .inr e)
end

set_option maxHeartbeats 400000 in
theorem hentry_any (v : Value) (key : List UInt8) (p s : Nat) (w : World) (hs : BytesV w v key) (hl : key.length ≤ 1000000) (hp : p < 65536) (hsl : s < 65536) :
    Calls Tryz.prog 43 #[v, .agg #[.int .i64 p, .int .i64 s]] w fun e w' => ∃ v', e = .returned v' ∧ SlN w' w.heap.size v' (entB key (p, s)) ∧ Fresh w w' := by
  have HS := Lib.hid hs
  have e1 : Hid ((.int .u8 ((p : Int) % 256) : Value) = B (lowB p)) := (lowB_val p).symm
  have e2 : Hid ((.int .u8 ((p : Int) / 256) : Value) = B (lowB ((p : Int) / 256))) := by
    show _ = _; rw [lowB_val, show ((p : Int) / 256) % 256 = (p : Int) / 256 by omega]
  have e3 : Hid ((.int .u8 ((s : Int) % 256) : Value) = B (lowB s)) := (lowB_val s).symm
  have e4 : Hid ((.int .u8 ((s : Int) / 256) : Value) = B (lowB ((s : Int) / 256))) := by
    show _ = _; rw [lowB_val, show ((s : Int) / 256) % 256 = (s : Int) / 256 by omega]
  have HVAL : Hid ([Value.int .u8 ((p : Int) % 256), .int .u8 ((p : Int) / 256), .int .u8 ((s : Int) % 256), .int .u8 ((s : Int) / 256)] ++ bvals key = bvals (entB key (p, s))) := by
    show _ = _
    rw [e1.out, e2.out, e3.out, e4.out]; rfl
  clear hs e1 e2 e3 e4
  have main : ∀ (a : Option Addr) (cap : Nat), v = .slice a key.length cap → ((a = none ∧ cap = 0 ∧ key = []) ∨ ∃ ad, a = some ad ∧ ∀ (j : Nat) (u : Value), (bvals key)[j]? = some u → w.cell? (ad.add j) = some u) →
      Calls Tryz.prog 43 #[v, .agg #[.int .i64 p, .int .i64 s]] w fun e w' => ∃ v', e = .returned v' ∧ SlN w' w.heap.size v' (entB key (p, s)) ∧ Fresh w w' := by
    rintro a cap rfl hcase
    have HCS := Lib.hid hcase
    clear hcase
    go_enter Tryz.func43, Tryz.ntmps43
    go_wp2_with (first
      | (refine wpList_boxA rfl 45 _ rfl [.int .i64 p, .int .i64 s] rfl ?_
         intro w1 HB1 HF1 HS1
         have c1 := cells2 HB1.out)
      | (refine wpList_appB rfl _ _ rfl w1.heap.size rfl (Blk.newA w1 5 _ rfl) rfl (bvals key) key.length (by simp) bvals_one (by omega) rfl (by
          rcases HCS.out with ⟨h1, h0, h2⟩ | ⟨ad, h1, h2⟩
          · exact .inl ⟨h1, h0, by rw [h2]; rfl⟩
          · exact .inr ⟨ad, h1, fun j u hj => ((HF1.out.alloc _).cell (h2 j u hj) id)⟩) ?_
         intro g' cap' w3 HO3 HC3 HG3))
    go_ret
    have hfin : Fresh w w3 := (HF1.out.alloc _).trans HC3.out (fun k hk e => by have := HF1.out.size; omega)
    have ho := HO3.out
    rw [HVAL.out] at ho
    refine ⟨_, rfl, ⟨g', owns_slB ho (by simp; omega), ?_⟩, hfin⟩
    have h1 := HG3.out
    have h2 := HF1.out.size
    rcases h1 with h1 | h1
    · omega
    · simp at h1; omega
  rcases HS.out with ⟨hv, hk⟩ | ⟨ad, c, hv, hr⟩
  · exact main none 0 (by rw [hv, hk]; rfl) (.inl ⟨rfl, rfl, hk⟩)
  · exact main (some ad) c hv (.inr ⟨ad, rfl, hr⟩)
end Go.Proofs.YtnmjkgnahhbnoaaGreat

/- Walks of package hash: page, open, count. -/
namespace Go.Proofs.YtnmjkgnahhbnoaaGreat
open Go.RowKit
set_option linter.unusedSimpArgs false

theorem infoIdx : (Tryz.prog.info? 65).map (·.size) = some 2 := by kernel_rfl
theorem SlB.shape {w : World} {v : Value} {b : Nat} {l : List UInt8} (h : SlB w v b l) : ∃ o cap, v = .slice (some ⟨b, o, none⟩) l.length cap := by
  obtain ⟨o, cap, _, hv, _⟩ := h; exact ⟨o, cap, hv⟩

set_option maxHeartbeats 400000 in
theorem hpage_any (b base k p : Nat) (sv : Value) (E : List Ent) (rid : Nat × Nat) (w : World) (hE : EntsS w base sv E) (hk : E[k + 1]? = some (rid, num3 p)) (hp : p < 16777216) (hl : E.length ≤ 1000000) :
    Calls Tryz.prog 27 #[.agg #[.pointer (some ⟨b, 0, none⟩), sv], .int .i64 k] w fun e w' => e = .returned (.int .i64 p) ∧ Fresh w w' := by
  obtain ⟨g, cap, vx, bx, rfl, hbg, c0, c1, c2, hx, hbx⟩ := hE.cells hk
  obtain ⟨ox, cx, rfl⟩ := hx.shape
  have HX := Lib.hid hx
  have C2 := Lib.hid c2
  have hlt : k + 1 < E.length := (List.getElem?_eq_some_iff.1 hk).1
  have hn3 : (num3 p).length = 3 := rfl
  rw [hn3] at C2 HX
  clear hE hk hx c0 c1 c2 hn3
  go_enter Tryz.func27, Tryz.ntmps27
  go_wp2_with (
    refine wpList_boxA rfl 65 _ rfl [.pointer (some ⟨b, 0, none⟩), .slice (some ⟨g, 0, none⟩) E.length cap] rfl ?_
    intro w1 HB1 HF1 HS1
    have c1 := cells2 HB1.out
    have c2 := HF1.out.cell C2.out id)
  refine (hnum_any bx ox cx p w1 hp (HX.out.chg HF1.out id)).mono ?_
  rintro e w2 ⟨rfl, hf2⟩
  have HF2 := Lib.hid (HF1.out.trans hf2 (fun _ _ f => f))
  clear hf2
  go_wp2
  go_ret
  exact ⟨rfl, HF2.out⟩

set_option maxHeartbeats 400000 in
theorem hopen_any {b N : Nat} {T : Nat → Bool} {V : Nat → Option (List UInt8)} {F : Nat → Prop} {L : List (Nat × Rs)} (w : World) (h : BatchV w b N T V F) (hV : HeapV V N L) (hl : 2 ≤ (entsL L).length) :
    Calls Tryz.prog 25 #[.pointer (some ⟨b, 0, none⟩), .int .i64 (nextAt L 0 : Nat)] w fun e w' => ∃ sv, e = .returned (.tuple #[.agg #[.pointer (some ⟨b, 0, none⟩), sv], .int .i64 0]) ∧ EntsS w' w.heap.size sv (entsL L) ∧ Fresh w w' := by
  have H := Lib.hid h
  have HV := Lib.hid hV
  have hl2 : decide (((entsL L).length : Int) < 2) = false := by simp; omega
  clear h hV
  go_enter Tryz.func25, Tryz.ntmps25
  go_wp2_with (
    refine wpList_allocA rfl 65 rfl [.pointer none, .slice none 0 0] Tryz.zeroValue65 ?_
    intro w1 HB1 HF1 HS1)
  refine (hscan_any w1 (H.out.fresh HF1.out) HV.out).mono ?_
  rintro e w2 ⟨sv, rfl, hes, hf2⟩
  have HE := Lib.hid hes
  have HB2 := Lib.hid (HB1.out.chg hf2 id)
  have HF2 := Lib.hid (HF1.out.trans hf2 (fun _ _ f => f))
  obtain ⟨a, cap, rfl⟩ := hes.slice
  clear hes hf2 HB1 HF1
  generalize hE : entsL L = E at *
  have HEE := Lib.hid hE
  clear hE
  go_wp2_with (
    refine wpList_storeA rfl 65 _ _ rfl w.heap.size 0 rfl [.pointer (some ⟨b, 0, none⟩), .slice a E.length cap] rfl _ _ HB2.out infoIdx (by simp) (by simp [Value.oneCell']) ?_
    intro w3 HB3 HC3)
  refine bodyPost_ret (results_cell_t Tryz.results25 _ _ w.heap.size 65 [.pointer (some ⟨b, 0, none⟩), .slice a E.length cap] _ rfl HB3.out Tryz.underlying65 rfl infoIdx) rfl ?_
  have hs1 : w1.heap.size = w.heap.size + 1 := HS1.out
  rw [HEE.out]
  have h1 : EntsS w3 w1.heap.size (.slice a E.length cap) E := HE.out.chg HC3.out (fun k hk => by have : k = w.heap.size := hk; omega)
  exact ⟨_, rfl, h1.base_le (by omega), HF2.out.trans HC3.out (fun k hk e => by omega)⟩
end Go.Proofs.YtnmjkgnahhbnoaaGreat
