/- Part 11 of the walks that the laws of package hash share (HeapFn, HeapA, Reg, HeapB). -/
import Derived.Test.YtnmjkgnahhbnoaaGreatM10
import Derived.Test.YtnmjkgnahhbnoaaGreatM01
import Derived.Deep.RegionHeld3
import Derived.RegionTactic
set_option linter.unusedVariables false
set_option linter.unusedSimpArgs false
/- The functions of package heap, in plain Lean: a heap's pages, its entries; what is put in, set, taken out. -/
namespace Go.Proofs.YtnmjkgnahhbnoaaGreat
set_option linter.unusedSimpArgs false

abbrev Rs := List (Option (List UInt8))
/-- A page's number, as bytes. -/
def numB (n : Nat) : List UInt8 := [lowB n, lowB ((n : Int) / 256)]
/-- A page of a heap: the next one's number, the records. -/
def hpage (next : Nat) (rs : Rs) : List UInt8 := madeF (lowB 1) (some (numB next) :: rs)
/-- Records that fit a heap's page. -/
def HFit (rs : Rs) : Prop := 6 + 4 * (trimF rs).length + endF rs ≤ 496

theorem trimF_some (x : List UInt8) (rs : Rs) : trimF (some x :: rs) = some x :: trimF rs := by
  show (match trimF rs, some x with
    | [], none => []
    | l, r => r :: l) = _
  cases trimF rs <;> rfl
theorem trimF_trim (rs : Rs) : trimF (trimF rs) = trimF rs := by
  induction rs with
  | nil => rfl
  | cons r rs ih =>
    have h0 : ∀ l : Rs, trimF l = l → trimF (match l, r with | [], none => [] | l, r => r :: l) = (match l, r with | [], none => [] | l, r => r :: l) := by
      intro l hl
      cases l with
      | nil => cases r <;> rfl
      | cons y l =>
        show trimF (r :: y :: l) = r :: y :: l
        show (match trimF (y :: l), r with | [], none => [] | l, r => r :: l) = _
        rw [hl]
    exact h0 (trimF rs) ih
theorem hpage_trim (next : Nat) (rs : Rs) : hpage next (trimF rs) = hpage next rs := by
  unfold hpage madeF
  rw [trimF_some, trimF_some, trimF_trim]
theorem HFit.trim {rs : Rs} (h : HFit rs) : HFit (trimF rs) := by
  unfold HFit at *; rw [trimF_trim, endF_trim]; exact h
theorem hpage_slots {next : Nat} {rs : Rs} (h : HFit rs) : slotsF (hpage next rs) = some (numB next) :: trimF rs ∧ byteAt (hpage next rs) 4 = 1 ∧ (hpage next rs).length = 512 := by
  unfold HFit at h
  have h1 : (trimF (some (numB next) :: rs)).length ≤ 124 := by rw [trimF_some]; simp; omega
  have h2 : 6 + 4 * (trimF (some (numB next) :: rs)).length + endF (some (numB next) :: rs) ≤ 512 := by
    rw [trimF_some]
    simp [endF, numB]; omega
  obtain ⟨h3, h4⟩ := slots_made (lowB 1) (some (numB next) :: rs) h1 h2
  refine ⟨by rw [hpage, h3, trimF_some], by rw [hpage, h4]; rfl, ?_⟩
  refine madeF_length _ _ ?_
  simp [endF, numB]; omega
theorem hpage_kind {next : Nat} {rs : Rs} (h : HFit rs) : (hpage next rs).getD 4 0 = lowB 1 := by
  have h1 := (hpage_slots (next := next) h).2.1
  unfold byteAt at h1
  apply UInt8.toNat_inj.1
  rw [h1]; rfl
theorem trim_getD (rs : Rs) (i : Nat) : ((trimF rs)[i]?).getD none = (rs[i]?).getD none := by
  induction rs generalizing i with
  | nil => rfl
  | cons r rs ih =>
    simp only [trimF]
    split
    · rename_i h
      cases i with
      | zero => rfl
      | succ i => have := ih i; rw [h] at this; simpa using this
    · cases i with
      | zero => rfl
      | succ i => simpa using ih i
theorem hget0 {next : Nat} {rs : Rs} (h : HFit rs) : getF (hpage next rs) 0 = some (numB next) := by
  rw [getF, (hpage_slots h).1]; rfl
theorem hgetS {next : Nat} {rs : Rs} (h : HFit rs) (i : Nat) : getF (hpage next rs) (i + 1) = (rs[i]?).getD none := by
  rw [getF, (hpage_slots h).1, List.getElem?_cons_succ, trim_getD]
theorem hnslots {next : Nat} {rs : Rs} (h : HFit rs) : nslots (hpage next rs) = (trimF rs).length + 1 := by
  rw [← slotsF_length, (hpage_slots h).1]; rfl
theorem numB_length (n : Nat) : (numB n).length = 2 := rfl
theorem HFit.nil : HFit [] := by simp [HFit, trimF, endF]

/-- A record put into a page's records, if it fits. -/
def haddF (rs : Rs) (r : List UInt8) : Option Rs :=
  if 400 < r.length ∨ 490 < costF (setF (trimF rs) (freeF (trimF rs)) r) then none else some (setF (trimF rs) (freeF (trimF rs)) r)
theorem free_some (x : List UInt8) (rs : Rs) : freeF (some x :: rs) = freeF rs + 1 := rfl
theorem setF_cons (x : Option (List UInt8)) (rs : Rs) (k : Nat) (r : List UInt8) : setF (x :: rs) (k + 1) r = x :: setF rs k r := by
  unfold setF
  simp only [List.length_cons, Nat.add_right_cancel_iff]
  split <;> rfl
theorem cost_cons (n : Nat) (rs : Rs) : costF (some (numB n) :: rs) = costF rs + 6 := by
  simp [costF, endF, numB]; omega
theorem haddF_fit {rs rs' : Rs} {r : List UInt8} (h : haddF rs r = some rs') : HFit rs' := by
  unfold haddF at h
  split at h
  · cases h
  · rename_i hc
    cases h
    unfold HFit
    have := trim_length (setF (trimF rs) (freeF (trimF rs)) r)
    unfold costF at hc
    omega
theorem addF_hpage {next : Nat} {rs : Rs} (r : List UInt8) (h : HFit rs) : addF (hpage next rs) r = (haddF rs r).map (hpage next) ∧ freeF (slotsF (hpage next rs)) = freeF (trimF rs) + 1 := by
  have hs := (hpage_slots (next := next) h).1
  refine ⟨?_, by rw [hs, free_some]⟩
  unfold addF putF haddF
  rw [hs, free_some, setF_cons, cost_cons, hpage_kind h]
  by_cases hc : 400 < r.length ∨ 490 < costF (setF (trimF rs) (freeF (trimF rs)) r)
  · rw [if_pos hc, if_pos (by omega)]; rfl
  · rw [if_neg hc, if_neg (by omega)]; rfl
/-- A small record always goes into an empty page. -/
theorem haddF_nil {r : List UInt8} (h : r.length ≤ 400) : haddF [] r = some [some r] := by
  unfold haddF
  rw [if_neg]
  · rfl
  · simp [trimF, freeF, setF, costF, endF]; omega
theorem setpF_next {next m : Nat} {rs : Rs} (h : HFit rs) : setpF (hpage next rs) 0 (numB m) = some (hpage m rs) := by
  unfold setpF
  rw [hget0 h, if_pos (by rfl), hpage_kind h, (hpage_slots h).1]
  unfold putF
  have he : setF (some (numB next) :: trimF rs) 0 (numB m) = some (numB m) :: trimF rs := by simp [setF]
  rw [he, cost_cons, if_neg]
  · show some (hpage m (trimF rs)) = _
    rw [hpage_trim]
  · rw [numB_length]
    unfold HFit at h; unfold costF; rw [endF_trim]; omega
theorem endF_set_le (rs : Rs) (k : Nat) (x r : List UInt8) (h : rs[k]? = some (some x)) : endF (rs.set k (some r)) + x.length = endF rs + r.length := by
  induction rs generalizing k with
  | nil => simp at h
  | cons y rs ih =>
    cases k with
    | zero =>
      simp only [List.getElem?_cons_zero, Option.some.injEq] at h
      subst h; simp [endF]; omega
    | succ k =>
      simp only [List.getElem?_cons_succ] at h
      have := ih k h
      cases y <;> simp [endF] <;> omega
theorem trim_get_some {rs : Rs} {i : Nat} {x : List UInt8} (h : rs[i]? = some (some x)) : (trimF rs)[i]? = some (some x) := by
  have h1 := trim_getD rs i
  rw [h] at h1
  cases h2 : (trimF rs)[i]? with
  | none => rw [h2] at h1; cases h1
  | some y => rw [h2] at h1; simp at h1; rw [h1]
theorem setpF_hpage {next i : Nat} {rs : Rs} {x r : List UInt8} (h : HFit rs) (hx : rs[i]? = some (some x)) (hr : r.length ≤ x.length) (hr4 : r.length ≤ 400) :
    setpF (hpage next rs) (i + 1) r = some (hpage next ((trimF rs).set i (some r))) ∧ HFit ((trimF rs).set i (some r)) := by
  have ht := trim_get_some hx
  have hlt : i < (trimF rs).length := (List.getElem?_eq_some_iff.1 ht).1
  have he := endF_set_le _ _ _ r ht
  rw [endF_trim] at he
  have hl := trim_length ((trimF rs).set i (some r))
  rw [List.length_set] at hl
  unfold HFit at h
  refine ⟨?_, by unfold HFit; omega⟩
  unfold setpF
  rw [hgetS h, hx, Option.getD_some, if_pos (by rfl), hpage_kind h, (hpage_slots h).1]
  unfold putF
  have hset : setF (trimF rs) i r = (trimF rs).set i (some r) := by unfold setF; rw [if_neg (by omega)]
  rw [setF_cons, hset, cost_cons, if_neg]
  · rfl
  · unfold costF; rw [List.length_set]; omega
theorem dropF_hpage {next i : Nat} {rs : Rs} {x : List UInt8} (h : HFit rs) (hx : rs[i]? = some (some x)) :
    dropF (hpage next rs) (i + 1) = some (hpage next ((trimF rs).set i none)) ∧ HFit ((trimF rs).set i none) := by
  have he := endF_setNone (trimF rs) i
  rw [endF_trim] at he
  have hl := trim_length ((trimF rs).set i none)
  rw [List.length_set] at hl
  unfold HFit at h
  refine ⟨?_, by unfold HFit; omega⟩
  unfold dropF
  rw [hgetS h, hx, Option.getD_some, if_pos (by rfl), hpage_kind h, (hpage_slots h).1]
  show (if 496 < costF (some (numB next) :: (trimF rs).set i none) then none else some (hpage next ((trimF rs).set i none))) = _
  rw [cost_cons, if_neg]
  unfold costF; rw [List.length_set]; omega

/-- The entries of a page, from slot i on. -/
def entsFrom (m : Nat) : Nat → Rs → List ((Nat × Nat) × List UInt8)
  | _, [] => []
  | i, none :: rs => entsFrom m (i + 1) rs
  | i, some r :: rs => ((m, i), r) :: entsFrom m (i + 1) rs
/-- The entries of a page. -/
def ents (m : Nat) (rs : Rs) : List ((Nat × Nat) × List UInt8) := entsFrom m 1 rs
/-- The entries of a heap. -/
def entsL (L : List (Nat × Rs)) : List ((Nat × Nat) × List UInt8) := L.flatMap fun x => ents x.1 x.2
theorem entsL_cons (x : Nat × Rs) (L : List (Nat × Rs)) : entsL (x :: L) = ents x.1 x.2 ++ entsL L := rfl
theorem entsFrom_trim (m i : Nat) (rs : Rs) : entsFrom m i (trimF rs) = entsFrom m i rs := by
  induction rs generalizing i with
  | nil => rfl
  | cons r rs ih =>
    have h0 : ∀ l : Rs, entsFrom m i (match l, r with | [], none => [] | l, r => r :: l) = entsFrom m i (r :: l) := by
      intro l
      cases l <;> cases r <;> rfl
    refine (h0 (trimF rs)).trans ?_
    cases r <;> simp [entsFrom, ih (i + 1)]
theorem ents_trim (m : Nat) (rs : Rs) : ents m (trimF rs) = ents m rs := entsFrom_trim m 1 rs
theorem entsFrom_free (m i : Nat) (rs : Rs) (r : List UInt8) : (entsFrom m i (setF rs (freeF rs) r)).Perm (((m, i + freeF rs), r) :: entsFrom m i rs) := by
  induction rs generalizing i with
  | nil => exact .refl _
  | cons x rs ih =>
    cases x with
    | none => exact .refl _
    | some x =>
      rw [free_some, setF_cons]
      simp only [entsFrom]
      refine ((ih (i + 1)).cons _).trans ?_
      rw [show i + 1 + freeF rs = i + (freeF rs + 1) by omega]
      exact .swap _ _ _
theorem haddF_perm {m : Nat} {rs rs' : Rs} {r : List UInt8} (h : haddF rs r = some rs') : (ents m rs').Perm (((m, freeF (trimF rs) + 1), r) :: ents m rs) := by
  unfold haddF at h
  split at h
  · cases h
  · cases h
    have := entsFrom_free m 1 (trimF rs) r
    rw [entsFrom_trim, Nat.add_comm] at this
    exact this
theorem entsFrom_drop {m i k : Nat} {rs : Rs} {x : List UInt8} (h : rs[k]? = some (some x)) : (entsFrom m i rs).Perm (((m, i + k), x) :: entsFrom m i (rs.set k none)) := by
  induction rs generalizing i k with
  | nil => simp at h
  | cons y rs ih =>
    cases k with
    | zero =>
      simp only [List.getElem?_cons_zero, Option.some.injEq] at h
      subst h; exact .refl _
    | succ k =>
      simp only [List.getElem?_cons_succ] at h
      have h1 := ih (i := i + 1) h
      rw [show i + 1 + k = i + (k + 1) by omega] at h1
      cases y with
      | none => exact h1
      | some y => exact (h1.cons _).trans (.swap _ _ _)
theorem entsFrom_set {m i k : Nat} {rs : Rs} {x r : List UInt8} (h : rs[k]? = some (some x)) : (entsFrom m i (rs.set k (some r))).Perm (((m, i + k), r) :: entsFrom m i (rs.set k none)) := by
  have hlt : k < rs.length := (List.getElem?_eq_some_iff.1 h).1
  have h1 : (rs.set k (some r))[k]? = some (some r) := by rw [List.getElem?_set_self hlt]
  have := entsFrom_drop (m := m) (i := i) h1
  rwa [List.set_set] at this
theorem ents_drop {m k : Nat} {rs : Rs} {x : List UInt8} (h : rs[k]? = some (some x)) : (ents m rs).Perm (((m, k + 1), x) :: ents m ((trimF rs).set k none)) := by
  have := entsFrom_drop (m := m) (i := 1) (trim_get_some h)
  rw [entsFrom_trim, Nat.add_comm] at this
  exact this
theorem ents_set {m k : Nat} {rs : Rs} {x r : List UInt8} (h : rs[k]? = some (some x)) : (ents m ((trimF rs).set k (some r))).Perm (((m, k + 1), r) :: ents m ((trimF rs).set k none)) := by
  have := entsFrom_set (m := m) (i := 1) (r := r) (trim_get_some h)
  rwa [Nat.add_comm] at this
theorem entsFrom_mem {m i : Nat} {rs : Rs} {e : (Nat × Nat) × List UInt8} (h : e ∈ entsFrom m i rs) : e.1.1 = m ∧ ∃ k, e.1.2 = i + k ∧ rs[k]? = some (some e.2) := by
  induction rs generalizing i with
  | nil => simp [entsFrom] at h
  | cons y rs ih =>
    cases y with
    | none =>
      obtain ⟨h1, k, h2, h3⟩ := ih h
      exact ⟨h1, k + 1, by omega, h3⟩
    | some y =>
      simp only [entsFrom, List.mem_cons] at h
      rcases h with rfl | h
      · exact ⟨rfl, 0, rfl, rfl⟩
      · obtain ⟨h1, k, h2, h3⟩ := ih h
        exact ⟨h1, k + 1, by omega, h3⟩
theorem ents_mem {m : Nat} {rs : Rs} {e : (Nat × Nat) × List UInt8} (h : e ∈ ents m rs) : e.1.1 = m ∧ ∃ k, e.1.2 = k + 1 ∧ rs[k]? = some (some e.2) := by
  obtain ⟨h1, k, h2, h3⟩ := entsFrom_mem h
  exact ⟨h1, k, by omega, h3⟩
end Go.Proofs.YtnmjkgnahhbnoaaGreat

/- Walks of package heap: number, Make. -/
namespace Go.Proofs.YtnmjkgnahhbnoaaGreat
open Go.RowKit
set_option linter.unusedSimpArgs false

set_option maxHeartbeats 400000 in
theorem hnumber_any (n : Nat) (w : World) (hn : n ≤ 65535) :
    Calls Tryz.prog 75 #[.int .i64 n] w fun e w' => e = .returned (.slice (some ⟨w.heap.size, 0, none⟩) 2 2) ∧ Blk w' w.heap.size 5 (bvals (numB n)) ∧ Fresh w w' := by
  go_enter Tryz.func75, Tryz.ntmps75
  go_wp2
  go_ret
  refine ⟨rfl, ?_, (Chg.refl _ w).alloc _⟩
  have h1 : bvals (numB n) = [.int .u8 ((n : Int) % 256), .int .u8 ((n : Int) / 256)] := by
    show [B (lowB n), B (lowB ((n : Int) / 256))] = _
    rw [lowB_val, lowB_val, show ((n : Int) / 256) % 256 = (n : Int) / 256 by omega]
  rw [h1]
  exact Blk.newA w 5 #[.int .u8 ((n : Int) % 256), .int .u8 ((n : Int) / 256)] rfl

theorem hpage0 : addF (madeF (lowB 1) []) (numB 0) = some (hpage 0 []) := by
  obtain ⟨hs, hl⟩ := made_empty (lowB 1)
  unfold addF
  rw [hs, made_getD4 (lowB 1) [] (by simp [trimF]) (by simp [trimF, endF])]
  unfold putF
  rw [if_neg]
  · rfl
  · simp [setF, freeF, costF, endF, numB]
theorem vput_vput (V : Nat → Option (List UInt8)) (n : Nat) (x y : List UInt8) : vput (vput V n x) n y = vput V n y := by
  funext k; unfold vput; split <;> rfl
theorem BatchTo.trans {w w1 w2 : World} {b N : Nat} {T' : Nat → Bool} {V' : Nat → Option (List UInt8)} {F F1 : Nat → Prop} (h1 : ∀ k, F1 k → F k ∨ w.heap.size ≤ k) (hc : Chg F w w1) (h2 : BatchTo w1 w2 b N T' V' F1) : BatchTo w w2 b N T' V' F := by
  obtain ⟨F2, hb, hs, hc2⟩ := h2
  refine ⟨F2, hb, fun k hk => ?_, hc.trans hc2 (fun k hk h => ?_)⟩
  · rcases hs k hk with h | h
    · exact h1 k h
    · exact .inr (Nat.le_trans hc.size h)
  · rcases h1 k h with h | h
    · exact h
    · omega

set_option maxRecDepth 100000 in
set_option maxHeartbeats 1000000 in
theorem hmake_any {b N n0 : Nat} {T : Nat → Bool} {V : Nat → Option (List UInt8)} {F : Nat → Prop} (w : World) (h : BatchV w b N T V F) (hn : n0 < N) (hfree : T n0 = false) (hlow : ∀ k, k < n0 → T k = true) :
    Calls Tryz.prog 39 #[.pointer (some ⟨b, 0, none⟩)] w fun e w' => e = .returned (.tuple #[.int .i64 n0, .int .i64 0]) ∧ BatchTo w w' b N (tput T n0 true) (vput V n0 (hpage 0 [])) F := by
  have H := Lib.hid h
  have HLO := Lib.hid hlow
  have HFR := Lib.hid hfree
  clear h hlow hfree
  go_enter Tryz.func39, Tryz.ntmps39
  go_wp2_with fail
  refine (bv_alloc (kind := 1) H.out (by omega) hn HFR.out HLO.out).mono ?_
  rintro e w1 ⟨rfl, ⟨F1, hb1, hs1, hc1⟩, hn1⟩
  have HB1 := Lib.hid hb1
  have HS1 := Lib.hid hs1
  have HC1 := Lib.hid hc1
  clear hb1 hs1 hc1
  go_wp2_with fail
  refine (new_any 1 _ (by omega) (by omega)).mono ?_
  rintro e w2 ⟨rfl, hf2⟩
  have HB2 := Lib.hid (HB1.out.fresh hf2)
  have HF2 := Lib.hid hf2
  clear hf2
  go_wp2_with fail
  refine (hnumber_any 0 _ (by omega)).mono ?_
  rintro e w3 ⟨rfl, hb3, hf3⟩
  have HB3 := Lib.hid (HB2.out.fresh hf3)
  have HF3 := Lib.hid (HF2.out.trans hf3 (fun _ _ f => f))
  have HN3 := Lib.hid hb3
  clear hb3 hf3
  have HPL : Hid ((madeF (lowB 1) []).length = 512) := (made_empty _).2
  go_wp2_with fail
  refine (add_any (madeF (lowB 1) []) _ (numB 0) w3 HPL.out (HN3.out.bytesS 2 rfl 2) (by simp [numB])).mono ?_
  intro e w4 h4
  obtain ⟨⟨i4, k4, rfl⟩, hf4⟩ := h4.tuple
  rw [hpage0]
  have HB4 := Lib.hid (HB3.out.fresh hf4)
  have HF4 := Lib.hid (HF3.out.trans hf4 (fun _ _ f => f))
  have HHP : Hid ((hpage 0 []).length = 512) := madeF_length _ _ (by simp [endF, numB])
  clear h4 hf4
  show _
  generalize hhp : hpage 0 [] = hp at *
  have HPE := Lib.hid hhp
  clear hhp
  simp only [Option.getD_some]
  go_wp2_with (first
    | (refine wpList_allocA rfl 111 rfl (bvals zpage) Tryz.zeroValue111 ?_
       intro w5 HB5 HF5 HS5)
    | (refine wpList_storeA rfl 111 _ _ rfl w4.heap.size 0 rfl (bvals hp) rfl _ _ HB5.out (infoPage' HHP.out) (by simp [HHP.out]) bvals_one ?_
       intro w6 HB6 HC6
       have hb6 := HB6.out
       rw [over_all _ _ (by simp [HHP.out])] at hb6
       have HP6 := Lib.hid hb6
       clear hb6)
    | (refine wpList_loadA rfl 111 _ rfl w4.heap.size 0 rfl _ _ HP6.out 512 (bvals hp) (take_all _ _ (by simp [HHP.out])) _ Tryz.underlying111 rfl infoPage (by simp [HHP.out]) ?_))
  have hf46 : Fresh w4 w6 := HF5.out.trans HC6.out (fun q hq e => by omega)
  refine (bv_write (HB4.out.fresh hf46) ⟨hn1, hn⟩ HHP.out).mono ?_
  rintro e w7 ⟨rfl, h7⟩
  have H7 := Lib.hid h7
  have HF6 := Lib.hid (HF4.out.trans hf46 (fun _ _ f => f))
  clear h7 hf46
  go_wp2
  go_ret2
  have h8 := H7.out
  rw [vput_vput] at h8
  rw [HPE.out]
  exact ⟨rfl, BatchTo.trans HS1.out (HC1.out.trans HF6.out.fresh (fun _ _ h => h)) h8⟩
end Go.Proofs.YtnmjkgnahhbnoaaGreat

/- Regions that draw their order, operation by operation: the operations given as a list, so that each is laid out as it stands. -/
namespace Go.Proofs.YtnmjkgnahhbnoaaGreat
open Go.RowKit

section
variable {Pr : Program} {L : List Oper} {Q : Exit → Act → World → Prop} {md : Region.Mode} {S : World → Prop}
/-- An operation taken first. -/
theorem takeL (i : Nat) (v : Value) {oi : Oper} {fuel : Nat} {listed : Array Bool} {a : Act} {w : World} (hi : L[i]? = some oi)
    (hs : Region.noSelect L.toArray = true) (hf : Region.free md L.toArray listed i = true) (hr : (Region.ready md L.toArray listed).contains i = true)
    (hQ : ∀ c a w, Q (.panic c) (a.put oi.dst v) w → Q (.panic c) a w) (hy : YieldsIf Pr L.toArray S oi v a) (hS : S w)
    (h : wpAnyH Pr md L.toArray Q S fuel (listed.setIfInBounds i true) (a.put oi.dst v) w) : wpAnyH Pr md L.toArray Q S (fuel + 1) listed a w :=
  wpAnyH_take (by simpa using hi) hs hf hr hQ hy hS h
/-- One operation alone may come up. -/
theorem oneL (i : Nat) {o : Oper} {fuel : Nat} {listed : Array Bool} {a : Act} {w : World} (ho : L[i]? = some o) (hr : Region.ready md L.toArray listed = [i]) (hw : Region.wanted o (yielded L.toArray a.tmps) = true)
    (h : ∀ K' : Act → World → Prop, Shut (∀ a w, S w → (S w → wpAnyH Pr md L.toArray Q S fuel (listed.setIfInBounds i true) a w) → K' a w) → Oper.wp Pr o a w K' Q) :
    wpAnyH Pr md L.toArray Q S (fuel + 1) listed a w :=
  wpAnyH_ready hr (by simp) (AllReadyH.cons (o := o) (by simpa using ho) (fun K' hK => by rw [if_pos hw]; exact h K' hK) AllReadyH.nil)
/-- Two operations may come up. -/
theorem twoL (i j : Nat) {o o2 : Oper} {fuel : Nat} {listed : Array Bool} {a : Act} {w : World} (ho : L[i]? = some o) (ho2 : L[j]? = some o2) (hr : Region.ready md L.toArray listed = [i, j])
    (hw : Region.wanted o (yielded L.toArray a.tmps) = true) (hw2 : Region.wanted o2 (yielded L.toArray a.tmps) = true)
    (h : ∀ K' : Act → World → Prop, Shut (∀ a w, S w → (S w → wpAnyH Pr md L.toArray Q S fuel (listed.setIfInBounds i true) a w) → K' a w) → Oper.wp Pr o a w K' Q)
    (h2 : ∀ K' : Act → World → Prop, Shut (∀ a w, S w → (S w → wpAnyH Pr md L.toArray Q S fuel (listed.setIfInBounds j true) a w) → K' a w) → Oper.wp Pr o2 a w K' Q) :
    wpAnyH Pr md L.toArray Q S (fuel + 1) listed a w :=
  wpAnyH_ready hr (by simp) (AllReadyH.cons (o := o) (by simpa using ho) (fun K' hK => by rw [if_pos hw]; exact h K' hK) (AllReadyH.cons (o := o2) (by simpa using ho2) (fun K' hK => by rw [if_pos hw2]; exact h2 K' hK) AllReadyH.nil))
/-- The same without a condition that stays. -/
theorem takeA (i : Nat) (v : Value) {oi : Oper} {fuel : Nat} {listed : Array Bool} {a : Act} {w : World} (hi : L[i]? = some oi)
    (hs : Region.noSelect L.toArray = true) (hf : Region.free md L.toArray listed i = true) (hr : (Region.ready md L.toArray listed).contains i = true)
    (hQ : ∀ c a w, Q (.panic c) (a.put oi.dst v) w → Q (.panic c) a w) (hy : Yields Pr L.toArray oi v a)
    (h : wpAny Pr md L.toArray Q fuel (listed.setIfInBounds i true) (a.put oi.dst v) w) : wpAny Pr md L.toArray Q (fuel + 1) listed a w :=
  wpAny_take (by simpa using hi) hs hf hr hQ hy h
theorem oneA (i : Nat) {o : Oper} {fuel : Nat} {listed : Array Bool} {a : Act} {w : World} (ho : L[i]? = some o) (hr : Region.ready md L.toArray listed = [i]) (hw : Region.wanted o (yielded L.toArray a.tmps) = true)
    (h : ∀ K' : Act → World → Prop, Shut (∀ a w, wpAny Pr md L.toArray Q fuel (listed.setIfInBounds i true) a w → K' a w) → Oper.wp Pr o a w K' Q) :
    wpAny Pr md L.toArray Q (fuel + 1) listed a w :=
  wpAny_ready hr (by simp) (AllReady.cons (o := o) (by simpa using ho) (fun K' hK => by rw [if_pos hw]; exact h K' hK) AllReady.nil)
theorem twoA (i j : Nat) {o o2 : Oper} {fuel : Nat} {listed : Array Bool} {a : Act} {w : World} (ho : L[i]? = some o) (ho2 : L[j]? = some o2) (hr : Region.ready md L.toArray listed = [i, j])
    (hw : Region.wanted o (yielded L.toArray a.tmps) = true) (hw2 : Region.wanted o2 (yielded L.toArray a.tmps) = true)
    (h : ∀ K' : Act → World → Prop, Shut (∀ a w, wpAny Pr md L.toArray Q fuel (listed.setIfInBounds i true) a w → K' a w) → Oper.wp Pr o a w K' Q)
    (h2 : ∀ K' : Act → World → Prop, Shut (∀ a w, wpAny Pr md L.toArray Q fuel (listed.setIfInBounds j true) a w → K' a w) → Oper.wp Pr o2 a w K' Q) :
    wpAny Pr md L.toArray Q (fuel + 1) listed a w :=
  wpAny_ready hr (by simp) (AllReady.cons (o := o) (by simpa using ho) (fun K' hK => by rw [if_pos hw]; exact h K' hK) (AllReady.cons (o := o2) (by simpa using ho2) (fun K' hK => by rw [if_pos hw2]; exact h2 K' hK) AllReady.nil))
end
theorem wp_allocM {Pr : Program} {o : Oper} {a : Act} {w : World} {Q : Exit → Act → World → Prop} {K : Act → World → Prop} (ty : TypeId) (ho : o.op = .alloc ty) (vs : List Value) (hz : ∀ w, (zeroValue ty).run Pr w = .ok (.agg vs.toArray) w)
    (h : ∀ w', Hid (Blk w' w.heap.size ty vs) → Hid (Fresh w w') → Hid (w'.heap.size = w.heap.size + 1) → K (a.put o.dst (.pointer (some ⟨w.heap.size, 0, none⟩))) w') : o.wp Pr a w K Q := by
  replace h := h _ (Blk.new w ty vs) ((Chg.refl _ w).alloc _) (World.size_alloc _ _)
  unfold Oper.wp execOp
  simp only [ho, Instr.alloc, Sem.run_bind, hz, Result.andThen_ok, newVar, newRow, newObj, Value.cells]
  exact h
theorem wp_loadM {Pr : Program} {o : Oper} {a : Act} {w : World} {Q : Exit → Act → World → Prop} {K : Act → World → Prop} (ty : TypeId) (x : Operand) (ho : o.op = .load ty x)
    (b off : Nat) (hx : a.eval x = .pointer (some ⟨b, off, none⟩)) (e : TypeId) (cs : List Value) (hb : Blk w b e cs) (n : Nat) (vs : List Value) (hv : (cs.drop off).take n = vs)
    (d : TypeDesc) (hu : Pr.underlying ty = some d) (hd : d.isRow = true) (hi : (Pr.info? ty).map (·.size) = some n) (hn : off + n ≤ cs.length)
    (h : K (a.put o.dst (.agg vs.toArray)) w) : o.wp Pr a w K Q := by
  unfold Oper.wp execOp
  simp only [ho, hx, Instr.loadAt, Instr.sureAddr, Sem.run_bind, Sem.run_pure, Result.andThen_ok, run_loadVar_mid (P := Pr) w b off ty vs d (hb.range off n hv) hu hd (by rw [hi, ← hv]; congr 1; simp; omega)]
  exact h
end Go.Proofs.YtnmjkgnahhbnoaaGreat

/- Walks of package heap: read. -/
namespace Go.Proofs.YtnmjkgnahhbnoaaGreat
open Go.RowKit
set_option linter.unusedSimpArgs false

set_option maxRecDepth 100000 in
set_option maxHeartbeats 1000000 in
theorem hread_any {b N n next : Nat} {T : Nat → Bool} {V : Nat → Option (List UInt8)} {F : Nat → Prop} {rs : List (Option (List UInt8))} (w : World) (h : BatchV w b N T V F) (hn : 1 ≤ n) (hv : V n = some (hpage next rs)) (hf : HFit rs) (hx : next ≤ 65535) :
    Calls Tryz.prog 77 #[.pointer (some ⟨b, 0, none⟩), .int .i64 n] w fun e w' => e = .returned (.tuple #[aggB (hpage next rs), .int .i64 next, .int .i64 0]) ∧ Fresh w w' := by
  have H := Lib.hid h
  have HV := Lib.hid hv
  obtain ⟨hsl, hkd, hpl⟩ := hpage_slots (next := next) hf
  have HPL : Hid ((hpage next rs).length = 512) := hpl
  have HG : Hid (getF (hpage next rs) 0 = some (numB next)) := by show _ = _; rw [getF, hsl]; rfl
  have HK : Hid (byteAt (hpage next rs) 4 = 1) := hkd
  clear h hv hsl hkd hpl hf
  generalize hpage next rs = pg at *
  go_enter Tryz.func77, Tryz.ntmps77
  go_wp2_with (
    refine wpList_allocA rfl 111 rfl (bvals zpage) Tryz.zeroValue111 ?_
    intro w1 HB1 HF1 HS1)
  refine (bv_read (H.out.fresh HF1.out) hn HV.out).mono ?_
  rintro e w2 ⟨rfl, hf2⟩
  have HB2 := Lib.hid (HB1.out.chg hf2 id)
  have HF2 := Lib.hid (HF1.out.trans hf2 (fun _ _ f => f))
  clear hf2 HB1 HF1
  go_wp2_with (first
    | (refine wpList_loadA rfl 111 _ rfl w2.heap.size 0 rfl _ _ HP4.out 512 (bvals pg) (take_all _ _ (by simp [HPL.out])) _ Tryz.underlying111 rfl infoPage (by simp [HPL.out]) ?_)
    | (refine wpList_allocA rfl 111 rfl (bvals zpage) Tryz.zeroValue111 ?_
       intro w3 HB3 HF3 HS3)
    | (refine wpList_storeA rfl 111 _ _ rfl w2.heap.size 0 rfl (bvals pg) rfl _ _ HB3.out (infoPage' HPL.out) (by simp [HPL.out]) bvals_one ?_
       intro w4 HB4 HC4
       have hb4 := HB4.out
       rw [over_all _ _ (by simp [HPL.out])] at hb4
       have HP4 := Lib.hid hb4
       clear hb4))
  have hq0 := HB2.out.lt
  have hf24 : Fresh w2 w4 := HF3.out.trans HC4.out (fun q hq e => by omega)
  refine (get_any pg 0 w4 HPL.out (by omega)).mono ?_
  rw [HG.out]
  rintro e w5 ⟨v5, rfl, hr5, hf5⟩
  obtain ⟨bb, hsl⟩ := hr5
  have hsl' := hsl
  obtain ⟨o5, cap5, cur5, rfl, _⟩ := hsl'
  have HB5 := Lib.hid ((HB2.out.chg hf24 id).chg hf5 id)
  have HP5 := Lib.hid (HP4.out.chg hf5 id)
  have HF5 := Lib.hid ((HF2.out.trans hf24 (fun _ _ f => f)).trans hf5 (fun _ _ f => f))
  have HSL := Lib.hid hsl
  clear hf24 hf5 hsl HB2 HF2 HB3 HF3 HS3 HB4 HC4 HP4
  generalize w2.heap.size = q at *
  generalize hrr : w.heap.size = r at *
  have HRR := Lib.hid hrr
  clear hrr
  have hnl : (numB next).length = 2 := rfl
  rw [hnl]
  go_wp2_with (refine wpList_loadA rfl 111 _ rfl q 0 rfl _ _ HP5.out 512 (bvals pg) (take_all _ _ (by simp [HPL.out])) _ Tryz.underlying111 rfl infoPage (by simp [HPL.out]) ?_)
  refine (kind_any pg w5 HPL.out).mono ?_
  rw [HK.out]
  rintro e w6 ⟨rfl, hf6⟩
  have HB6 := Lib.hid (HB5.out.chg hf6 id)
  have HP6 := Lib.hid (HP5.out.chg hf6 id)
  have HF6 := Lib.hid (HF5.out.trans hf6 (fun _ _ f => f))
  have HSL6 := Lib.hid (HSL.out.chg hf6 id)
  clear hf6 HB5 HP5 HF5 HSL
  go_wp2_with fail
  have hby := HSL6.out.bytes.2.2
  have hbb : r ≠ bb := by
    rintro rfl
    obtain ⟨_, _, cur, _, hh, _⟩ := HSL6.out
    have := HB6.out
    rw [Blk, hh] at this; simp at this
  have hx0 := hby 0 (lowB next) rfl
  have hy0 := hby 1 (lowB ((next : Int) / 256)) rfl
  have hxy : (lowB next).toNat + 256 * (lowB ((next : Int) / 256)).toNat = next := by
    have e1 : ((lowB next).toNat : Int) = (next : Int) % 256 := by have := lowB_val next; simpa [B] using this
    have e2 : ((lowB ((next : Int) / 256)).toNat : Int) = ((next : Int) / 256) % 256 := by have := lowB_val ((next : Int) / 256); simpa [B] using this
    omega
  generalize lowB next = x at *
  generalize lowB ((next : Int) / 256) = y at *
  have hor := or_bytes x.toNat y.toNat x.toNat_lt (by have := y.toNat_lt; omega)
  rw [hxy] at hor
  have hxw : IntKind.i64.wrap (x.toNat : Int) = x.toNat := IntWalk.i64_in _ (by have := x.toNat_lt; omega)
  have hyw0 : IntKind.i64.wrap (y.toNat : Int) = y.toNat := IntWalk.i64_in _ (by have := y.toNat_lt; omega)
  have hyw : IntKind.i64.wrap ((y.toNat : Int) * 256) = (y.toNat : Int) * 256 := IntWalk.i64_in _ (by have := y.toNat_lt; omega)
  have hS0 : Blk w6.drew q 111 (bvals pg) ∧ w6.drew.cell? ⟨bb, o5, none⟩ = some (B x) ∧ w6.drew.cell? ⟨bb, o5 + 1, none⟩ = some (B y) := ⟨HP6.out.drew, hx0, hy0⟩
  have HB7 := Lib.hid HB6.out.drew
  have HF7 := Lib.hid HF6.out.drew
  clear hx0 hy0 hby HB6 HP6 HF6 HSL6
  refine wp_region_held_drew (S := fun W => Blk W q 111 (bvals pg) ∧ W.cell? ⟨bb, o5, none⟩ = some (B x) ∧ W.cell? ⟨bb, o5 + 1, none⟩ = some (B y)) (by kernel_rfl) hS0 (fun hHeld => ?_)
  clear hS0
  generalize w6.drew = w7 at *
  refine takeL 0 (aggB pg) rfl (by kernel_rfl) (by kernel_rfl) (by kernel_rfl) (fun _ _ _ h => h) (yieldsIf_load_mid (by rfl) _ _ rfl _ _ rfl _ _ (fun W h => h.1.range 0 512 (take_all _ _ (by simp [HPL.out]))) Tryz.underlying111 rfl (infoPage' HPL.out)) hHeld ?_
  try simp only [Act.put, List.setIfInBounds_toArray, List.set_cons_zero, List.set_cons_succ]
  refine takeL 1 (.slice (some ⟨bb, o5, none⟩) 2 cap5) rfl (by kernel_rfl) (by kernel_rfl) (by kernel_rfl) (fun _ _ _ h => h) (Or.inl ⟨by rfl, fun W hW => by rfl⟩) hHeld ?_
  try simp only [Act.put, List.setIfInBounds_toArray, List.set_cons_zero, List.set_cons_succ]
  refine takeL 2 (.pointer (some ⟨bb, o5, none⟩)) rfl (by kernel_rfl) (by kernel_rfl) (by kernel_rfl) (fun _ _ _ h => h) (Or.inl ⟨by rfl, fun W hW => by go_simp⟩) hHeld ?_
  try simp only [Act.put, List.setIfInBounds_toArray, List.set_cons_zero, List.set_cons_succ]
  refine takeL 3 (B x) rfl (by kernel_rfl) (by kernel_rfl) (by kernel_rfl) (fun _ _ _ h => h) (Or.inl ⟨by rfl, fun W hW => by obtain ⟨_, h1, h2⟩ := hW; go_simp⟩) hHeld ?_
  try simp only [Act.put, List.setIfInBounds_toArray, List.set_cons_zero, List.set_cons_succ]
  refine takeL 4 (.int .i64 x.toNat) rfl (by kernel_rfl) (by kernel_rfl) (by kernel_rfl) (fun _ _ _ h => h) (Or.inl ⟨by rfl, fun W hW => by go_simp⟩) hHeld ?_
  try simp only [Act.put, List.setIfInBounds_toArray, List.set_cons_zero, List.set_cons_succ]
  refine takeL 5 (.slice (some ⟨bb, o5, none⟩) 2 cap5) rfl (by kernel_rfl) (by kernel_rfl) (by kernel_rfl) (fun _ _ _ h => h) (Or.inl ⟨by rfl, fun W hW => by rfl⟩) hHeld ?_
  try simp only [Act.put, List.setIfInBounds_toArray, List.set_cons_zero, List.set_cons_succ]
  refine takeL 6 (.pointer (some ⟨bb, o5 + 1, none⟩)) rfl (by kernel_rfl) (by kernel_rfl) (by kernel_rfl) (fun _ _ _ h => h) (Or.inl ⟨by rfl, fun W hW => by go_simp⟩) hHeld ?_
  try simp only [Act.put, List.setIfInBounds_toArray, List.set_cons_zero, List.set_cons_succ]
  refine takeL 7 (B y) rfl (by kernel_rfl) (by kernel_rfl) (by kernel_rfl) (fun _ _ _ h => h) (Or.inl ⟨by rfl, fun W hW => by obtain ⟨_, h1, h2⟩ := hW; go_simp⟩) hHeld ?_
  try simp only [Act.put, List.setIfInBounds_toArray, List.set_cons_zero, List.set_cons_succ]
  refine takeL 8 (.int .i64 y.toNat) rfl (by kernel_rfl) (by kernel_rfl) (by kernel_rfl) (fun _ _ _ h => h) (Or.inl ⟨by rfl, fun W hW => by go_simp⟩) hHeld ?_
  try simp only [Act.put, List.setIfInBounds_toArray, List.set_cons_zero, List.set_cons_succ]
  refine takeL 9 (.int .i64 (y.toNat * 256)) rfl (by kernel_rfl) (by kernel_rfl) (by kernel_rfl) (fun _ _ _ h => h) (Or.inl ⟨by rfl, fun W hW => by go_simp⟩) hHeld ?_
  try simp only [Act.put, List.setIfInBounds_toArray, List.set_cons_zero, List.set_cons_succ]
  refine takeL 10 (.int .i64 next) rfl (by kernel_rfl) (by kernel_rfl) (by kernel_rfl) (fun _ _ _ h => h) (Or.inl ⟨by rfl, fun W hW => by go_simp⟩) hHeld ?_
  try simp only [Act.put, List.setIfInBounds_toArray, List.set_cons_zero, List.set_cons_succ]
  refine oneL 11 rfl (by kernel_rfl) (by rfl) (fun K hK => ?_)
  refine wp_storeA 111 _ _ rfl r 0 rfl (bvals pg) rfl _ _ HB7.out (infoPage' HPL.out) (by simp [HPL.out]) bvals_one ?_
  intro w9 HB9 HC9
  refine hK.out _ _ ⟨hHeld.1.chg HC9.out (by omega), HC9.out.cell hHeld.2.1 (fun e => hbb e.symm), HC9.out.cell hHeld.2.2 (fun e => hbb e.symm)⟩ (fun hHeld => ?_)
  clear hK K
  try simp only [Act.put, List.setIfInBounds_toArray, List.set_cons_zero, List.set_cons_succ]
  refine takeL 12 (.int .i64 next) rfl (by kernel_rfl) (by kernel_rfl) (by kernel_rfl) (fun _ _ _ h => h) (Or.inl ⟨by rfl, fun W hW => by rfl⟩) hHeld ?_
  try simp only [Act.put, List.setIfInBounds_toArray, List.set_cons_zero, List.set_cons_succ]
  refine takeL 13 (.int .i64 0) rfl (by kernel_rfl) (by kernel_rfl) (by kernel_rfl) (fun _ _ _ h => h) (Or.inl ⟨by rfl, fun W hW => by rfl⟩) hHeld ?_
  try simp only [Act.put, List.setIfInBounds_toArray, List.set_cons_zero, List.set_cons_succ]
  refine wpAnyH_done (by kernel_rfl) ?_ _
  go_wp2
  have hrq := HF7.out.size
  refine bodyPost_ret (results_cell_tt Tryz.results77 _ _ r 111 (bvals pg) _ rfl ?_ Tryz.underlying111 rfl (infoPage' HPL.out)) rfl ⟨rfl, ?_⟩
  · have := HB9.out
    rwa [over_all _ _ (by simp [HPL.out])] at this
  · exact HF7.out.trans HC9.out (fun b hb e => by have := HRR.out; omega)
end Go.Proofs.YtnmjkgnahhbnoaaGreat
