/- Part 17 of the walks that the laws of package hash share (HashS). -/
import Derived.Test.YtnmjkgnahhbnoaaGreatM16
set_option linter.unusedVariables false
set_option linter.unusedSimpArgs false
/- Walks of package hash: split, its first part. -/
namespace Go.Proofs.YtnmjkgnahhbnoaaGreat
open Go.RowKit
set_option linter.unusedSimpArgs false

/-- Behind the directory's new entry. -/
def SplC (w : World) (b N q root cnt n0 n g cap : Nat) (F : Nat → Prop) (B : List (List (Nat × Rs))) (T1 : Nat → Bool) (V1 : Nat → Option (List UInt8)) (v11 : Value) (wx : World) : Prop :=
  v11 = .int .i64 0 ∧ ∃ V2 F2, BatchV wx b N T1 V2 F2 ∧ (∀ k, F2 k → F k ∨ w.heap.size ≤ k) ∧ Chg F w wx ∧ wx.cell? ⟨q, 0, none⟩ = some (.pointer (some ⟨b, 0, none⟩)) ∧ wx.cell? ⟨q, 1, none⟩ = some (.slice (some ⟨g, 0, none⟩) (n + 1) cap) ∧
    ¬ F2 q ∧ HeapV V2 N (dirL root cnt (B ++ [[(n0, [])]])) ∧ ∀ k, k ∉ pagesL (dirL root cnt (B ++ [[(n0, [])]])) → V2 k = V1 k
theorem dir_hins {root cnt n0 n1 : Nat} {B : List (List (Nat × Rs))} (h : B.length ≤ 59) : hidx (num3 n0) (dirL root cnt B) < (dirL root cnt B).length ∧ hins n1 (num3 n0) (dirL root cnt B) = dirL root cnt (B ++ [[(n0, [])]]) := by
  have ha := dir_add (cnt := cnt) (p := n0) h
  have h0 : hidx (num3 n0) (dirL root cnt B) = 0 := hidx_of (i := 0) (m := root) (rs := dirR cnt B) (Nat.zero_le _) rfl ha
  exact ⟨by rw [h0]; simp, (hins_some (i := 0) (m := root) (rs := dirR cnt B) rfl ha h0).1⟩
/-- Behind a page taken, another one. -/
theorem HSt.free2 {O : List Nat} {V : Nat → Option (List UInt8)} {T : Nat → Bool} {N root cnt n0 : Nat} {B : List (List (Nat × Rs))} (h : HSt O V T N root cnt B) (hr : npB O B + 1 < N) : ∃ n1, (1 ≤ n1 ∧ n1 < N) ∧ n1 < N ∧ tput T n0 true n1 = false ∧ (∀ k, k < n1 → tput T n0 true k = true) ∧ n1 ≠ root := by
  have h0 : ∃ k, k < N ∧ tput T n0 true k = false := by
    refine Classical.byContradiction fun hc => ?_
    have hall : ∀ k, k < N → tput T n0 true k = true := fun k hk => by
      cases hT : tput T n0 true k with
      | true => rfl
      | false => exact absurd ⟨k, hk, hT⟩ hc
    have := sub_len (List.range N) (n0 :: (O ++ root :: B.flatMap pagesL)) List.nodup_range (fun x hx => by
      have hx2 := List.mem_range.1 hx
      rcases (tput_true T n0 x).1 (hall x hx2) with h1 | h1
      · refine List.mem_cons_of_mem _ ?_
        rcases (h.tk x hx2).1 h1 with h1 | rfl | ⟨j, L, hj, hm⟩
        · exact List.mem_append.2 (.inl h1)
        · exact List.mem_append.2 (.inr (List.mem_cons_self ..))
        · exact List.mem_append.2 (.inr (List.mem_cons_of_mem _ (List.mem_flatMap.2 ⟨L, List.mem_of_getElem? hj, hm⟩)))
      · simp only [List.mem_singleton] at h1; rw [h1]; exact List.mem_cons_self ..)
    have h2 := npB_pages O B
    rw [List.length_range, List.length_cons, List.length_append, List.length_cons] at this
    omega
  obtain ⟨n1, a, b, c⟩ := exists_free _ N h0
  have hn : ∀ P : Prop, (P → T n1 = true) → ¬ P := fun P hp hq => by rw [(tput_true T n0 n1).2 (.inl (hp hq))] at b; cases b
  have h1 := hn _ (h.tk n1 a).2
  refine ⟨n1, ⟨?_, a⟩, a, b, c, fun e => h1 (.inr (.inl e))⟩
  rcases Nat.eq_zero_or_pos n1 with e | e
  · exact absurd (.inl (e ▸ h.o0)) h1
  · exact e

/-- Does an entry move into the new bucket? -/
def mvE (n : Nat) (e : Ent) : Bool := bucketF (e.2.drop 4) (n + 1) == n
theorem mv_take {E : List Ent} {k : Nat} {x : Ent} (f : Ent → Bool) (h : E[k]? = some x) : (E.take (k + 1)).filter f = (E.take k).filter f ++ (if f x then [x] else []) ∧ E.drop k = x :: E.drop (k + 1) := by
  have hlt : k < E.length := (List.getElem?_eq_some_iff.1 h).1
  have hx := (List.getElem?_eq_some_iff.1 h).2
  refine ⟨?_, by rw [← hx, List.getElem_cons_drop]⟩
  rw [List.take_succ_eq_append_getElem hlt, hx, List.filter_append]
  congr 1
  cases hf : f x <;> simp [hf]
theorem spl_stay {E A Bt : List Ent} {k n : Nat} {x : Ent} (h : E[k]? = some x) (hm : mvE n x = false) (h1 : A.Perm ((E.take k).filter (fun e => !mvE n e) ++ E.drop k)) (h2 : (Bt.map (·.2)).Perm (((E.take k).filter (mvE n)).map (·.2))) :
    A.Perm ((E.take (k + 1)).filter (fun e => !mvE n e) ++ E.drop (k + 1)) ∧ (Bt.map (·.2)).Perm (((E.take (k + 1)).filter (mvE n)).map (·.2)) := by
  obtain ⟨a1, a2⟩ := mv_take (fun e => !mvE n e) h
  obtain ⟨b1, _⟩ := mv_take (mvE n) h
  rw [a1, b1, hm]
  rw [a2] at h1
  simpa using ⟨h1, h2⟩
theorem spl_move {E A A' Bt Bt' : List Ent} {k n : Nat} {x : Ent} {rid : Nat × Nat} (h : E[k]? = some x) (hm : mvE n x = true) (h1 : A.Perm ((E.take k).filter (fun e => !mvE n e) ++ E.drop k)) (h2 : (Bt.map (·.2)).Perm (((E.take k).filter (mvE n)).map (·.2)))
    (ha : A.Perm (x :: A')) (hb : Bt'.Perm ((rid, x.2) :: Bt)) :
    A'.Perm ((E.take (k + 1)).filter (fun e => !mvE n e) ++ E.drop (k + 1)) ∧ (Bt'.map (·.2)).Perm (((E.take (k + 1)).filter (mvE n)).map (·.2)) := by
  obtain ⟨a1, a2⟩ := mv_take (fun e => !mvE n e) h
  obtain ⟨b1, _⟩ := mv_take (mvE n) h
  rw [a1, b1, hm]
  rw [a2] at h1
  constructor
  · have h3 := (ha.symm.trans h1).trans List.perm_middle
    simpa using h3.cons_inv
  · have h4 := hb.map (·.2)
    rw [List.map_append]
    refine h4.trans ?_
    simp only [List.map_cons]
    refine ((h2.cons x.2)).trans ?_
    simpa using (List.perm_append_singleton x.2 _).symm
theorem set_app1 {α : Type} (B : List α) (x y : α) (k : Nat) (h : k < B.length) (z : α) : (B.set k x ++ [y]).set k z = B.set k z ++ [y] := by
  rw [List.set_append_left _ _ (by simpa using h), List.set_set]
theorem set_app2 {α : Type} (B : List α) (x y : α) (k : Nat) (z : α) : (B.set k x ++ [y]).set B.length z = B.set k x ++ [z] := by
  rw [List.set_append_right _ _ (by simp)]; simp
theorem get_app1 {α : Type} (B : List α) (x y : α) (k : Nat) (h : k < B.length) : (B.set k x ++ [y])[k]? = some x := by
  rw [List.getElem?_append_left (by simpa using h), List.getElem?_set_self h]
theorem get_app2 {α : Type} (B : List α) (x y : α) (k : Nat) : (B.set k x ++ [y])[B.length]? = some y := by
  rw [List.getElem?_append_right (by simp)]; simp
/-- While the entries move: i are done. -/
def SplI (w : World) (b N q root cnt n0 n g cap frm M : Nat) (O : List Nat) (F : Nat → Prop) (B : List (List (Nat × Rs))) (V : Nat → Option (List UInt8)) (E : List Ent) (i : Nat) (wr : World) : Prop :=
  ∃ (T2 : Nat → Bool) (V2 : Nat → Option (List UInt8)) (F2 : Nat → Prop) (Lf Lt : List (Nat × Rs)), BatchV wr b N T2 V2 F2 ∧ (∀ k, F2 k → F k ∨ w.heap.size ≤ k) ∧ Chg F w wr ∧ wr.cell? ⟨q, 0, none⟩ = some (.pointer (some ⟨b, 0, none⟩)) ∧ wr.cell? ⟨q, 1, none⟩ = some (.slice (some ⟨g, 0, none⟩) (n + 1) cap) ∧
    HSt O V2 T2 N root cnt ((B.set frm Lf) ++ [Lt]) ∧ npB O ((B.set frm Lf) ++ [Lt]) ≤ M + i ∧ (∀ j ∈ O, V2 j = V j) ∧ nextAt Lt 0 = n0 ∧
    (entsL Lf).Perm ((E.take i).filter (fun e => !mvE n e) ++ E.drop i) ∧ ((entsL Lt).map (·.2)).Perm (((E.take i).filter (mvE n)).map (·.2))
/-- What a split leaves. -/
def SplTo (w : World) (b N root cnt n frm : Nat) (O : List Nat) (F : Nat → Prop) (B : List (List (Nat × Rs))) (V : Nat → Option (List UInt8)) (E : List Ent) (M : Nat) (w' : World) : Prop :=
  ∃ (T2 : Nat → Bool) (V2 : Nat → Option (List UInt8)) (Lf Lt : List (Nat × Rs)), BatchTo w w' b N T2 V2 F ∧ HSt O V2 T2 N root cnt ((B.set frm Lf) ++ [Lt]) ∧ npB O ((B.set frm Lf) ++ [Lt]) ≤ M + E.length ∧ (∀ j ∈ O, V2 j = V j) ∧
    (entsL Lf).Perm (E.filter fun e => !mvE n e) ∧ ((entsL Lt).map (·.2)).Perm ((E.filter (mvE n)).map (·.2))

set_option maxRecDepth 100000 in
set_option maxHeartbeats 4000000 in
theorem hsplit_any {b N root base cnt cnt0 n : Nat} {O : List Nat} {T : Nat → Bool} {V : Nat → Option (List UInt8)} {F : Nat → Prop} {B : List (List (Nat × Rs))} {sv : Value} {Lf0 : List (Nat × Rs)} (w : World) (h : BatchV w b N T V F) (hS : HSt O V T N root cnt B) (hB : B.length = n) (hn : 1 ≤ n ∧ n ≤ 40)
    (hE : EntsS w base sv (entsL (dirL root cnt0 B))) (hfr : B[n - levelF n]? = some Lf0) (hrec : ∀ e ∈ entsL Lf0, 4 ≤ e.2.length ∧ e.2.length ≤ 400) (hroom : npB O B + 2 + (entsL Lf0).length < N) :
    Calls Tryz.prog 45 #[.agg #[.pointer (some ⟨b, 0, none⟩), sv], .int .i64 root] w fun e w' => e = .returned (.int .i64 0) ∧ SplTo w b N root cnt n (n - levelF n) O F B V (entsL Lf0) (npB O B + 1) w' := by
  have hEn := dir_len root cnt0 B
  rw [hB] at hEn
  obtain ⟨g, cap, vx, bx, rfl, hbg, _, _, _, _, _⟩ := hE.cells (dir_cnt root cnt0 B)
  have HEK := Lib.hid (dir_page root cnt0 B _ Lf0 hfr)
  generalize hEE : entsL (dirL root cnt0 B) = E at *
  clear hEE
  have HB := Lib.hid h
  have HST := Lib.hid hS
  have HE := Lib.hid hE
  have HEN := Lib.hid hEn
  have HFRM := Lib.hid hfr
  have HREC := Lib.hid hrec
  have HBL := Lib.hid hB
  rw [hEn] at HE ⊢
  obtain ⟨n0, hnew⟩ := hS.free (by omega)
  have HNEW := Lib.hid hnew
  obtain ⟨n1, hn1, HN1'⟩ := hS.free2 (n0 := n0) (by omega)
  have HN1 := Lib.hid HN1'
  have hN := h.le
  have hn0 := hnew.1
  have hroot := hS.dir.pg 0 root (dirR cnt B) rfl
  have hr1 : 1 ≤ root ∧ root < N := ⟨hroot.2.2.1, hroot.2.2.2⟩
  have hnf : 1 ≤ nextAt Lf0 0 ∧ nextAt Lf0 0 < N := by
    have h1 := hS.bks _ _ hfr
    exact ⟨(h1.next_lt 0).2 h1.ne, (h1.next_lt 0).1⟩
  have HLV := Lib.hid (levelF_bd hn.1)
  clear h hS hE hEn hfr hrec hB hnew HN1' hroot
  go_enter Tryz.func45, Tryz.ntmps45
  go_wp2_with (
    refine wpList_boxA rfl 65 _ rfl [.pointer (some ⟨b, 0, none⟩), .slice (some ⟨g, 0, none⟩) (n + 1) cap] rfl ?_
    intro w1 HX1 HF1 HS1
    have c1 := cells2 HX1.out)
  have hq : w.heap.size < w1.heap.size := by have := HS1.out; omega
  clear HS1
  generalize hqq : w.heap.size = q at *
  have HQQ := Lib.hid hqq
  clear hqq
  go_loop [6] (fun l => ∃ j : Nat, Hid (2 ^ j ≤ n) ∧ l = .int .i64 ((2 ^ j : Nat) : Int)) (fun l => n - (intOf l).toNat)
  case atStart => exact ⟨0, hn.1, rfl⟩
  case round =>
    obtain ⟨j, HJ, rfl⟩ := hrel
    have hp := Nat.two_pow_pos j
    have hjn := HJ.out
    have HL : Hid (n < 2 * 2 ^ j → levelF n = 2 ^ j) := fun h => levelF_eq HJ.out h
    have HP : Hid (2 ^ (j + 1) = 2 ^ j * 2) := Nat.pow_succ ..
    generalize hll : 2 ^ j = l at *
    have HLL := Lib.hid hll
    clear hll
    by_cases hlt : 2 * l ≤ n
    · go_wp2
      go_round
      case rel => exact ⟨j + 1, by rw [HP.out]; show _ ≤ _; omega, by rw [HP.out]; go_num⟩
      case measure => simp [intOf]; omega
    · have hlev := HL.out (by omega)
      have HLEV := Lib.hid hlev
      clear hlev HL HP HLL
      go_wp2_with (refine wpList_loadA rfl 65 _ rfl q 0 rfl _ _ HX1.out 2 [.pointer (some ⟨b, 0, none⟩), .slice (some ⟨g, 0, none⟩) (n + 1) cap] (take_all _ _ (by simp)) _ Tryz.underlying65 rfl infoIdx (by simp) ?_)
      rw [show ((n : Int) - (l : Int)) = ((n - l : Nat) : Int) by omega]
      refine (hpage_any b base (n - l) (nextAt Lf0 0) _ E _ w1 (HE.out.fresh HF1.out) (by rw [← HLEV.out]; exact HEK.out) (by omega) (by rw [HEN.out]; omega)).mono ?_
      rintro e w2 ⟨rfl, hf2⟩
      have HX2 := Lib.hid (HX1.out.chg hf2 id)
      have HF2 := Lib.hid (HF1.out.trans hf2 (fun _ _ f => f))
      have c2 := cells2 HX2.out
      have hq2 : q < w2.heap.size := by have := hf2.size; omega
      have HqF0 : ¬ F q := fun hk => by have := HB.out.lt hk; have := HQQ.out; omega
      clear hf2 HX1 HF1 c1
      go_wp2_with fail
      refine (hmake_any w2 (HB.out.fresh HF2.out) hn0.2 HNEW.out.2.1 HNEW.out.2.2.1).mono ?_
      rintro e w3 ⟨rfl, F1, hbv, hs1, hc1⟩
      have HS1 : Hid (∀ k, F1 k → F k ∨ w.heap.size ≤ k) := fun k hk => by
        rcases hs1 k hk with h1 | h1
        · exact .inl h1
        · have := HF2.out.size; exact .inr (by omega)
      have HqF : ¬ F1 q := fun hk => by
        rcases hs1 q hk with h1 | h1
        · exact HqF0 h1
        · omega
      have HC1 := Lib.hid (HF2.out.fresh.trans hc1 (fun _ _ h => h))
      have HBV := Lib.hid hbv
      have HX3 := Lib.hid (HX2.out.chg hc1 HqF0)
      have HD : Hid (HeapV (vput V n0 (hpage 0 [])) N (dirL root cnt B)) := HST.out.dir.other fun m hm => vput_ne _ _ _ _ (by simp [pagesL] at hm; subst hm; exact fun e => HNEW.out.2.2.2.1 e.symm)
      have HHI := Lib.hid (dir_hins (root := root) (cnt := cnt) (n0 := n0) (n1 := n1) (show B.length ≤ 59 by have := HBL.out; omega)).2
      have HID := Lib.hid (dir_hins (root := root) (cnt := cnt) (n0 := n0) (n1 := n1) (show B.length ≤ 59 by have := HBL.out; omega)).1
      clear hbv hs1 hc1 HX2 HF2 c2
      go_wp2_with fail
      go_cut [11] from 39 to 47 (fun v11 wx => SplC w b N q root cnt n0 n g cap F B (tput T n0 true) (vput V n0 (hpage 0 [])) v11 wx)
      case first =>
        have c3 := cells2 HX3.out.drew
        refine wp_region_held_drew (S := fun W => W.cell? ⟨q, 0, none⟩ = some (.pointer (some ⟨b, 0, none⟩)) ∧ W.cell? ⟨q, 1, none⟩ = some (.slice (some ⟨g, 0, none⟩) (n + 1) cap) ∧ Chg F w W) (by kernel_rfl) ⟨c3.1, c3.2, HC1.out.drew⟩ (fun hHeld => ?_)
        have HBV := Lib.hid (HBV.out.fresh ((Chg.refl (fun _ => False) w3).drew))
        have hqc : q < w3.drew.heap.size := HX3.out.drew.lt
        clear c3 HX3 HC1
        generalize w3.drew = wc at *
        refine takeL 0 (.pointer (some ⟨q, 0, none⟩)) rfl (by kernel_rfl) (by kernel_rfl) (by kernel_rfl) (fun _ _ _ h => h) (Or.inl ⟨by rfl, fun W hW => by go_simp⟩) hHeld ?_
        try simp only [Act.put, List.setIfInBounds_toArray, List.set_cons_zero, List.set_cons_succ]
        refine takeL 1 (.pointer (some ⟨b, 0, none⟩)) rfl (by kernel_rfl) (by kernel_rfl) (by kernel_rfl) (fun _ _ _ h => h) (Or.inl ⟨by rfl, fun W hW => by obtain ⟨c0, c1, _⟩ := hW; go_simp⟩) hHeld ?_
        try simp only [Act.put, List.setIfInBounds_toArray, List.set_cons_zero, List.set_cons_succ]
        refine takeL 2 (.int .i64 root) rfl (by kernel_rfl) (by kernel_rfl) (by kernel_rfl) (fun _ _ _ h => h) (Or.inl ⟨by rfl, fun W hW => by rfl⟩) hHeld ?_
        try simp only [Act.put, List.setIfInBounds_toArray, List.set_cons_zero, List.set_cons_succ]
        refine takeL 3 (.int .i64 n0) rfl (by kernel_rfl) (by kernel_rfl) (by kernel_rfl) (fun _ _ _ h => h) (Or.inl ⟨by rfl, fun W hW => by rfl⟩) hHeld ?_
        try simp only [Act.put, List.setIfInBounds_toArray, List.set_cons_zero, List.set_cons_succ]
        refine twoL 4 9 rfl rfl (by kernel_rfl) (by rfl) (by rfl) (fun K hK => ?_) (fun K hK => ?_)
        · go_simp
          refine (hbytes_any n0 _ (by omega)).mono ?_
          rintro e wb ⟨rfl, hb4, hf4⟩
          have HNB : Hid (BytesO wb (.slice (some ⟨wc.heap.size, 0, none⟩) 3 3) (num3 n0) F1) := .inr ⟨wc.heap.size, Blk.slB hb4 rfl, fun hk => by have := HBV.out.lt hk; omega⟩
          have HBV := Lib.hid (HBV.out.fresh hf4)
          refine hK.out _ _ ⟨hf4.cell hHeld.1 id, hf4.cell hHeld.2.1 id, hHeld.2.2.trans hf4 (fun _ _ f => f.elim)⟩ (fun hHeld => ?_)
          clear hK K
          try simp only [Act.put, List.setIfInBounds_toArray, List.set_cons_zero, List.set_cons_succ]
          clear hb4 hf4
          generalize wc.heap.size = nb at *
          refine twoL 5 9 rfl rfl (by kernel_rfl) (by rfl) (by rfl) (fun K hK => ?_) (fun K hK => ?_)
          · go_simp
            refine (hinsert_any _ HBV.out HD.out HNB.out (by simp [num3]) hn1 HN1.out.2.1 HN1.out.2.2.1 (by have := HN1.out.2.2.2; simpa [pagesL] using this)).mono ?_
            rintro e wi ⟨rfl, V2, ⟨F2, hbv2, hs2, hc2⟩, hd2, hv2⟩
            (rw [if_pos HID.out] at hbv2; rw [HHI.out] at hd2 hv2)
            have hsz : w.heap.size ≤ wb.heap.size := hHeld.2.2.size
            have HS2 : Hid (∀ k, F2 k → F k ∨ w.heap.size ≤ k) := fun k hk => by
              rcases hs2 k hk with h1 | h1
              · exact HS1.out k h1
              · exact .inr (by omega)
            have HNQ : ¬ F2 q := fun hk => by
              rcases hs2 q hk with h1 | h1
              · exact HqF h1
              · have := block_lt_of_cell hHeld.1; simp only at this; omega
            have HBV := Lib.hid hbv2
            have HD2 := Lib.hid hd2
            have HV2 := Lib.hid hv2
            refine hK.out _ _ ⟨hc2.cell hHeld.1 HqF, hc2.cell hHeld.2.1 HqF, hHeld.2.2.trans hc2 (fun k hk h => by rcases HS1.out k h with h1 | h1; exact h1; omega)⟩ (fun hHeld => ?_)
            clear hK K
            try simp only [Act.put, List.setIfInBounds_toArray, List.set_cons_zero, List.set_cons_succ]
            clear hbv2 hd2 hv2 hs2 hc2
            generalize hrid n1 (num3 n0) (dirL root cnt B) = rid at *
            refine takeL 6 (.tuple #[.agg #[.int .i64 rid.1, .int .i64 rid.2], .int .i64 0]) rfl (by kernel_rfl) (by kernel_rfl) (by kernel_rfl) (fun _ _ _ h => h) (Or.inl ⟨by rfl, fun W hW => by rfl⟩) hHeld ?_
            try simp only [Act.put, List.setIfInBounds_toArray, List.set_cons_zero, List.set_cons_succ]
            refine takeL 7 (.agg #[.int .i64 rid.1, .int .i64 rid.2]) rfl (by kernel_rfl) (by kernel_rfl) (by kernel_rfl) (fun _ _ _ h => h) (Or.inl ⟨by rfl, fun W hW => by rfl⟩) hHeld ?_
            try simp only [Act.put, List.setIfInBounds_toArray, List.set_cons_zero, List.set_cons_succ]
            refine takeL 8 (.int .i64 0) rfl (by kernel_rfl) (by kernel_rfl) (by kernel_rfl) (fun _ _ _ h => h) (Or.inl ⟨by rfl, fun W hW => by rfl⟩) hHeld ?_
            try simp only [Act.put, List.setIfInBounds_toArray, List.set_cons_zero, List.set_cons_succ]
            refine oneL 9 rfl (by kernel_rfl) (by rfl) (fun K hK => ?_)
            refine wp_allocM 45 rfl [.int .i64 0, .int .i64 0] Tryz.zeroValue45 ?_
            intro wa HBA HFA HSA
            have HNF : ¬ F2 wi.heap.size := fun hk => by have := HBV.out.lt hk; omega
            have HQL := HBA.out.lt
            have hwc : w.heap.size ≤ wi.heap.size := hHeld.2.2.size
            have hqa0 : q < wi.heap.size := block_lt_of_cell hHeld.1
            have HBV := Lib.hid (HBV.out.fresh HFA.out)
            refine hK.out _ _ ⟨HFA.out.cell hHeld.1 id, HFA.out.cell hHeld.2.1 id, hHeld.2.2.trans HFA.out (fun _ _ f => f.elim)⟩ (fun hHeld => ?_)
            clear hK K
            try simp only [Act.put, List.setIfInBounds_toArray, List.set_cons_zero, List.set_cons_succ]
            clear HFA HSA
            generalize wi.heap.size = qa at *
            refine oneL 10 rfl (by kernel_rfl) (by rfl) (fun K hK => ?_)
            refine wp_storeA 45 _ _ rfl qa 0 rfl [.int .i64 rid.1, .int .i64 rid.2] rfl _ _ HBA.out infoRid (by simp) (by simp [Value.oneCell']) ?_
            intro ws HBS HCS
            have HBV := Lib.hid (HBV.out.chg HCS.out (fun k hk e => HNF (by rw [← e]; exact hk)))
            refine hK.out _ _ ⟨HCS.out.cell hHeld.1 (fun e => by have e2 : q = qa := e; omega), HCS.out.cell hHeld.2.1 (fun e => by have e2 : q = qa := e; omega), hHeld.2.2.trans HCS.out (fun k hk e => by omega)⟩ (fun hHeld => ?_)
            clear hK K
            try simp only [Act.put, List.setIfInBounds_toArray, List.set_cons_zero, List.set_cons_succ]
            refine takeL 11 (.int .i64 0) rfl (by kernel_rfl) (by kernel_rfl) (by kernel_rfl) (fun _ _ _ h => h) (Or.inl ⟨by rfl, fun W hW => by rfl⟩) hHeld ?_
            try simp only [Act.put, List.setIfInBounds_toArray, List.set_cons_zero, List.set_cons_succ]
            refine wpAnyH_done (by kernel_rfl) ?_ _
            go_wp2
            go_meet
            case rel => exact ⟨rfl, V2, F2, HBV.out, HS2.out, hHeld.2.2, hHeld.1, hHeld.2.1, HNQ, HD2.out, HV2.out⟩
          · refine wp_allocM 45 rfl [.int .i64 0, .int .i64 0] Tryz.zeroValue45 ?_
            intro wa HBA HFA HSA
            have HNF : ¬ F1 wb.heap.size := fun hk => by have := HBV.out.lt hk; omega
            have HQL := HBA.out.lt
            have hwc : w.heap.size ≤ wb.heap.size := hHeld.2.2.size
            have hqa0 : q < wb.heap.size := block_lt_of_cell hHeld.1
            have HBV := Lib.hid (HBV.out.fresh HFA.out)
            refine hK.out _ _ ⟨HFA.out.cell hHeld.1 id, HFA.out.cell hHeld.2.1 id, hHeld.2.2.trans HFA.out (fun _ _ f => f.elim)⟩ (fun hHeld => ?_)
            clear hK K
            try simp only [Act.put, List.setIfInBounds_toArray, List.set_cons_zero, List.set_cons_succ]
            have HNB := Lib.hid (HNB.out.fresh HFA.out)
            clear HFA HSA
            generalize wb.heap.size = qa at *
            refine oneL 5 rfl (by kernel_rfl) (by rfl) (fun K hK => ?_)
            go_simp
            refine (hinsert_any _ HBV.out HD.out HNB.out (by simp [num3]) hn1 HN1.out.2.1 HN1.out.2.2.1 (by have := HN1.out.2.2.2; simpa [pagesL] using this)).mono ?_
            rintro e wi ⟨rfl, V2, ⟨F2, hbv2, hs2, hc2⟩, hd2, hv2⟩
            (rw [if_pos HID.out] at hbv2; rw [HHI.out] at hd2 hv2)
            have hsz : w.heap.size ≤ wa.heap.size := hHeld.2.2.size
            have HS2 : Hid (∀ k, F2 k → F k ∨ w.heap.size ≤ k) := fun k hk => by
              rcases hs2 k hk with h1 | h1
              · exact HS1.out k h1
              · exact .inr (by omega)
            have HNQ : ¬ F2 q := fun hk => by
              rcases hs2 q hk with h1 | h1
              · exact HqF h1
              · have := block_lt_of_cell hHeld.1; simp only at this; omega
            have HBV := Lib.hid hbv2
            have HD2 := Lib.hid hd2
            have HV2 := Lib.hid hv2
            have HNF : ¬ F2 qa := fun hk => by
              rcases hs2 qa hk with h1 | h1
              · exact HNF h1
              · omega
            have HBA := Lib.hid (HBA.out.chg hc2 (by assumption))
            refine hK.out _ _ ⟨hc2.cell hHeld.1 HqF, hc2.cell hHeld.2.1 HqF, hHeld.2.2.trans hc2 (fun k hk h => by rcases HS1.out k h with h1 | h1; exact h1; omega)⟩ (fun hHeld => ?_)
            clear hK K
            try simp only [Act.put, List.setIfInBounds_toArray, List.set_cons_zero, List.set_cons_succ]
            clear hbv2 hd2 hv2 hs2 hc2
            generalize hrid n1 (num3 n0) (dirL root cnt B) = rid at *
            refine takeL 6 (.tuple #[.agg #[.int .i64 rid.1, .int .i64 rid.2], .int .i64 0]) rfl (by kernel_rfl) (by kernel_rfl) (by kernel_rfl) (fun _ _ _ h => h) (Or.inl ⟨by rfl, fun W hW => by rfl⟩) hHeld ?_
            try simp only [Act.put, List.setIfInBounds_toArray, List.set_cons_zero, List.set_cons_succ]
            refine takeL 7 (.agg #[.int .i64 rid.1, .int .i64 rid.2]) rfl (by kernel_rfl) (by kernel_rfl) (by kernel_rfl) (fun _ _ _ h => h) (Or.inl ⟨by rfl, fun W hW => by rfl⟩) hHeld ?_
            try simp only [Act.put, List.setIfInBounds_toArray, List.set_cons_zero, List.set_cons_succ]
            refine takeL 8 (.int .i64 0) rfl (by kernel_rfl) (by kernel_rfl) (by kernel_rfl) (fun _ _ _ h => h) (Or.inl ⟨by rfl, fun W hW => by rfl⟩) hHeld ?_
            try simp only [Act.put, List.setIfInBounds_toArray, List.set_cons_zero, List.set_cons_succ]
            refine oneL 10 rfl (by kernel_rfl) (by rfl) (fun K hK => ?_)
            refine wp_storeA 45 _ _ rfl qa 0 rfl [.int .i64 rid.1, .int .i64 rid.2] rfl _ _ HBA.out infoRid (by simp) (by simp [Value.oneCell']) ?_
            intro ws HBS HCS
            have HBV := Lib.hid (HBV.out.chg HCS.out (fun k hk e => HNF (by rw [← e]; exact hk)))
            refine hK.out _ _ ⟨HCS.out.cell hHeld.1 (fun e => by have e2 : q = qa := e; omega), HCS.out.cell hHeld.2.1 (fun e => by have e2 : q = qa := e; omega), hHeld.2.2.trans HCS.out (fun k hk e => by omega)⟩ (fun hHeld => ?_)
            clear hK K
            try simp only [Act.put, List.setIfInBounds_toArray, List.set_cons_zero, List.set_cons_succ]
            refine takeL 11 (.int .i64 0) rfl (by kernel_rfl) (by kernel_rfl) (by kernel_rfl) (fun _ _ _ h => h) (Or.inl ⟨by rfl, fun W hW => by rfl⟩) hHeld ?_
            try simp only [Act.put, List.setIfInBounds_toArray, List.set_cons_zero, List.set_cons_succ]
            refine wpAnyH_done (by kernel_rfl) ?_ _
            go_wp2
            go_meet
            case rel => exact ⟨rfl, V2, F2, HBV.out, HS2.out, hHeld.2.2, hHeld.1, hHeld.2.1, HNQ, HD2.out, HV2.out⟩
        · refine wp_allocM 45 rfl [.int .i64 0, .int .i64 0] Tryz.zeroValue45 ?_
          intro wa HBA HFA HSA
          have HNF : ¬ F1 wc.heap.size := fun hk => by have := HBV.out.lt hk; omega
          have HQL := HBA.out.lt
          have hwc : w.heap.size ≤ wc.heap.size := hHeld.2.2.size
          have hqa0 : q < wc.heap.size := block_lt_of_cell hHeld.1
          have HBV := Lib.hid (HBV.out.fresh HFA.out)
          refine hK.out _ _ ⟨HFA.out.cell hHeld.1 id, HFA.out.cell hHeld.2.1 id, hHeld.2.2.trans HFA.out (fun _ _ f => f.elim)⟩ (fun hHeld => ?_)
          clear hK K
          try simp only [Act.put, List.setIfInBounds_toArray, List.set_cons_zero, List.set_cons_succ]
          clear HFA HSA
          generalize wc.heap.size = qa at *
          refine oneL 4 rfl (by kernel_rfl) (by rfl) (fun K hK => ?_)
          go_simp
          refine (hbytes_any n0 _ (by omega)).mono ?_
          rintro e wb ⟨rfl, hb4, hf4⟩
          have HNB : Hid (BytesO wb (.slice (some ⟨wa.heap.size, 0, none⟩) 3 3) (num3 n0) F1) := .inr ⟨wa.heap.size, Blk.slB hb4 rfl, fun hk => by have := HBV.out.lt hk; omega⟩
          have HBV := Lib.hid (HBV.out.fresh hf4)
          have HBA := Lib.hid (HBA.out.chg hf4 id)
          have HQL := HBA.out.lt
          refine hK.out _ _ ⟨hf4.cell hHeld.1 id, hf4.cell hHeld.2.1 id, hHeld.2.2.trans hf4 (fun _ _ f => f.elim)⟩ (fun hHeld => ?_)
          clear hK K
          try simp only [Act.put, List.setIfInBounds_toArray, List.set_cons_zero, List.set_cons_succ]
          clear hb4 hf4
          generalize wa.heap.size = nb at *
          refine oneL 5 rfl (by kernel_rfl) (by rfl) (fun K hK => ?_)
          go_simp
          refine (hinsert_any _ HBV.out HD.out HNB.out (by simp [num3]) hn1 HN1.out.2.1 HN1.out.2.2.1 (by have := HN1.out.2.2.2; simpa [pagesL] using this)).mono ?_
          rintro e wi ⟨rfl, V2, ⟨F2, hbv2, hs2, hc2⟩, hd2, hv2⟩
          (rw [if_pos HID.out] at hbv2; rw [HHI.out] at hd2 hv2)
          have hsz : w.heap.size ≤ wb.heap.size := hHeld.2.2.size
          have HS2 : Hid (∀ k, F2 k → F k ∨ w.heap.size ≤ k) := fun k hk => by
            rcases hs2 k hk with h1 | h1
            · exact HS1.out k h1
            · exact .inr (by omega)
          have HNQ : ¬ F2 q := fun hk => by
            rcases hs2 q hk with h1 | h1
            · exact HqF h1
            · have := block_lt_of_cell hHeld.1; simp only at this; omega
          have HBV := Lib.hid hbv2
          have HD2 := Lib.hid hd2
          have HV2 := Lib.hid hv2
          have HNF : ¬ F2 qa := fun hk => by
            rcases hs2 qa hk with h1 | h1
            · exact HNF h1
            · omega
          have HBA := Lib.hid (HBA.out.chg hc2 (by assumption))
          refine hK.out _ _ ⟨hc2.cell hHeld.1 HqF, hc2.cell hHeld.2.1 HqF, hHeld.2.2.trans hc2 (fun k hk h => by rcases HS1.out k h with h1 | h1; exact h1; omega)⟩ (fun hHeld => ?_)
          clear hK K
          try simp only [Act.put, List.setIfInBounds_toArray, List.set_cons_zero, List.set_cons_succ]
          clear hbv2 hd2 hv2 hs2 hc2
          generalize hrid n1 (num3 n0) (dirL root cnt B) = rid at *
          refine takeL 6 (.tuple #[.agg #[.int .i64 rid.1, .int .i64 rid.2], .int .i64 0]) rfl (by kernel_rfl) (by kernel_rfl) (by kernel_rfl) (fun _ _ _ h => h) (Or.inl ⟨by rfl, fun W hW => by rfl⟩) hHeld ?_
          try simp only [Act.put, List.setIfInBounds_toArray, List.set_cons_zero, List.set_cons_succ]
          refine takeL 7 (.agg #[.int .i64 rid.1, .int .i64 rid.2]) rfl (by kernel_rfl) (by kernel_rfl) (by kernel_rfl) (fun _ _ _ h => h) (Or.inl ⟨by rfl, fun W hW => by rfl⟩) hHeld ?_
          try simp only [Act.put, List.setIfInBounds_toArray, List.set_cons_zero, List.set_cons_succ]
          refine takeL 8 (.int .i64 0) rfl (by kernel_rfl) (by kernel_rfl) (by kernel_rfl) (fun _ _ _ h => h) (Or.inl ⟨by rfl, fun W hW => by rfl⟩) hHeld ?_
          try simp only [Act.put, List.setIfInBounds_toArray, List.set_cons_zero, List.set_cons_succ]
          refine oneL 10 rfl (by kernel_rfl) (by rfl) (fun K hK => ?_)
          refine wp_storeA 45 _ _ rfl qa 0 rfl [.int .i64 rid.1, .int .i64 rid.2] rfl _ _ HBA.out infoRid (by simp) (by simp [Value.oneCell']) ?_
          intro ws HBS HCS
          have HBV := Lib.hid (HBV.out.chg HCS.out (fun k hk e => HNF (by rw [← e]; exact hk)))
          refine hK.out _ _ ⟨HCS.out.cell hHeld.1 (fun e => by have e2 : q = qa := e; omega), HCS.out.cell hHeld.2.1 (fun e => by have e2 : q = qa := e; omega), hHeld.2.2.trans HCS.out (fun k hk e => by omega)⟩ (fun hHeld => ?_)
          clear hK K
          try simp only [Act.put, List.setIfInBounds_toArray, List.set_cons_zero, List.set_cons_succ]
          refine takeL 11 (.int .i64 0) rfl (by kernel_rfl) (by kernel_rfl) (by kernel_rfl) (fun _ _ _ h => h) (Or.inl ⟨by rfl, fun W hW => by rfl⟩) hHeld ?_
          try simp only [Act.put, List.setIfInBounds_toArray, List.set_cons_zero, List.set_cons_succ]
          refine wpAnyH_done (by kernel_rfl) ?_ _
          go_wp2
          go_meet
          case rel => exact ⟨rfl, V2, F2, HBV.out, HS2.out, hHeld.2.2, hHeld.1, hHeld.2.1, HNQ, HD2.out, HV2.out⟩
      case rest =>
        obtain ⟨rfl, V2, F2, hbv, hs2, hc2, cq0, cq1, HqF2, hd2, hv2⟩ := hcut
        have hst2 := HST.out.add HNEW.out hd2 (fun m hm => hv2 m (by simpa [pagesL] using hm))
        have HBV2 := Lib.hid hbv
        have HS2 := Lib.hid hs2
        have HC2 := Lib.hid hc2
        have HST2 := Lib.hid hst2
        have hflt : n - l < B.length := by have := (List.getElem?_eq_some_iff.1 HFRM.out).1; rw [HLEV.out] at this; exact this
        have HFR2 : Hid ((B ++ [[(n0, [])]])[n - l]? = some Lf0) := by
          show _ = _
          rw [List.getElem?_append_left hflt, ← HLEV.out]; exact HFRM.out
        clear hbv hs2 hc2 hd2 hv2 hst2 HBV HX3 HD HHI HID HC1
        go_wp2_with fail
        refine (hscan_any wc HBV2.out (HST2.out.1.bks _ _ HFR2.out)).mono ?_
        rintro e w5 ⟨sv5, rfl, hes, hf5⟩
        obtain ⟨a5, cap5, rfl⟩ := hes.slice
        have HES := Lib.hid hes
        have HBV5 := Lib.hid (HBV2.out.fresh hf5)
        have HC5 := Lib.hid (HC2.out.trans hf5 (fun _ _ f => f.elim))
        have cq5 := hf5.cell cq0 id
        have cq15 := hf5.cell cq1 id
        have hwc5 := hf5.size
        have HLT5 : Hid (∀ k, F2 k → k < wc.heap.size) := fun k hk => HBV2.out.lt hk
        clear hes hf5 cq0 cq1 HBV2 HC2
        generalize hE5 : entsL Lf0 = E5 at *
        have HE5 := Lib.hid hE5
        clear hE5
        go_wp2_with fail
        go_loopw [9, 60] (fun e9 i wr => ∃ k : Nat, k ≤ E5.length ∧ i = .int .i64 k ∧ e9 = .int .i64 0 ∧ Hid (SplI w5 b N q root cnt n0 n g cap (n - l) (npB O B + 1) O F2 B V E5 k wr)) (fun _ i _ => E5.length - (intOf i).toNat)
        case atStart =>
          have hself : B.set (n - l) Lf0 = B := by
            apply List.ext_getElem?
            intro i
            rw [List.getElem?_set]
            split
            · rename_i hi
              subst hi
              have := HFRM.out; rw [HLEV.out] at this; exact this.symm
            · rfl
          refine ⟨0, Nat.zero_le _, rfl, rfl, _, V2, F2, Lf0, [(n0, [])], HBV5.out, fun k hk => .inl hk, Chg.refl _ _, cq5, cq15, by rw [hself]; exact HST2.out.1, by rw [hself, HST2.out.2.1]; omega, HST2.out.2.2, rfl, ?_, ?_⟩
          · rw [HE5.out]; simp
          · simp [entsL, ents, entsFrom]
        case round =>
          obtain ⟨k, hk, rfl, rfl, HI⟩ := hrel
          obtain ⟨T3, V3, F3, Lf, Lt, hb3, hs3, hc3, cq0, cq1, hst3, hnp3, ho3, hlt3, hpf, hpt⟩ := HI.out
          have HB3 := Lib.hid hb3
          have HS3 := Lib.hid hs3
          have HC3 := Lib.hid hc3
          have HST3 := Lib.hid hst3
          have HNP3 := Lib.hid hnp3
          have HO3 := Lib.hid ho3
          have HLT3 := Lib.hid hlt3
          have HPF := Lib.hid hpf
          have HPT := Lib.hid hpt
          have HqF3 : ¬ F3 q := fun hk => by
            rcases hs3 q hk with h1 | h1
            · exact HqF2 h1
            · have := block_lt_of_cell cq5; simp only at this; omega
          have hw5r := hc3.size
          clear hb3 hs3 hc3 hst3 hnp3 ho3 hlt3 hpf hpt HI
          have hE5len : E5.length ≤ 3200 := by omega
          by_cases hlt2 : k < E5.length
          · have hx := List.getElem?_eq_getElem hlt2
            have hmem := List.getElem_mem hlt2
            generalize E5[k] = x at *
            obtain ⟨⟨xm, xs⟩, xr⟩ := x
            have HX := Lib.hid hx
            have HR4 : Hid (4 ≤ xr.length) := (HREC.out _ hmem).1
            have HR400 : Hid (xr.length ≤ 400) := (HREC.out _ hmem).2
            obtain ⟨g5, c5, cs5, vx5, bx5, he1, hg5, hb5, hcs5, hcl5, hsl5, hbx5, hcap⟩ := HES.out.at_ hx
            have hbx5lt := hsl5.lt
            have hF5 : ∀ j, wc.heap.size ≤ j → ¬ F2 j := fun j hj hk => by have := HLT5.out j hk; omega
            have HF5 := Lib.hid hF5
            have hb5 := hb5.chg HC3.out (hF5 g5 hg5)
            have hsl5 := hsl5.chg HC3.out (hF5 bx5 hbx5)
            clear hF5
            simp only [Value.slice.injEq, true_and] at he1
            obtain ⟨rfl, rfl⟩ := he1
            obtain ⟨ox5, cx5, rfl⟩ := hsl5.shape
            have HCP : Hid (xr.length ≤ cx5) := hcap _ _ _ rfl
            obtain ⟨so, hso, hsl⟩ := run_sliceFrom bx5 ox5 xr.length cx5 4 .i64 HR4.out HCP.out 4 rfl
            have HSO := Lib.hid hso
            have HB5 := Lib.hid hb5
            have HCS5 := Lib.hid hcs5
            have HCL5 := Lib.hid hcl5
            have HSL5 := Lib.hid hsl5
            clear hx hmem hb5 hcs5 hcl5 hsl5 hcap hso
            have hn2 : 1 ≤ n + 1 := by omega
            cases hmv : mvE n ((xm, xs), xr) with
            | false =>
              have hmv2 : ((bucketF (xr.drop 4) (n + 1) : Int) == (n : Int)) = false := by
                unfold mvE at hmv
                simp only [beq_eq_false_iff_ne, ne_eq] at hmv ⊢
                omega
              have HMV := Lib.hid hmv
              clear hmv
              go_wp2_with (first
                | (refine wpList_loadA rfl 73 _ rfl g5 (k * 3) rfl _ _ HB5.out 3 _ HCS5.out _ Tryz.underlying73 rfl infoEnt HCL5.out ?_)
                | (refine wpList_allocA rfl 73 rfl [.int .i64 0, .int .i64 0, .slice none 0 0] Tryz.zeroValue73 ?_
                   intro w7 HB7 HF7 HS7)
                | (refine wpList_storeA rfl 73 _ _ rfl wr.heap.size 0 rfl [.int .i64 xm, .int .i64 xs, .slice (some ⟨bx5, ox5, none⟩) xr.length cx5] rfl _ _ HB7.out infoEnt (by simp) (by simp [Value.oneCell']) ?_
                   intro w8 HB8 HC8
                   have c8 : w8.cell? ⟨wr.heap.size, 2, none⟩ = some (.slice (some ⟨bx5, ox5, none⟩) xr.length cx5) := (by rw [HB8.out.cell]; rfl)
                   have HF8 : Hid (Fresh wr w8) := HF7.out.trans HC8.out (fun k hk e => by omega)
                   have cq8 := HF8.out.cell cq0 id)
        )
              rw [show ((n : Int) + 1) = ((n + 1 : Nat) : Int) by omega]
              refine (hbucket_any _ (xr.drop 4) (n + 1) w8 ((HSL5.out.chg HF8.out id).cut HR4.out HCP.out HSO.out) (by have := HR4.out; have := HR400.out; simp; omega) (by omega)).mono ?_
              rintro e w9 ⟨rfl, rfl⟩
              go_wp2
              go_roundw
              case rel =>
                obtain ⟨p1, p2⟩ := spl_stay HX.out HMV.out HPF.out HPT.out
                exact ⟨k + 1, by omega, by go_num, rfl, T3, V3, F3, Lf, Lt, HB3.out.fresh HF8.out, HS3.out, HC3.out.trans HF8.out (fun _ _ f => f.elim), cq8, HF8.out.cell cq1 id, HST3.out, by have := HNP3.out; omega, HO3.out, HLT3.out, p1, p2⟩
              case measure => simp [intOf]; omega
            | true =>
              have hmv2 : ((bucketF (xr.drop 4) (n + 1) : Int) == (n : Int)) = true := by
                unfold mvE at hmv
                simp only [beq_iff_eq] at hmv ⊢
                omega
              have HMV := Lib.hid hmv
              clear hmv
              go_wp2_with (first
                | (refine wpList_loadA rfl 73 _ rfl g5 (k * 3) rfl _ _ HB5.out 3 _ HCS5.out _ Tryz.underlying73 rfl infoEnt HCL5.out ?_)
                | (refine wpList_allocA rfl 73 rfl [.int .i64 0, .int .i64 0, .slice none 0 0] Tryz.zeroValue73 ?_
                   intro w7 HB7 HF7 HS7)
                | (refine wpList_storeA rfl 73 _ _ rfl wr.heap.size 0 rfl [.int .i64 xm, .int .i64 xs, .slice (some ⟨bx5, ox5, none⟩) xr.length cx5] rfl _ _ HB7.out infoEnt (by simp) (by simp [Value.oneCell']) ?_
                   intro w8 HB8 HC8
                   have c8 : w8.cell? ⟨wr.heap.size, 2, none⟩ = some (.slice (some ⟨bx5, ox5, none⟩) xr.length cx5) := (by rw [HB8.out.cell]; rfl)
                   have HF8 : Hid (Fresh wr w8) := HF7.out.trans HC8.out (fun k hk e => by omega)
                   have cq8 := HF8.out.cell cq0 id))
              rw [show ((n : Int) + 1) = ((n + 1 : Nat) : Int) by omega]
              refine (hbucket_any _ (xr.drop 4) (n + 1) w8 ((HSL5.out.chg HF8.out id).cut HR4.out HCP.out HSO.out) (by have := HR4.out; have := HR400.out; simp; omega) (by omega)).mono ?_
              rintro e w9 ⟨rfl, rfl⟩

              obtain ⟨i', rs, k', hi', hxs, hrs⟩ := entsL_mem (HPF.out.mem_iff.2 (List.mem_append.2 (.inr (List.mem_of_getElem? (i := 0) (by rw [List.getElem?_drop, Nat.add_zero]; exact HX.out)))))
              have hlf := HST3.out.bks (n - l) Lf (get_app1 B Lf Lt _ hflt)
              have hpg := hlf.pg i' xm rs hi'
              have hdr := dropF_hpage (next := nextAt Lf (i' + 1)) hpg.2.1 hrs
              have hmod := HST3.out.mod (get_app1 B Lf Lt _ hflt) hi' hdr.2
              rw [set_app1 B Lf Lt _ hflt] at hmod
              have hkt : k' + 1 ≤ 1000 := by
                have h1 := (List.getElem?_eq_some_iff.1 (trim_get_some hrs)).1
                have h2 := hpg.2.1
                unfold HFit at h2; omega
              have hnx3 : nextAt Lf (i' + 1) ≤ 65535 := by have := (hlf.next_lt (i' + 1)).1; omega
              have hgx : getF (hpage (nextAt Lf (i' + 1)) rs) (k' + 1) = some xr := by rw [hgetS hpg.2.1, hrs]; rfl
              have hpl2 := (hpage_slots (next := nextAt Lf (i' + 1)) hdr.2).2.2
              have hdp := entsL_drop hi' hrs
              simp only at hxs
              subst hxs
              have HPG := Lib.hid hpg
              have HDR := Lib.hid hdr
              have HMD := Lib.hid hmod
              have HGX := Lib.hid hgx
              have HPL2 := Lib.hid hpl2
              have HDP := Lib.hid hdp
              have HI' := Lib.hid hi'
              obtain ⟨n2, hnew2⟩ := hmod.1.free (by have h1 := hmod.2.1; have h2 := HNP3.out; omega)
              have HN2 := Lib.hid hnew2
              clear hlf hpg hdr hmod hgx hpl2 hdp hi' hrs hnew2
              generalize hL4 : Lf.set i' (xm, (trimF rs).set k' none) = Lf4 at *
              generalize hpgv : hpage (nextAt Lf (i' + 1)) ((trimF rs).set k' none) = pgv at *
              have HL4 := Lib.hid hL4
              clear hL4 hpgv
              go_wp2_with (refine wpList_loadA rfl 45 _ rfl wr.heap.size 0 rfl _ _ HB8.out 2 [.int .i64 xm, .int .i64 (((k' + 1 : Nat) : Int))] rfl _ Tryz.underlying45 rfl infoRid (by simp [over]) ?_)
              refine (hdrop_any w8 (HB3.out.fresh HF8.out) ⟨HPG.out.2.2.1, HPG.out.2.2.2⟩ HPG.out.1 HPG.out.2.1 hnx3 ⟨by omega, hkt⟩ HGX.out HDR.out.1 HPL2.out).mono ?_
              rintro e w9 ⟨rfl, F4, hb4, hs4, hc4⟩
              have hwrF : ¬ F3 wr.heap.size := fun hk => by have := HB3.out.lt hk; omega
              have c9 := hc4.cell c8 hwrF
              have cq9 := hc4.cell cq8 HqF3
              have cq19 := hc4.cell (HF8.out.cell cq1 id) HqF3
              have hbF3 : ¬ F3 bx5 := fun hk => by
                rcases HS3.out bx5 hk with h1 | h1
                · exact HF5.out bx5 hbx5 h1
                · omega
              have hsz8 := HF8.out.size
              have hbF4 : ¬ F4 bx5 := fun hk => by
                rcases hs4 bx5 hk with h1 | h1
                · exact hbF3 h1
                · omega
              have HRC : Hid (BytesO w9 (.slice (some ⟨bx5, ox5, none⟩) xr.length cx5) xr F4) := .inr ⟨bx5, (HSL5.out.chg HF8.out id).chg hc4 hbF3, hbF4⟩
              have HB4 := Lib.hid hb4
              have HS4 : Hid (∀ j, F4 j → F2 j ∨ w5.heap.size ≤ j) := fun j hj => by
                rcases hs4 j hj with h1 | h1
                · exact HS3.out j h1
                · exact .inr (by omega)
              have HC4 : Hid (Chg F2 w5 w9) := (HC3.out.trans HF8.out (fun _ _ f => f.elim)).trans hc4 (fun j hj hF => by
                rcases HS3.out j hF with h1 | h1
                · exact h1
                · omega)
              have hw59 := HC4.out.size
              have HqF4 : ¬ F4 q := fun hk => by
                rcases hs4 q hk with h1 | h1
                · exact HqF3 h1
                · have := block_lt_of_cell cq8; simp only at this; omega
              clear hb4 hs4 hc4 HB3 HS3 HC3 HB8 HC8 HF8 c8 cq8 cq0 cq1
              go_wp2_with fail
              rw [← HLT3.out]
              refine (hinsert_any w9 HB4.out (HMD.out.1.bks B.length Lt (get_app2 B Lf4 Lt _)) HRC.out HR400.out HN2.out.1 HN2.out.2.1 HN2.out.2.2.1 (HN2.out.2.2.2.2.2 B.length Lt (get_app2 B Lf4 Lt _))).mono ?_
              rintro e w10 ⟨rfl, V5, ⟨F5, hb10, hs10, hc10⟩, hd10, hv10⟩
              rw [HLT3.out]
              have hins10 := HMD.out.1.ins (get_app2 B Lf4 Lt _) HN2.out hd10 hv10
              rw [set_app2 B Lf4 Lt] at hins10
              have HIN := Lib.hid hins10
              have HHP := Lib.hid (hins_perm n2 xr Lt)
              have HHN : Hid (nextAt (hins n2 xr Lt) 0 = nextAt Lt 0) := hins_next n2 xr Lt (HMD.out.1.bks B.length Lt (get_app2 B Lf4 Lt _)).ne
              have HB10 := Lib.hid hb10
              have HS10 : Hid (∀ j, F5 j → F2 j ∨ w5.heap.size ≤ j) := fun j hj => by
                rcases hs10 j hj with h1 | h1
                · exact HS4.out j h1
                · exact .inr (by omega)
              have HC10 : Hid (Chg F2 w5 w10) := HC4.out.trans hc10 (fun j hj hF => by
                rcases HS4.out j hF with h1 | h1
                · exact h1
                · omega)
              have cq10 := hc10.cell cq9 HqF4
              have cq110 := hc10.cell cq19 HqF4
              clear hins10 hb10 hs10 hc10 hd10 hv10
              generalize hins n2 xr Lt = Lt5 at *
              generalize hrid n2 xr Lt = rid5 at *
              go_wp2
              go_roundw
              case rel =>
                obtain ⟨p1, p2⟩ := spl_move HX.out HMV.out HPF.out HPT.out HDP.out HHP.out
                refine ⟨k + 1, by omega, by go_num, rfl, _, V5, F5, Lf4, Lt5, HB10.out, HS10.out, HC10.out, cq10, cq110, HIN.out.1, ?_, fun j hj => ?_, by rw [HHN.out]; exact HLT3.out, p1, p2⟩
                · have h1 := HIN.out.2.1
                  have h2 := HMD.out.2.1
                  have h3 := HNP3.out
                  omega
                · rw [HIN.out.2.2 j hj, HMD.out.2.2 j hj, HO3.out j hj]
              case measure => simp [intOf]; omega
          · obtain rfl : k = E5.length := by omega
            go_wp2
            go_ret
            have hsz := HC5.out.size
            have FIN : SplTo w b N root cnt n (n - l) O F B V E5 (npB O B + 1) wr := by
              refine ⟨T3, V3, Lf, Lt, ⟨F3, HB3.out, fun j hj => ?_, HC5.out.trans HC3.out (fun j hj hF => ?_)⟩, HST3.out, HNP3.out, HO3.out, ?_, ?_⟩
              · rcases HS3.out j hj with h1 | h1
                · exact HS2.out j h1
                · exact .inr (by omega)
              · rcases HS2.out j hF with h1 | h1
                · exact h1
                · omega
              · have := HPF.out; rwa [List.take_length, List.drop_length, List.append_nil] at this
              · have := HPT.out; rwa [List.take_length] at this
            rw [HLEV.out, HE5.out]
            exact ⟨rfl, FIN⟩
end Go.Proofs.YtnmjkgnahhbnoaaGreat
