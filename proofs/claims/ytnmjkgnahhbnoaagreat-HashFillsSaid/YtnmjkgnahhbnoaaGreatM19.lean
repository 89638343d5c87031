/- Part 19 of the walks that the laws of package hash share (HashI). -/
import Derived.Test.YtnmjkgnahhbnoaaGreatM18
set_option linter.unusedVariables false
set_option linter.unusedSimpArgs false
/- Walks of package hash: Insert. -/
namespace Go.Proofs.YtnmjkgnahhbnoaaGreat
open Go.RowKit
set_option linter.unusedSimpArgs false

theorem range_lt {w : World} {g o : Nat} {v : Value} {cs : List Value} (h : w.rangeAt g o (v :: cs)) : g < w.heap.size := by
  have := block_lt_of_cell (h 0 v rfl)
  exact this
/-- A key to be read. -/
def KeyV (w : World) (v : Value) (key : List UInt8) : Prop := BytesV w v key
theorem KeyV.fresh {w w1 : World} {v : Value} {key : List UInt8} (h : KeyV w v key) (hc : Fresh w w1) : KeyV w1 v key := BytesV.fresh h hc
theorem KeyV.bytesV' {w : World} {v : Value} {key : List UInt8} (h : KeyV w v key) : BytesV w v key := h

/-- A slice of entries that F does not speak of. -/
def EntsD (w : World) (base : Nat) (sv : Value) (E : List Ent) (F : Nat → Prop) : Prop := ∃ X, w.ownsRow base 73 3 sv E.length (eCells X) ∧ EntsV w base X E ∧ (∀ k, sv.ownBlock = some k → ¬ F k) ∧ ∀ x ∈ X, ∀ b, x.2.ownBlock = some b → ¬ F b
theorem EntsD.toS {w : World} {base : Nat} {sv : Value} {E : List Ent} {F : Nat → Prop} (h : EntsD w base sv E F) : EntsS w base sv E := by
  obtain ⟨X, h1, h2, _⟩ := h; exact ⟨X, h1, h2⟩
theorem EntsD.row {w : World} {base : Nat} {sv : Value} {E : List Ent} {F : Nat → Prop} (h : EntsD w base sv E F) : ∀ k, sv.ownBlock = some k → ¬ F k := by
  obtain ⟨X, _, _, h1, _⟩ := h; exact h1
theorem EntsV.own_lt {w : World} {base : Nat} {X : List ((Nat × Nat) × Value)} {E : List Ent} (h : EntsV w base X E) {x : (Nat × Nat) × Value} (hx : x ∈ X) {b : Nat} (hb : x.2.ownBlock = some b) : base ≤ b ∧ b < w.heap.size := by
  obtain ⟨i, hi⟩ := List.getElem?_of_mem hx
  have hlt : i < E.length := by rw [← h.len]; exact (List.getElem?_eq_some_iff.1 hi).1
  obtain ⟨b2, h1, h2⟩ := h.recs i x _ hi (List.getElem?_eq_getElem hlt)
  have h3 := h1.lt
  obtain ⟨_, _, _, hv, _⟩ := h1
  rw [hv] at hb
  simp only [Value.ownBlock, Option.some.injEq] at hb
  subst hb; exact ⟨h2, h3⟩
theorem EntsS.toD {w w1 : World} {base : Nat} {sv : Value} {E : List Ent} {F F2 : Nat → Prop} (h : EntsS w base sv E) (hc : Chg F w w1) (hF : ∀ k, F k → k < base) (hs : ∀ k, F2 k → F k ∨ w.heap.size ≤ k) : EntsD w1 base sv E F2 := by
  obtain ⟨X, h1, h2⟩ := h
  refine ⟨X, hc.owns h1 (fun k hk hf => ?_), h2.chg hc (fun i x b _ _ hb hf => by have := hF b hf; omega), fun k hk hf => ?_, fun x hx b hb hf => ?_⟩
  · have := (h1.lt k hk).1; have := hF k hf; omega
  · have h3 := h1.lt k hk
    rcases hs k hf with h4 | h4
    · have := hF k h4; omega
    · omega
  · have h3 := h2.own_lt hx hb
    rcases hs b hf with h4 | h4
    · have := hF b h4; omega
    · omega
theorem EntsD.chg {w w1 : World} {base : Nat} {sv : Value} {E : List Ent} {F : Nat → Prop} (h : EntsD w base sv E F) (hc : Chg F w w1) : EntsD w1 base sv E F := by
  obtain ⟨X, h1, h2, h3, h4⟩ := h
  exact ⟨X, hc.owns h1 h3, h2.chg hc (fun i x b hx hb _ => h4 x (List.mem_of_getElem? hx) b hb), h3, h4⟩
theorem EntsD.fresh {w w1 : World} {base : Nat} {sv : Value} {E : List Ent} {F : Nat → Prop} (h : EntsD w base sv E F) (hc : Fresh w w1) : EntsD w1 base sv E F := by
  obtain ⟨X, h1, h2, h3, h4⟩ := h
  exact ⟨X, hc.owns h1 (fun _ _ f => f), h2.chg hc (fun _ _ _ _ _ _ f => f), h3, h4⟩
theorem EntsD.chgB {w w1 : World} {base b : Nat} {sv : Value} {E : List Ent} {F : Nat → Prop} {e : TypeId} {cs : List Value} (h : EntsD w base sv E F) (hc : Chg (· = b) w w1) (hb : Blk w b e cs) (hn : 73 ≠ e ∧ 5 ≠ e) : EntsD w1 base sv E F := by
  obtain ⟨X, h1, h2, h3, h4⟩ := h
  exact ⟨X, hc.owns h1 (fun k hk hf => by have e2 : k = b := hf; exact owns_other h1 hb hn.1 (e2 ▸ hk)), h2.chgT hc (fun c cur hh hf => by
    have e2 : c = b := hf
    exact hb.not_bytes hh (fun e3 => hn.2 e3.symm) e2), h3, h4⟩

/-- Behind the record's way into its bucket. -/
def InsC (w : World) (b N base q9 q7 p s n0 : Nat) (F : Nat → Prop) (L : List (Nat × Rs)) (T : Nat → Bool) (V : Nat → Option (List UInt8)) (r : List UInt8) (E : List Ent) (sv v14 : Value) (wx : World) : Prop :=
  v14 = .int .i64 0 ∧ ∃ V2 F2, BatchV wx b N (if hidx r L < L.length then T else tput T n0 true) V2 F2 ∧ (∀ k, F2 k → F k ∨ w.heap.size ≤ k) ∧ Chg F w wx ∧ wx.rangeAt q9 0 [.pointer (some ⟨b, 0, none⟩), sv] ∧ wx.rangeAt q7 0 [.int .i64 p, .int .i64 s] ∧
    (¬ F2 q9 ∧ ¬ F2 q7) ∧ EntsD wx base sv E F2 ∧ HeapV V2 N (hins n0 r L) ∧ ∀ k, k ∉ pagesL (hins n0 r L) → V2 k = V k
/-- What an insertion leaves. -/
def InsTo (w : World) (b N root : Nat) (O : List Nat) (F : Nat → Prop) (B : List (List (Nat × Rs))) (V : Nat → Option (List UInt8)) (C : List HE) (w' : World) : Prop :=
  ∃ (T2 : Nat → Bool) (V2 : Nat → Option (List UInt8)) (B2 : List (List (Nat × Rs))), BatchTo w w' b N T2 V2 F ∧ HashV O V2 T2 N root B2 C ∧ (∀ j ∈ O, V2 j = V j) ∧
    ((C.length < 8 * B.length ∧ B2.length = B.length ∧ npB O B2 ≤ npB O B + 1) ∨ (8 * B.length ≤ C.length ∧ B2.length = B.length + 1 ∧ npB O B2 ≤ npB O B + 2 + C.length))

set_option maxRecDepth 100000 in
set_option maxHeartbeats 4000000 in
theorem hhinsert_any {b N root p s : Nat} {O : List Nat} {T : Nat → Bool} {V : Nat → Option (List UInt8)} {F : Nat → Prop} {B : List (List (Nat × Rs))} {C : List HE} {vk : Value} {key : List UInt8} (w : World) (h : BatchV w b N T V F) (hH : HashV O V T N root B C) (hk : BytesV w vk key) (hkl : key.length ≤ 140) (hps : p < 65536 ∧ s < 65536)
    (hC : (key, (p, s)) ∉ C) (hB : B.length ≤ 39) (hroom : npB O B + 4 + C.length < N) :
    Calls Tryz.prog 16 #[.pointer (some ⟨b, 0, none⟩), .int .i64 root, vk, .agg #[.int .i64 p, .int .i64 s]] w fun e w' => e = .returned (.int .i64 0) ∧ InsTo w b N root O F B V ((key, (p, s)) :: C) w' := by
  obtain ⟨L, hbk⟩ := hH.get key
  obtain ⟨n, hBn⟩ : ∃ n, n = B.length := ⟨_, rfl⟩
  rw [← hBn] at hbk hB
  have HB := Lib.hid h
  have HH := Lib.hid hH
  have HBK := Lib.hid hbk
  have HBN := Lib.hid hBn
  have HCN := Lib.hid hC
  have HFF : Hid (ffind (entB key (p, s)) (entsL L) = none) := hH.no (e := (key, (p, s))) ⟨hkl, hps⟩ hC (by rw [← hBn]; exact hbk)
  have hn : 1 ≤ n ∧ n ≤ 39 := ⟨by have := hH.nb.1; omega, hB⟩
  obtain ⟨ak, ck, rfl⟩ := hk.slice
  have HK : Hid (KeyV w (.slice ak key.length ck) key) := hk
  obtain ⟨n0, hnew⟩ := hH.st.free (by omega)
  have HNEW := Lib.hid hnew
  have hN := h.le
  have hroot := hH.st.dir.pg 0 root (dirR C.length B) rfl
  have hr1 : 1 ≤ root ∧ root < N := ⟨hroot.2.2.1, hroot.2.2.2⟩
  have HVL : Hid (HeapV V N L) := hH.st.bks _ L hbk
  have hnl : 1 ≤ nextAt L 0 ∧ nextAt L 0 < N := ⟨(HVL.out.next_lt 0).2 HVL.out.ne, (HVL.out.next_lt 0).1⟩
  have HDE : Hid ((entsL (dirL root C.length B)).length = n + 1) := by show _ = _; rw [dir_len, hBn]
  have HD0 : Hid (HeapV V N (dirL root C.length B)) := hH.st.dir
  have HEK : Hid ((entsL (dirL root C.length B))[bucketF key n + 1]? = some ((root, bucketF key n + 2), num3 (nextAt L 0))) := dir_page root C.length B _ L hbk
  have HE0 : Hid ((entsL (dirL root C.length B))[0]? = some ((root, 1), num3 C.length)) := dir_cnt root C.length B
  have hsm := hH.sm
  clear h hH hbk hBn hC hk hnew hroot
  go_enter Tryz.func16, Tryz.ntmps16
  go_wp2_with (first
    | (refine wpList_boxA rfl 45 _ rfl [.int .i64 p, .int .i64 s] rfl ?_
       intro w1 HR1 HF1 HS1
       have c1 := cells2 HR1.out))
  have hop := hopen_any (L := dirL root C.length B) w1 (HB.out.fresh HF1.out) HD0.out (by rw [HDE.out]; omega)
  rw [(dir_next root C.length B).1] at hop
  refine hop.mono ?_
  rintro e w2 ⟨sv, rfl, hes, hf2⟩
  clear hop
  generalize hEE : entsL (dirL root C.length B) = E at *
  have HEE := Lib.hid hEE
  clear hEE
  obtain ⟨g, cap, _, _, rfl, hbg, _, _, _, _, _⟩ := hes.cells HE0.out
  have hes2 := hes
  rw [HDE.out] at hes2 ⊢
  have HES := Lib.hid hes2
  have HR2 := Lib.hid (HR1.out.chg hf2 id)
  have HF2 := Lib.hid (HF1.out.trans hf2 (fun _ _ f => f))
  have hbase : w.heap.size + 1 = w1.heap.size := HS1.out.symm
  have hb2 := hf2.size
  clear hes hes2 hf2 HR1 HF1 HS1 c1
  generalize hbb : w1.heap.size = base at *
  clear hbb
  go_wp2_with (first
    | (refine wpList_allocA rfl 65 rfl [.pointer none, .slice none 0 0] Tryz.zeroValue65 ?_
       intro w3 HB3 HF3 HS3)
    | (refine wpList_storeA rfl 65 _ _ rfl w2.heap.size 0 rfl [.pointer (some ⟨b, 0, none⟩), .slice (some ⟨g, 0, none⟩) (n + 1) cap] rfl _ _ HB3.out infoIdx (by simp) (by simp [Value.oneCell']) ?_
       intro w4 HB4 HC4
       have hb4 := HB4.out
       rw [over_all _ _ (by simp)] at hb4
       have HX4 := Lib.hid hb4
       clear hb4
       have HF4 : Hid (Fresh w2 w4) := HF3.out.trans HC4.out (fun k hk e => by omega))
    | (refine wpList_loadA rfl 65 _ rfl w2.heap.size 0 rfl _ _ HX4.out 2 [.pointer (some ⟨b, 0, none⟩), .slice (some ⟨g, 0, none⟩) (n + 1) cap] (take_all _ _ (by simp)) _ Tryz.underlying65 rfl infoIdx (by simp) ?_)
    | (refine wpList_loadA rfl 45 _ rfl w.heap.size 0 rfl _ _ (HR2.out.chg HF4.out id) 2 [.int .i64 p, .int .i64 s] (take_all _ _ (by simp)) _ Tryz.underlying45 rfl infoRid (by simp) ?_))
  have HF5 := Lib.hid (HF2.out.trans HF4.out (fun _ _ f => f))
  refine (hfind_any w4 (HB.out.fresh HF5.out) HVL.out (HES.out.fresh HF4.out) HDE.out (by omega) HEK.out (by omega) rfl (HK.out.fresh HF5.out) (by omega) hps).mono ?_
  rintro e w5 ⟨rfl, hf5⟩
  rw [HFF.out]
  simp only [Option.getD_none, Option.isSome_none]
  have HF6 := Lib.hid (HF5.out.trans hf5 (fun _ _ f => f))
  have HX6 := Lib.hid (HX4.out.chg hf5 id)
  have HR6 := Lib.hid ((HR2.out.chg HF4.out id).chg hf5 id)
  have HES6 := Lib.hid ((HES.out.fresh HF4.out).fresh hf5)
  have hq79 : w.heap.size < base ∧ base ≤ w2.heap.size := ⟨by omega, hb2⟩
  clear hf5 HF5 HF4 HB4 HC4 HX4 HB3 HF3 HS3 HES HR2 HF2
  generalize hq9 : w2.heap.size = q9 at *
  generalize hq7 : w.heap.size = q7 at *
  have HQ7 := Lib.hid hq7
  clear hq9 hq7
  go_wp2_with (first
    | (refine wpList_allocA rfl 45 rfl [.int .i64 0, .int .i64 0] Tryz.zeroValue45 ?_
       intro w7 HB7 HF7 HS7)
    | (refine wpList_storeA rfl 45 _ _ rfl w5.heap.size 0 rfl [.int .i64 0, .int .i64 0] rfl _ _ HB7.out infoRid (by simp) (by simp [Value.oneCell']) ?_
       intro w8 HB8 HC8))
  have hf58 : Fresh w5 w8 := HF7.out.trans HC8.out (fun k hk e => by omega)
  have HF8 := Lib.hid (HF6.out.trans hf58 (fun _ _ f => f))
  have HX8 := Lib.hid (HX6.out.chg hf58 id)
  have HR8 := Lib.hid (HR6.out.chg hf58 id)
  have HES8 := Lib.hid (HES6.out.fresh hf58)
  clear hf58 HB7 HF7 HS7 HB8 HC8 HF6 HX6 HR6 HES6
  have HBF : Hid (∀ k, F k → k < base) := fun k hk => by have := HB.out.lt hk; have := HQ7.out; omega
  have HqF : ¬ F q9 ∧ ¬ F q7 := ⟨fun hk => by have := HBF.out q9 hk; omega, fun hk => by have := HB.out.lt hk; have := HQ7.out; omega⟩
  go_cut [14] from 59 to 74 (fun v14 wx => InsC w b N base q9 q7 p s n0 F L T V (entB key (p, s)) E (.slice (some ⟨g, 0, none⟩) (n + 1) cap) v14 wx)
  case first =>
    refine wp_region_held_drew (S := fun W => W.rangeAt q9 0 [.pointer (some ⟨b, 0, none⟩), .slice (some ⟨g, 0, none⟩) (n + 1) cap] ∧ W.rangeAt q7 0 [.int .i64 p, .int .i64 s] ∧ Chg F w W) (by kernel_rfl) ⟨HX8.out.drew.range 0 2 rfl, HR8.out.drew.range 0 2 rfl, HF8.out.drew.fresh⟩ (fun hHeld => ?_)
    have HBV := Lib.hid (HB.out.fresh HF8.out.drew)
    have HKY := Lib.hid (HK.out.fresh HF8.out.drew)
    have HES := Lib.hid (HES8.out.fresh ((Chg.refl (fun _ => False) w8).drew))
    clear HX8 HR8 HES8 HF8
    have hnw : IntKind.i64.wrap (n : Int) = n := IntWalk.i64_in _ (by omega)
    have hdl : E.length ≤ 1000000 := by have := HDE.out; omega
    generalize w8.drew = wc at *
    refine takeL 0 (.pointer (some ⟨b, 0, none⟩)) rfl (by kernel_rfl) (by kernel_rfl) (by kernel_rfl) (fun _ _ _ h => h) (Or.inl ⟨by rfl, fun W hW => by rfl⟩) hHeld ?_
    try simp only [Act.put, List.setIfInBounds_toArray, List.set_cons_zero, List.set_cons_succ]
    refine takeL 1 (.agg ([.pointer (some ⟨b, 0, none⟩), .slice (some ⟨g, 0, none⟩) (n + 1) cap]).toArray) rfl (by kernel_rfl) (by kernel_rfl) (by kernel_rfl) (fun _ _ _ h => h) (yieldsIf_load_mid (by rfl) _ _ rfl _ _ rfl _ _ (fun W hW => hW.1) Tryz.underlying65 rfl infoIdx) hHeld ?_
    try simp only [Act.put, List.setIfInBounds_toArray, List.set_cons_zero, List.set_cons_succ]
    refine takeL 2 (.slice ak key.length ck) rfl (by kernel_rfl) (by kernel_rfl) (by kernel_rfl) (fun _ _ _ h => h) (Or.inl ⟨by rfl, fun W hW => by rfl⟩) hHeld ?_
    try simp only [Act.put, List.setIfInBounds_toArray, List.set_cons_zero, List.set_cons_succ]
    refine takeL 3 (.pointer (some ⟨q9, 1, none⟩)) rfl (by kernel_rfl) (by kernel_rfl) (by kernel_rfl) (fun _ _ _ h => h) (Or.inl ⟨by rfl, fun W hW => by go_simp⟩) hHeld ?_
    try simp only [Act.put, List.setIfInBounds_toArray, List.set_cons_zero, List.set_cons_succ]
    refine takeL 4 (.slice (some ⟨g, 0, none⟩) (n + 1) cap) rfl (by kernel_rfl) (by kernel_rfl) (by kernel_rfl) (fun _ _ _ h => h) (Or.inl ⟨by rfl, fun W hW => by have c1 := hW.1 1 _ rfl; simp only [Nat.zero_add] at c1; go_simp⟩) hHeld ?_
    try simp only [Act.put, List.setIfInBounds_toArray, List.set_cons_zero, List.set_cons_succ]
    refine takeL 5 (.int .i64 ((n : Int) + 1)) rfl (by kernel_rfl) (by kernel_rfl) (by kernel_rfl) (fun _ _ _ h => h) (Or.inl ⟨by rfl, fun W hW => by go_simp⟩) hHeld ?_
    try simp only [Act.put, List.setIfInBounds_toArray, List.set_cons_zero, List.set_cons_succ]
    refine takeL 6 (.int .i64 (n : Int)) rfl (by kernel_rfl) (by kernel_rfl) (by kernel_rfl) (fun _ _ _ h => h) (Or.inl ⟨by rfl, fun W hW => by go_simp⟩) hHeld ?_
    try simp only [Act.put, List.setIfInBounds_toArray, List.set_cons_zero, List.set_cons_succ]
    refine takeL 9 (.slice ak key.length ck) rfl (by kernel_rfl) (by kernel_rfl) (by kernel_rfl) (fun _ _ _ h => h) (Or.inl ⟨by rfl, fun W hW => by rfl⟩) hHeld ?_
    try simp only [Act.put, List.setIfInBounds_toArray, List.set_cons_zero, List.set_cons_succ]
    refine takeL 10 (.agg ([.int .i64 p, .int .i64 s]).toArray) rfl (by kernel_rfl) (by kernel_rfl) (by kernel_rfl) (fun _ _ _ h => h) (yieldsIf_load_mid (by rfl) _ _ rfl _ _ rfl _ _ (fun W hW => hW.2.1) Tryz.underlying45 rfl infoRid) hHeld ?_
    try simp only [Act.put, List.setIfInBounds_toArray, List.set_cons_zero, List.set_cons_succ]
    refine twoL 7 16 rfl rfl (by kernel_rfl) (by rfl) (by rfl) (fun K hK => ?_) (fun K hK => ?_)
    · go_simp
      refine (hbucket_any _ key n _ HKY.out.bytesV' (by omega) (by omega)).mono ?_
      rintro e wy ⟨rfl, rfl⟩
      refine hK.out _ _ hHeld (fun hHeld => ?_)
      clear hK K
      try simp only [Act.put, List.setIfInBounds_toArray, List.set_cons_zero, List.set_cons_succ]
      refine twoL 8 16 rfl rfl (by kernel_rfl) (by rfl) (by rfl) (fun K hK => ?_) (fun K hK => ?_)
      · go_simp
        refine (hpage_any b base (bucketF key n) (nextAt L 0) _ E _ _ HES.out HEK.out (by omega) (by omega)).mono ?_
        rintro e wp ⟨rfl, hfp⟩
        have HBV := Lib.hid (HBV.out.fresh hfp)
        have HKY := Lib.hid (HKY.out.fresh hfp)
        have HES := Lib.hid (HES.out.fresh hfp)
        refine hK.out _ _ ⟨rangeAt_chg hHeld.1 hfp id, rangeAt_chg hHeld.2.1 hfp id, hHeld.2.2.trans hfp (fun _ _ f => f.elim)⟩ (fun hHeld => ?_)
        clear hK K
        try simp only [Act.put, List.setIfInBounds_toArray, List.set_cons_zero, List.set_cons_succ]
        clear hfp
        refine twoL 11 16 rfl rfl (by kernel_rfl) (by rfl) (by rfl) (fun K hK => ?_) (fun K hK => ?_)
        · go_simp
          refine (hentry_any _ key p s _ HKY.out.bytesV' (by omega) hps.1 hps.2).mono ?_
          rintro e we ⟨ve, rfl, hve, hfe⟩
          have HVE : Hid (BytesO we ve (entB key (p, s)) F) := hve.toO (fun k hk => HBV.out.lt hk)
          have HBV := Lib.hid (HBV.out.fresh hfe)
          have HKY := Lib.hid (HKY.out.fresh hfe)
          have HES := Lib.hid (HES.out.fresh hfe)
          refine hK.out _ _ ⟨rangeAt_chg hHeld.1 hfe id, rangeAt_chg hHeld.2.1 hfe id, hHeld.2.2.trans hfe (fun _ _ f => f.elim)⟩ (fun hHeld => ?_)
          clear hK K
          try simp only [Act.put, List.setIfInBounds_toArray, List.set_cons_zero, List.set_cons_succ]
          clear hve hfe
          refine twoL 12 16 rfl rfl (by kernel_rfl) (by rfl) (by rfl) (fun K hK => ?_) (fun K hK => ?_)
          · go_simp
            refine (hinsert_any _ HBV.out HVL.out HVE.out (by rw [entB_length]; omega) HNEW.out.1 HNEW.out.2.1 HNEW.out.2.2.1 (HNEW.out.2.2.2.2.2 _ _ HBK.out)).mono ?_
            rintro e wi ⟨rfl, V2, ⟨F2, hbv2, hs2, hc2⟩, hd2, hv2⟩
            have hqs : q9 < we.heap.size ∧ q7 < we.heap.size := ⟨range_lt hHeld.1, range_lt hHeld.2.1⟩
            have hsz : w.heap.size ≤ we.heap.size := hHeld.2.2.size
            have HS2 : Hid (∀ k, F2 k → F k ∨ w.heap.size ≤ k) := fun k hk => by
              rcases hs2 k hk with h1 | h1
              · exact .inl h1
              · exact .inr (by omega)
            have HNQ : ¬ F2 q9 ∧ ¬ F2 q7 := ⟨fun hk => by
              rcases hs2 q9 hk with h1 | h1
              · exact HqF.1 h1
              · omega, fun hk => by
              rcases hs2 q7 hk with h1 | h1
              · exact HqF.2 h1
              · omega⟩
            have HES := Lib.hid (HES.out.toD hc2 HBF.out hs2)
            have HBV := Lib.hid hbv2
            have HD2 := Lib.hid hd2
            have HV2 := Lib.hid hv2
            refine hK.out _ _ ⟨rangeAt_chg hHeld.1 hc2 HqF.1, rangeAt_chg hHeld.2.1 hc2 HqF.2, hHeld.2.2.trans hc2 (fun _ _ h => h)⟩ (fun hHeld => ?_)
            clear hK K
            try simp only [Act.put, List.setIfInBounds_toArray, List.set_cons_zero, List.set_cons_succ]
            clear hbv2 hd2 hv2 hs2 hc2
            generalize hrid n0 (entB key (p, s)) L = rid at *
            refine takeL 13 (.tuple #[.agg #[.int .i64 rid.1, .int .i64 rid.2], .int .i64 0]) rfl (by kernel_rfl) (by kernel_rfl) (by kernel_rfl) (fun _ _ _ h => h) (Or.inl ⟨by rfl, fun W hW => by rfl⟩) hHeld ?_
            try simp only [Act.put, List.setIfInBounds_toArray, List.set_cons_zero, List.set_cons_succ]
            refine takeL 14 (.agg #[.int .i64 rid.1, .int .i64 rid.2]) rfl (by kernel_rfl) (by kernel_rfl) (by kernel_rfl) (fun _ _ _ h => h) (Or.inl ⟨by rfl, fun W hW => by rfl⟩) hHeld ?_
            try simp only [Act.put, List.setIfInBounds_toArray, List.set_cons_zero, List.set_cons_succ]
            refine takeL 15 (.int .i64 0) rfl (by kernel_rfl) (by kernel_rfl) (by kernel_rfl) (fun _ _ _ h => h) (Or.inl ⟨by rfl, fun W hW => by rfl⟩) hHeld ?_
            try simp only [Act.put, List.setIfInBounds_toArray, List.set_cons_zero, List.set_cons_succ]
            refine oneL 16 rfl (by kernel_rfl) (by rfl) (fun K hK => ?_)
            refine wp_allocM 45 rfl [.int .i64 0, .int .i64 0] Tryz.zeroValue45 ?_
            intro wa HBA HFA HSA
            have HNF : ¬ F2 wi.heap.size := fun hk => by have := HBV.out.lt hk; omega
            have hwc : w.heap.size ≤ wi.heap.size := hHeld.2.2.size
            have hqa0 : q9 < wi.heap.size ∧ q7 < wi.heap.size := ⟨range_lt hHeld.1, range_lt hHeld.2.1⟩
            have HBV := Lib.hid (HBV.out.fresh HFA.out)
            refine hK.out _ _ ⟨rangeAt_chg hHeld.1 HFA.out id, rangeAt_chg hHeld.2.1 HFA.out id, hHeld.2.2.trans HFA.out (fun _ _ f => f.elim)⟩ (fun hHeld => ?_)
            clear hK K
            try simp only [Act.put, List.setIfInBounds_toArray, List.set_cons_zero, List.set_cons_succ]
            have HES := Lib.hid (HES.out.fresh HFA.out)
            clear HFA HSA
            generalize wi.heap.size = qa at *
            refine oneL 17 rfl (by kernel_rfl) (by rfl) (fun K hK => ?_)
            refine wp_storeA 45 _ _ rfl qa 0 rfl [.int .i64 rid.1, .int .i64 rid.2] rfl _ _ HBA.out infoRid (by simp) (by simp [Value.oneCell']) ?_
            intro ws HBS HCS
            have HBV := Lib.hid (HBV.out.chg HCS.out (fun k hk e => HNF (by rw [← e]; exact hk)))
            have HES := Lib.hid (HES.out.chgB HCS.out HBA.out ⟨by decide, by decide⟩)
            refine hK.out _ _ ⟨rangeAt_chg hHeld.1 HCS.out (fun e => by have e2 : q9 = qa := e; omega), rangeAt_chg hHeld.2.1 HCS.out (fun e => by have e2 : q7 = qa := e; omega), hHeld.2.2.trans HCS.out (fun k hk e => by omega)⟩ (fun hHeld => ?_)
            clear hK K
            try simp only [Act.put, List.setIfInBounds_toArray, List.set_cons_zero, List.set_cons_succ]
            refine takeL 18 (.int .i64 0) rfl (by kernel_rfl) (by kernel_rfl) (by kernel_rfl) (fun _ _ _ h => h) (Or.inl ⟨by rfl, fun W hW => by rfl⟩) hHeld ?_
            try simp only [Act.put, List.setIfInBounds_toArray, List.set_cons_zero, List.set_cons_succ]
            refine wpAnyH_done (by kernel_rfl) ?_ _
            go_wp2
            go_meet
            case rel => exact ⟨rfl, V2, F2, HBV.out, HS2.out, hHeld.2.2, hHeld.1, hHeld.2.1, HNQ, HES.out, HD2.out, HV2.out⟩
          · refine wp_allocM 45 rfl [.int .i64 0, .int .i64 0] Tryz.zeroValue45 ?_
            intro wa HBA HFA HSA
            have HNF : ¬ F we.heap.size := fun hk => by have := HBV.out.lt hk; omega
            have hwc : w.heap.size ≤ we.heap.size := hHeld.2.2.size
            have hqa0 : q9 < we.heap.size ∧ q7 < we.heap.size := ⟨range_lt hHeld.1, range_lt hHeld.2.1⟩
            have HBV := Lib.hid (HBV.out.fresh HFA.out)
            have HKY := Lib.hid (HKY.out.fresh HFA.out)
            have HES := Lib.hid (HES.out.fresh HFA.out)
            have HVE := Lib.hid (HVE.out.fresh HFA.out)
            refine hK.out _ _ ⟨rangeAt_chg hHeld.1 HFA.out id, rangeAt_chg hHeld.2.1 HFA.out id, hHeld.2.2.trans HFA.out (fun _ _ f => f.elim)⟩ (fun hHeld => ?_)
            clear hK K
            try simp only [Act.put, List.setIfInBounds_toArray, List.set_cons_zero, List.set_cons_succ]
            clear HFA HSA
            generalize we.heap.size = qa at *
            refine oneL 12 rfl (by kernel_rfl) (by rfl) (fun K hK => ?_)
            go_simp
            refine (hinsert_any _ HBV.out HVL.out HVE.out (by rw [entB_length]; omega) HNEW.out.1 HNEW.out.2.1 HNEW.out.2.2.1 (HNEW.out.2.2.2.2.2 _ _ HBK.out)).mono ?_
            rintro e wi ⟨rfl, V2, ⟨F2, hbv2, hs2, hc2⟩, hd2, hv2⟩
            have hqs : q9 < wa.heap.size ∧ q7 < wa.heap.size := ⟨range_lt hHeld.1, range_lt hHeld.2.1⟩
            have hsz : w.heap.size ≤ wa.heap.size := hHeld.2.2.size
            have HS2 : Hid (∀ k, F2 k → F k ∨ w.heap.size ≤ k) := fun k hk => by
              rcases hs2 k hk with h1 | h1
              · exact .inl h1
              · exact .inr (by omega)
            have HNQ : ¬ F2 q9 ∧ ¬ F2 q7 := ⟨fun hk => by
              rcases hs2 q9 hk with h1 | h1
              · exact HqF.1 h1
              · omega, fun hk => by
              rcases hs2 q7 hk with h1 | h1
              · exact HqF.2 h1
              · omega⟩
            have HES := Lib.hid (HES.out.toD hc2 HBF.out hs2)
            have HBV := Lib.hid hbv2
            have HD2 := Lib.hid hd2
            have HV2 := Lib.hid hv2
            have HNF : ¬ F2 qa := fun hk => by
              rcases hs2 qa hk with h1 | h1
              · exact HNF h1
              · have := HBA.out.lt; omega
            have HBA := Lib.hid (HBA.out.chg hc2 (by assumption))
            refine hK.out _ _ ⟨rangeAt_chg hHeld.1 hc2 HqF.1, rangeAt_chg hHeld.2.1 hc2 HqF.2, hHeld.2.2.trans hc2 (fun _ _ h => h)⟩ (fun hHeld => ?_)
            clear hK K
            try simp only [Act.put, List.setIfInBounds_toArray, List.set_cons_zero, List.set_cons_succ]
            clear hbv2 hd2 hv2 hs2 hc2
            generalize hrid n0 (entB key (p, s)) L = rid at *
            refine takeL 13 (.tuple #[.agg #[.int .i64 rid.1, .int .i64 rid.2], .int .i64 0]) rfl (by kernel_rfl) (by kernel_rfl) (by kernel_rfl) (fun _ _ _ h => h) (Or.inl ⟨by rfl, fun W hW => by rfl⟩) hHeld ?_
            try simp only [Act.put, List.setIfInBounds_toArray, List.set_cons_zero, List.set_cons_succ]
            refine takeL 14 (.agg #[.int .i64 rid.1, .int .i64 rid.2]) rfl (by kernel_rfl) (by kernel_rfl) (by kernel_rfl) (fun _ _ _ h => h) (Or.inl ⟨by rfl, fun W hW => by rfl⟩) hHeld ?_
            try simp only [Act.put, List.setIfInBounds_toArray, List.set_cons_zero, List.set_cons_succ]
            refine takeL 15 (.int .i64 0) rfl (by kernel_rfl) (by kernel_rfl) (by kernel_rfl) (fun _ _ _ h => h) (Or.inl ⟨by rfl, fun W hW => by rfl⟩) hHeld ?_
            try simp only [Act.put, List.setIfInBounds_toArray, List.set_cons_zero, List.set_cons_succ]
            refine oneL 17 rfl (by kernel_rfl) (by rfl) (fun K hK => ?_)
            refine wp_storeA 45 _ _ rfl qa 0 rfl [.int .i64 rid.1, .int .i64 rid.2] rfl _ _ HBA.out infoRid (by simp) (by simp [Value.oneCell']) ?_
            intro ws HBS HCS
            have HBV := Lib.hid (HBV.out.chg HCS.out (fun k hk e => HNF (by rw [← e]; exact hk)))
            have HES := Lib.hid (HES.out.chgB HCS.out HBA.out ⟨by decide, by decide⟩)
            refine hK.out _ _ ⟨rangeAt_chg hHeld.1 HCS.out (fun e => by have e2 : q9 = qa := e; omega), rangeAt_chg hHeld.2.1 HCS.out (fun e => by have e2 : q7 = qa := e; omega), hHeld.2.2.trans HCS.out (fun k hk e => by omega)⟩ (fun hHeld => ?_)
            clear hK K
            try simp only [Act.put, List.setIfInBounds_toArray, List.set_cons_zero, List.set_cons_succ]
            refine takeL 18 (.int .i64 0) rfl (by kernel_rfl) (by kernel_rfl) (by kernel_rfl) (fun _ _ _ h => h) (Or.inl ⟨by rfl, fun W hW => by rfl⟩) hHeld ?_
            try simp only [Act.put, List.setIfInBounds_toArray, List.set_cons_zero, List.set_cons_succ]
            refine wpAnyH_done (by kernel_rfl) ?_ _
            go_wp2
            go_meet
            case rel => exact ⟨rfl, V2, F2, HBV.out, HS2.out, hHeld.2.2, hHeld.1, hHeld.2.1, HNQ, HES.out, HD2.out, HV2.out⟩
        · refine wp_allocM 45 rfl [.int .i64 0, .int .i64 0] Tryz.zeroValue45 ?_
          intro wa HBA HFA HSA
          have HNF : ¬ F wp.heap.size := fun hk => by have := HBV.out.lt hk; omega
          have hwc : w.heap.size ≤ wp.heap.size := hHeld.2.2.size
          have hqa0 : q9 < wp.heap.size ∧ q7 < wp.heap.size := ⟨range_lt hHeld.1, range_lt hHeld.2.1⟩
          have HBV := Lib.hid (HBV.out.fresh HFA.out)
          have HKY := Lib.hid (HKY.out.fresh HFA.out)
          have HES := Lib.hid (HES.out.fresh HFA.out)
          refine hK.out _ _ ⟨rangeAt_chg hHeld.1 HFA.out id, rangeAt_chg hHeld.2.1 HFA.out id, hHeld.2.2.trans HFA.out (fun _ _ f => f.elim)⟩ (fun hHeld => ?_)
          clear hK K
          try simp only [Act.put, List.setIfInBounds_toArray, List.set_cons_zero, List.set_cons_succ]
          clear HFA HSA
          generalize wp.heap.size = qa at *
          refine oneL 11 rfl (by kernel_rfl) (by rfl) (fun K hK => ?_)
          go_simp
          refine (hentry_any _ key p s _ HKY.out.bytesV' (by omega) hps.1 hps.2).mono ?_
          rintro e we ⟨ve, rfl, hve, hfe⟩
          have HVE : Hid (BytesO we ve (entB key (p, s)) F) := hve.toO (fun k hk => HBV.out.lt hk)
          have HBV := Lib.hid (HBV.out.fresh hfe)
          have HKY := Lib.hid (HKY.out.fresh hfe)
          have HES := Lib.hid (HES.out.fresh hfe)
          have HBA := Lib.hid (HBA.out.chg hfe id)
          refine hK.out _ _ ⟨rangeAt_chg hHeld.1 hfe id, rangeAt_chg hHeld.2.1 hfe id, hHeld.2.2.trans hfe (fun _ _ f => f.elim)⟩ (fun hHeld => ?_)
          clear hK K
          try simp only [Act.put, List.setIfInBounds_toArray, List.set_cons_zero, List.set_cons_succ]
          clear hve hfe
          refine oneL 12 rfl (by kernel_rfl) (by rfl) (fun K hK => ?_)
          go_simp
          refine (hinsert_any _ HBV.out HVL.out HVE.out (by rw [entB_length]; omega) HNEW.out.1 HNEW.out.2.1 HNEW.out.2.2.1 (HNEW.out.2.2.2.2.2 _ _ HBK.out)).mono ?_
          rintro e wi ⟨rfl, V2, ⟨F2, hbv2, hs2, hc2⟩, hd2, hv2⟩
          have hqs : q9 < we.heap.size ∧ q7 < we.heap.size := ⟨range_lt hHeld.1, range_lt hHeld.2.1⟩
          have hsz : w.heap.size ≤ we.heap.size := hHeld.2.2.size
          have HS2 : Hid (∀ k, F2 k → F k ∨ w.heap.size ≤ k) := fun k hk => by
            rcases hs2 k hk with h1 | h1
            · exact .inl h1
            · exact .inr (by omega)
          have HNQ : ¬ F2 q9 ∧ ¬ F2 q7 := ⟨fun hk => by
            rcases hs2 q9 hk with h1 | h1
            · exact HqF.1 h1
            · omega, fun hk => by
            rcases hs2 q7 hk with h1 | h1
            · exact HqF.2 h1
            · omega⟩
          have HES := Lib.hid (HES.out.toD hc2 HBF.out hs2)
          have HBV := Lib.hid hbv2
          have HD2 := Lib.hid hd2
          have HV2 := Lib.hid hv2
          have HNF : ¬ F2 qa := fun hk => by
            rcases hs2 qa hk with h1 | h1
            · exact HNF h1
            · have := HBA.out.lt; omega
          have HBA := Lib.hid (HBA.out.chg hc2 (by assumption))
          refine hK.out _ _ ⟨rangeAt_chg hHeld.1 hc2 HqF.1, rangeAt_chg hHeld.2.1 hc2 HqF.2, hHeld.2.2.trans hc2 (fun _ _ h => h)⟩ (fun hHeld => ?_)
          clear hK K
          try simp only [Act.put, List.setIfInBounds_toArray, List.set_cons_zero, List.set_cons_succ]
          clear hbv2 hd2 hv2 hs2 hc2
          generalize hrid n0 (entB key (p, s)) L = rid at *
          refine takeL 13 (.tuple #[.agg #[.int .i64 rid.1, .int .i64 rid.2], .int .i64 0]) rfl (by kernel_rfl) (by kernel_rfl) (by kernel_rfl) (fun _ _ _ h => h) (Or.inl ⟨by rfl, fun W hW => by rfl⟩) hHeld ?_
          try simp only [Act.put, List.setIfInBounds_toArray, List.set_cons_zero, List.set_cons_succ]
          refine takeL 14 (.agg #[.int .i64 rid.1, .int .i64 rid.2]) rfl (by kernel_rfl) (by kernel_rfl) (by kernel_rfl) (fun _ _ _ h => h) (Or.inl ⟨by rfl, fun W hW => by rfl⟩) hHeld ?_
          try simp only [Act.put, List.setIfInBounds_toArray, List.set_cons_zero, List.set_cons_succ]
          refine takeL 15 (.int .i64 0) rfl (by kernel_rfl) (by kernel_rfl) (by kernel_rfl) (fun _ _ _ h => h) (Or.inl ⟨by rfl, fun W hW => by rfl⟩) hHeld ?_
          try simp only [Act.put, List.setIfInBounds_toArray, List.set_cons_zero, List.set_cons_succ]
          refine oneL 17 rfl (by kernel_rfl) (by rfl) (fun K hK => ?_)
          refine wp_storeA 45 _ _ rfl qa 0 rfl [.int .i64 rid.1, .int .i64 rid.2] rfl _ _ HBA.out infoRid (by simp) (by simp [Value.oneCell']) ?_
          intro ws HBS HCS
          have HBV := Lib.hid (HBV.out.chg HCS.out (fun k hk e => HNF (by rw [← e]; exact hk)))
          have HES := Lib.hid (HES.out.chgB HCS.out HBA.out ⟨by decide, by decide⟩)
          refine hK.out _ _ ⟨rangeAt_chg hHeld.1 HCS.out (fun e => by have e2 : q9 = qa := e; omega), rangeAt_chg hHeld.2.1 HCS.out (fun e => by have e2 : q7 = qa := e; omega), hHeld.2.2.trans HCS.out (fun k hk e => by omega)⟩ (fun hHeld => ?_)
          clear hK K
          try simp only [Act.put, List.setIfInBounds_toArray, List.set_cons_zero, List.set_cons_succ]
          refine takeL 18 (.int .i64 0) rfl (by kernel_rfl) (by kernel_rfl) (by kernel_rfl) (fun _ _ _ h => h) (Or.inl ⟨by rfl, fun W hW => by rfl⟩) hHeld ?_
          try simp only [Act.put, List.setIfInBounds_toArray, List.set_cons_zero, List.set_cons_succ]
          refine wpAnyH_done (by kernel_rfl) ?_ _
          go_wp2
          go_meet
          case rel => exact ⟨rfl, V2, F2, HBV.out, HS2.out, hHeld.2.2, hHeld.1, hHeld.2.1, HNQ, HES.out, HD2.out, HV2.out⟩
      · refine wp_allocM 45 rfl [.int .i64 0, .int .i64 0] Tryz.zeroValue45 ?_
        intro wa HBA HFA HSA
        have HNF : ¬ F wc.heap.size := fun hk => by have := HBV.out.lt hk; omega
        have hwc : w.heap.size ≤ wc.heap.size := hHeld.2.2.size
        have hqa0 : q9 < wc.heap.size ∧ q7 < wc.heap.size := ⟨range_lt hHeld.1, range_lt hHeld.2.1⟩
        have HBV := Lib.hid (HBV.out.fresh HFA.out)
        have HKY := Lib.hid (HKY.out.fresh HFA.out)
        have HES := Lib.hid (HES.out.fresh HFA.out)
        refine hK.out _ _ ⟨rangeAt_chg hHeld.1 HFA.out id, rangeAt_chg hHeld.2.1 HFA.out id, hHeld.2.2.trans HFA.out (fun _ _ f => f.elim)⟩ (fun hHeld => ?_)
        clear hK K
        try simp only [Act.put, List.setIfInBounds_toArray, List.set_cons_zero, List.set_cons_succ]
        clear HFA HSA
        generalize wc.heap.size = qa at *
        refine oneL 8 rfl (by kernel_rfl) (by rfl) (fun K hK => ?_)
        go_simp
        refine (hpage_any b base (bucketF key n) (nextAt L 0) _ E _ _ HES.out HEK.out (by omega) (by omega)).mono ?_
        rintro e wp ⟨rfl, hfp⟩
        have HBV := Lib.hid (HBV.out.fresh hfp)
        have HKY := Lib.hid (HKY.out.fresh hfp)
        have HES := Lib.hid (HES.out.fresh hfp)
        have HBA := Lib.hid (HBA.out.chg hfp id)
        refine hK.out _ _ ⟨rangeAt_chg hHeld.1 hfp id, rangeAt_chg hHeld.2.1 hfp id, hHeld.2.2.trans hfp (fun _ _ f => f.elim)⟩ (fun hHeld => ?_)
        clear hK K
        try simp only [Act.put, List.setIfInBounds_toArray, List.set_cons_zero, List.set_cons_succ]
        clear hfp
        refine oneL 11 rfl (by kernel_rfl) (by rfl) (fun K hK => ?_)
        go_simp
        refine (hentry_any _ key p s _ HKY.out.bytesV' (by omega) hps.1 hps.2).mono ?_
        rintro e we ⟨ve, rfl, hve, hfe⟩
        have HVE : Hid (BytesO we ve (entB key (p, s)) F) := hve.toO (fun k hk => HBV.out.lt hk)
        have HBV := Lib.hid (HBV.out.fresh hfe)
        have HKY := Lib.hid (HKY.out.fresh hfe)
        have HES := Lib.hid (HES.out.fresh hfe)
        have HBA := Lib.hid (HBA.out.chg hfe id)
        refine hK.out _ _ ⟨rangeAt_chg hHeld.1 hfe id, rangeAt_chg hHeld.2.1 hfe id, hHeld.2.2.trans hfe (fun _ _ f => f.elim)⟩ (fun hHeld => ?_)
        clear hK K
        try simp only [Act.put, List.setIfInBounds_toArray, List.set_cons_zero, List.set_cons_succ]
        clear hve hfe
        refine oneL 12 rfl (by kernel_rfl) (by rfl) (fun K hK => ?_)
        go_simp
        refine (hinsert_any _ HBV.out HVL.out HVE.out (by rw [entB_length]; omega) HNEW.out.1 HNEW.out.2.1 HNEW.out.2.2.1 (HNEW.out.2.2.2.2.2 _ _ HBK.out)).mono ?_
        rintro e wi ⟨rfl, V2, ⟨F2, hbv2, hs2, hc2⟩, hd2, hv2⟩
        have hqs : q9 < we.heap.size ∧ q7 < we.heap.size := ⟨range_lt hHeld.1, range_lt hHeld.2.1⟩
        have hsz : w.heap.size ≤ we.heap.size := hHeld.2.2.size
        have HS2 : Hid (∀ k, F2 k → F k ∨ w.heap.size ≤ k) := fun k hk => by
          rcases hs2 k hk with h1 | h1
          · exact .inl h1
          · exact .inr (by omega)
        have HNQ : ¬ F2 q9 ∧ ¬ F2 q7 := ⟨fun hk => by
          rcases hs2 q9 hk with h1 | h1
          · exact HqF.1 h1
          · omega, fun hk => by
          rcases hs2 q7 hk with h1 | h1
          · exact HqF.2 h1
          · omega⟩
        have HES := Lib.hid (HES.out.toD hc2 HBF.out hs2)
        have HBV := Lib.hid hbv2
        have HD2 := Lib.hid hd2
        have HV2 := Lib.hid hv2
        have HNF : ¬ F2 qa := fun hk => by
          rcases hs2 qa hk with h1 | h1
          · exact HNF h1
          · have := HBA.out.lt; omega
        have HBA := Lib.hid (HBA.out.chg hc2 (by assumption))
        refine hK.out _ _ ⟨rangeAt_chg hHeld.1 hc2 HqF.1, rangeAt_chg hHeld.2.1 hc2 HqF.2, hHeld.2.2.trans hc2 (fun _ _ h => h)⟩ (fun hHeld => ?_)
        clear hK K
        try simp only [Act.put, List.setIfInBounds_toArray, List.set_cons_zero, List.set_cons_succ]
        clear hbv2 hd2 hv2 hs2 hc2
        generalize hrid n0 (entB key (p, s)) L = rid at *
        refine takeL 13 (.tuple #[.agg #[.int .i64 rid.1, .int .i64 rid.2], .int .i64 0]) rfl (by kernel_rfl) (by kernel_rfl) (by kernel_rfl) (fun _ _ _ h => h) (Or.inl ⟨by rfl, fun W hW => by rfl⟩) hHeld ?_
        try simp only [Act.put, List.setIfInBounds_toArray, List.set_cons_zero, List.set_cons_succ]
        refine takeL 14 (.agg #[.int .i64 rid.1, .int .i64 rid.2]) rfl (by kernel_rfl) (by kernel_rfl) (by kernel_rfl) (fun _ _ _ h => h) (Or.inl ⟨by rfl, fun W hW => by rfl⟩) hHeld ?_
        try simp only [Act.put, List.setIfInBounds_toArray, List.set_cons_zero, List.set_cons_succ]
        refine takeL 15 (.int .i64 0) rfl (by kernel_rfl) (by kernel_rfl) (by kernel_rfl) (fun _ _ _ h => h) (Or.inl ⟨by rfl, fun W hW => by rfl⟩) hHeld ?_
        try simp only [Act.put, List.setIfInBounds_toArray, List.set_cons_zero, List.set_cons_succ]
        refine oneL 17 rfl (by kernel_rfl) (by rfl) (fun K hK => ?_)
        refine wp_storeA 45 _ _ rfl qa 0 rfl [.int .i64 rid.1, .int .i64 rid.2] rfl _ _ HBA.out infoRid (by simp) (by simp [Value.oneCell']) ?_
        intro ws HBS HCS
        have HBV := Lib.hid (HBV.out.chg HCS.out (fun k hk e => HNF (by rw [← e]; exact hk)))
        have HES := Lib.hid (HES.out.chgB HCS.out HBA.out ⟨by decide, by decide⟩)
        refine hK.out _ _ ⟨rangeAt_chg hHeld.1 HCS.out (fun e => by have e2 : q9 = qa := e; omega), rangeAt_chg hHeld.2.1 HCS.out (fun e => by have e2 : q7 = qa := e; omega), hHeld.2.2.trans HCS.out (fun k hk e => by omega)⟩ (fun hHeld => ?_)
        clear hK K
        try simp only [Act.put, List.setIfInBounds_toArray, List.set_cons_zero, List.set_cons_succ]
        refine takeL 18 (.int .i64 0) rfl (by kernel_rfl) (by kernel_rfl) (by kernel_rfl) (fun _ _ _ h => h) (Or.inl ⟨by rfl, fun W hW => by rfl⟩) hHeld ?_
        try simp only [Act.put, List.setIfInBounds_toArray, List.set_cons_zero, List.set_cons_succ]
        refine wpAnyH_done (by kernel_rfl) ?_ _
        go_wp2
        go_meet
        case rel => exact ⟨rfl, V2, F2, HBV.out, HS2.out, hHeld.2.2, hHeld.1, hHeld.2.1, HNQ, HES.out, HD2.out, HV2.out⟩
    · refine wp_allocM 45 rfl [.int .i64 0, .int .i64 0] Tryz.zeroValue45 ?_
      intro wa HBA HFA HSA
      have HNF : ¬ F wc.heap.size := fun hk => by have := HBV.out.lt hk; omega
      have hwc : w.heap.size ≤ wc.heap.size := hHeld.2.2.size
      have hqa0 : q9 < wc.heap.size ∧ q7 < wc.heap.size := ⟨range_lt hHeld.1, range_lt hHeld.2.1⟩
      have HBV := Lib.hid (HBV.out.fresh HFA.out)
      have HKY := Lib.hid (HKY.out.fresh HFA.out)
      have HES := Lib.hid (HES.out.fresh HFA.out)
      refine hK.out _ _ ⟨rangeAt_chg hHeld.1 HFA.out id, rangeAt_chg hHeld.2.1 HFA.out id, hHeld.2.2.trans HFA.out (fun _ _ f => f.elim)⟩ (fun hHeld => ?_)
      clear hK K
      try simp only [Act.put, List.setIfInBounds_toArray, List.set_cons_zero, List.set_cons_succ]
      clear HFA HSA
      generalize wc.heap.size = qa at *
      refine oneL 7 rfl (by kernel_rfl) (by rfl) (fun K hK => ?_)
      go_simp
      refine (hbucket_any _ key n _ HKY.out.bytesV' (by omega) (by omega)).mono ?_
      rintro e wy ⟨rfl, rfl⟩
      refine hK.out _ _ hHeld (fun hHeld => ?_)
      clear hK K
      try simp only [Act.put, List.setIfInBounds_toArray, List.set_cons_zero, List.set_cons_succ]
      refine oneL 8 rfl (by kernel_rfl) (by rfl) (fun K hK => ?_)
      go_simp
      refine (hpage_any b base (bucketF key n) (nextAt L 0) _ E _ _ HES.out HEK.out (by omega) (by omega)).mono ?_
      rintro e wp ⟨rfl, hfp⟩
      have HBV := Lib.hid (HBV.out.fresh hfp)
      have HKY := Lib.hid (HKY.out.fresh hfp)
      have HES := Lib.hid (HES.out.fresh hfp)
      have HBA := Lib.hid (HBA.out.chg hfp id)
      refine hK.out _ _ ⟨rangeAt_chg hHeld.1 hfp id, rangeAt_chg hHeld.2.1 hfp id, hHeld.2.2.trans hfp (fun _ _ f => f.elim)⟩ (fun hHeld => ?_)
      clear hK K
      try simp only [Act.put, List.setIfInBounds_toArray, List.set_cons_zero, List.set_cons_succ]
      clear hfp
      refine oneL 11 rfl (by kernel_rfl) (by rfl) (fun K hK => ?_)
      go_simp
      refine (hentry_any _ key p s _ HKY.out.bytesV' (by omega) hps.1 hps.2).mono ?_
      rintro e we ⟨ve, rfl, hve, hfe⟩
      have HVE : Hid (BytesO we ve (entB key (p, s)) F) := hve.toO (fun k hk => HBV.out.lt hk)
      have HBV := Lib.hid (HBV.out.fresh hfe)
      have HKY := Lib.hid (HKY.out.fresh hfe)
      have HES := Lib.hid (HES.out.fresh hfe)
      have HBA := Lib.hid (HBA.out.chg hfe id)
      refine hK.out _ _ ⟨rangeAt_chg hHeld.1 hfe id, rangeAt_chg hHeld.2.1 hfe id, hHeld.2.2.trans hfe (fun _ _ f => f.elim)⟩ (fun hHeld => ?_)
      clear hK K
      try simp only [Act.put, List.setIfInBounds_toArray, List.set_cons_zero, List.set_cons_succ]
      clear hve hfe
      refine oneL 12 rfl (by kernel_rfl) (by rfl) (fun K hK => ?_)
      go_simp
      refine (hinsert_any _ HBV.out HVL.out HVE.out (by rw [entB_length]; omega) HNEW.out.1 HNEW.out.2.1 HNEW.out.2.2.1 (HNEW.out.2.2.2.2.2 _ _ HBK.out)).mono ?_
      rintro e wi ⟨rfl, V2, ⟨F2, hbv2, hs2, hc2⟩, hd2, hv2⟩
      have hqs : q9 < we.heap.size ∧ q7 < we.heap.size := ⟨range_lt hHeld.1, range_lt hHeld.2.1⟩
      have hsz : w.heap.size ≤ we.heap.size := hHeld.2.2.size
      have HS2 : Hid (∀ k, F2 k → F k ∨ w.heap.size ≤ k) := fun k hk => by
        rcases hs2 k hk with h1 | h1
        · exact .inl h1
        · exact .inr (by omega)
      have HNQ : ¬ F2 q9 ∧ ¬ F2 q7 := ⟨fun hk => by
        rcases hs2 q9 hk with h1 | h1
        · exact HqF.1 h1
        · omega, fun hk => by
        rcases hs2 q7 hk with h1 | h1
        · exact HqF.2 h1
        · omega⟩
      have HES := Lib.hid (HES.out.toD hc2 HBF.out hs2)
      have HBV := Lib.hid hbv2
      have HD2 := Lib.hid hd2
      have HV2 := Lib.hid hv2
      have HNF : ¬ F2 qa := fun hk => by
        rcases hs2 qa hk with h1 | h1
        · exact HNF h1
        · have := HBA.out.lt; omega
      have HBA := Lib.hid (HBA.out.chg hc2 (by assumption))
      refine hK.out _ _ ⟨rangeAt_chg hHeld.1 hc2 HqF.1, rangeAt_chg hHeld.2.1 hc2 HqF.2, hHeld.2.2.trans hc2 (fun _ _ h => h)⟩ (fun hHeld => ?_)
      clear hK K
      try simp only [Act.put, List.setIfInBounds_toArray, List.set_cons_zero, List.set_cons_succ]
      clear hbv2 hd2 hv2 hs2 hc2
      generalize hrid n0 (entB key (p, s)) L = rid at *
      refine takeL 13 (.tuple #[.agg #[.int .i64 rid.1, .int .i64 rid.2], .int .i64 0]) rfl (by kernel_rfl) (by kernel_rfl) (by kernel_rfl) (fun _ _ _ h => h) (Or.inl ⟨by rfl, fun W hW => by rfl⟩) hHeld ?_
      try simp only [Act.put, List.setIfInBounds_toArray, List.set_cons_zero, List.set_cons_succ]
      refine takeL 14 (.agg #[.int .i64 rid.1, .int .i64 rid.2]) rfl (by kernel_rfl) (by kernel_rfl) (by kernel_rfl) (fun _ _ _ h => h) (Or.inl ⟨by rfl, fun W hW => by rfl⟩) hHeld ?_
      try simp only [Act.put, List.setIfInBounds_toArray, List.set_cons_zero, List.set_cons_succ]
      refine takeL 15 (.int .i64 0) rfl (by kernel_rfl) (by kernel_rfl) (by kernel_rfl) (fun _ _ _ h => h) (Or.inl ⟨by rfl, fun W hW => by rfl⟩) hHeld ?_
      try simp only [Act.put, List.setIfInBounds_toArray, List.set_cons_zero, List.set_cons_succ]
      refine oneL 17 rfl (by kernel_rfl) (by rfl) (fun K hK => ?_)
      refine wp_storeA 45 _ _ rfl qa 0 rfl [.int .i64 rid.1, .int .i64 rid.2] rfl _ _ HBA.out infoRid (by simp) (by simp [Value.oneCell']) ?_
      intro ws HBS HCS
      have HBV := Lib.hid (HBV.out.chg HCS.out (fun k hk e => HNF (by rw [← e]; exact hk)))
      have HES := Lib.hid (HES.out.chgB HCS.out HBA.out ⟨by decide, by decide⟩)
      refine hK.out _ _ ⟨rangeAt_chg hHeld.1 HCS.out (fun e => by have e2 : q9 = qa := e; omega), rangeAt_chg hHeld.2.1 HCS.out (fun e => by have e2 : q7 = qa := e; omega), hHeld.2.2.trans HCS.out (fun k hk e => by omega)⟩ (fun hHeld => ?_)
      clear hK K
      try simp only [Act.put, List.setIfInBounds_toArray, List.set_cons_zero, List.set_cons_succ]
      refine takeL 18 (.int .i64 0) rfl (by kernel_rfl) (by kernel_rfl) (by kernel_rfl) (fun _ _ _ h => h) (Or.inl ⟨by rfl, fun W hW => by rfl⟩) hHeld ?_
      try simp only [Act.put, List.setIfInBounds_toArray, List.set_cons_zero, List.set_cons_succ]
      refine wpAnyH_done (by kernel_rfl) ?_ _
      go_wp2
      go_meet
      case rel => exact ⟨rfl, V2, F2, HBV.out, HS2.out, hHeld.2.2, hHeld.1, hHeld.2.1, HNQ, HES.out, HD2.out, HV2.out⟩
  case rest =>
    obtain ⟨rfl, V2, F2, hbv, hs2, hc2, hr9, hr7, hnq, hes2, hd2, hv2⟩ := hcut
    have hin := HH.out.st.ins (by rw [← HBN.out] at *; exact HBK.out) HNEW.out hd2 hv2
    have hct := (show ContB n B C by rw [HBN.out]; exact HH.out.ct).ins (key, (p, s)) HBK.out (hins_perm n0 (entB key (p, s)) L)
    have hl2 : (B.set (bucketF key n) (hins n0 (entB key (p, s)) L)).length = n := by rw [List.length_set]; exact HBN.out.symm
    have hdx : entsL (dirL root C.length (B.set (bucketF key n) (hins n0 (entB key (p, s)) L))) = E := by
      rw [← HEE.out]
      unfold dirL dirR
      rw [firsts_set HBK.out (hins_next _ _ _ HVL.out.ne)]
    have HIN := Lib.hid hin
    have HCT := Lib.hid hct
    have HL2 := Lib.hid hl2
    have HDX := Lib.hid hdx
    have HBV := Lib.hid hbv
    have HS2 := Lib.hid hs2
    have HC2 := Lib.hid hc2
    have HR9 := Lib.hid hr9
    have HES2 := Lib.hid hes2
    have c91 := hr9 1 _ rfl
    simp only [Nat.zero_add] at c91
    have hqlt := range_lt hr9
    clear hin hct hl2 hdx hbv hs2 hc2 hr9 hr7 hes2 hd2 hv2 HX8 HR8 HES8 HF8
    generalize B.set (bucketF key n) (hins n0 (entB key (p, s)) L) = B2 at *
    generalize (if hidx (entB key (p, s)) L < L.length then T else tput T n0 true) = T2 at *
    have hdr := HIN.out.1.dir.pg 0 root (dirR C.length B2) rfl
    have hget1 : getF (hpage 0 (dirR C.length B2)) 1 = some (num3 C.length) := hgetS hdr.2.1 0
    have hset1 := setpF_hpage (next := 0) (i := 0) (r := num3 (C.length + 1)) hdr.2.1 (show (dirR C.length B2)[0]? = some (some (num3 C.length)) from rfl) (by simp [num3]) (by simp [num3])
    rw [dir_set] at hset1
    have HDR := Lib.hid hdr
    have HG1 := Lib.hid hget1
    have HSE := Lib.hid hset1
    clear hdr hget1 hset1
    go_wp2_with (refine wpList_load_mid rfl 65 _ rfl q9 0 rfl [.pointer (some ⟨b, 0, none⟩), .slice (some ⟨g, 0, none⟩) (n + 1) cap] _ HR9.out Tryz.underlying65 rfl infoIdx ?_)
    refine (hcount_any (n' := C.length + 1) 1 wc HBV.out hr1 HDR.out.1 HDR.out.2.1 HES2.out.toS HE0.out HES2.out.row HG1.out HSE.out.1 (hpage_slots HSE.out.2).2.2 (by omega) (by omega) (by omega) (by omega)).mono ?_
    rintro e w9 ⟨rfl, F3, hb9, hs9, hc9⟩
    have hst9 := HIN.out.1.count (C.length + 1) (by have := HL2.out; omega)
    have c99 := hc9.cell c91 hnq.1
    have HR99 := Lib.hid (rangeAt_chg HR9.out hc9 hnq.1)
    have hwc := HC2.out.size
    have HB9 := Lib.hid hb9
    have HS9 : Hid (∀ k, F3 k → F k ∨ w.heap.size ≤ k) := fun k hk => by
      rcases hs9 k hk with h1 | h1
      · exact HS2.out k h1
      · exact .inr (by omega)
    have HC9 : Hid (Chg F w w9) := HC2.out.trans hc9 (fun k hk hF => by
      rcases HS2.out k hF with h1 | h1
      · exact h1
      · omega)
    have HES9 : Hid (EntsS w9 base (.slice (some ⟨g, 0, none⟩) (n + 1) cap) E) := (HES2.out.chg hc9).toS
    have HST9 := Lib.hid hst9
    have HO9 : Hid (∀ j ∈ O, vput V2 root (hpage 0 (dirR (C.length + 1) B2)) j = V j) := fun j hj => by rw [hst9.2 j hj, HIN.out.2.2 j hj]
    have HNP9 : Hid (npB O B2 ≤ npB O B + 1) := HIN.out.2.1
    have hcnt : C.length + 1 ≤ 100001 := by omega
    clear hst9 hb9 hs9 hc9 HDR HG1 HSE HIN HBV HS2 HC2 HR9 HES2 c91
    generalize vput V2 root (hpage 0 (dirR (C.length + 1) B2)) = V3 at *
    by_cases hlt : C.length + 1 < 8 * n
    · go_wp2
      go_ret
      have hok : ∀ e ∈ ((key, (p, s)) :: C), okE e := fun e he => by
        rcases List.mem_cons.1 he with rfl | h1
        · exact ⟨hkl, hps⟩
        · exact HH.out.ok e h1
      exact ⟨rfl, T2, V3, B2, ⟨F3, HB9.out, HS9.out, HC9.out⟩, ⟨HST9.out.1, by have := HL2.out; omega, by rw [HL2.out]; exact HCT.out, hok, by simp; omega⟩, HO9.out, .inl ⟨by rw [← HBN.out]; simpa using hlt, by rw [HL2.out]; exact HBN.out, HNP9.out⟩⟩
    · go_wp2_with (refine wpList_load_mid rfl 65 _ rfl q9 0 rfl [.pointer (some ⟨b, 0, none⟩), .slice (some ⟨g, 0, none⟩) (n + 1) cap] _ HR99.out Tryz.underlying65 rfl infoIdx ?_)
      have hfl : n - levelF n < B2.length := by have := HL2.out; have := levelF_bd hn.1; omega
      obtain ⟨Lf0, hf0⟩ : ∃ M, B2[n - levelF n]? = some M := ⟨_, List.getElem?_eq_getElem hfl⟩
      have hok : ∀ e ∈ ((key, (p, s)) :: C), okE e := fun e he => by
        rcases List.mem_cons.1 he with rfl | h1
        · exact ⟨hkl, hps⟩
        · exact HH.out.ok e h1
      have hlf : (entsL Lf0).length ≤ C.length + 1 := by
        have h1 := (HCT.out _ Lf0 hf0).length_eq
        rw [List.length_map, List.length_map] at h1
        rw [h1]
        have := List.length_filter_le (fun e : HE => bucketF e.1 n == (n - levelF n)) ((key, (p, s)) :: C)
        simpa using this
      have hrec : ∀ e ∈ entsL Lf0, 4 ≤ e.2.length ∧ e.2.length ≤ 400 := fun e he => by
        obtain ⟨f, hf, _, hx⟩ := (HCT.out.mem hf0).1 ⟨e, he, rfl⟩
        have := (hok f hf).1
        rw [← hx]; unfold entE; rw [entB_length]; omega
      refine (hsplit_any (cnt0 := C.length) w9 HB9.out HST9.out.1 HL2.out ⟨hn.1, by omega⟩ (by rw [HDX.out]; exact HES9.out) hf0 hrec (by have := HNP9.out; omega)).mono ?_
      rintro e w10 ⟨rfl, T4, V4, Lf, Lt, hb10, hst10, hnp10, ho10, hpf, hpt⟩
      have hct10 := HCT.out.split hn.1 HL2.out hf0 hpf hpt
      have hl10 : ((B2.set (n - levelF n) Lf) ++ [Lt]).length = n + 1 := by have := HL2.out; simp; omega
      have FIN : InsTo w b N root O F B V ((key, (p, s)) :: C) w10 := by
        have hb := BatchTo.trans HS9.out HC9.out hb10
        refine ⟨T4, V4, _, hb, ⟨hst10, by omega, by rw [hl10]; exact hct10, hok, by simp; omega⟩, fun j hj => by rw [ho10 j hj, HO9.out j hj], .inr ⟨by rw [← HBN.out]; simp; omega, by rw [hl10, HBN.out], ?_⟩⟩
        have := HNP9.out
        simp only [List.length_cons]
        omega
      have FN := Lib.hid FIN
      clear FIN hb10 hst10 hnp10 ho10 hpf hpt hct10 hl10
      go_wp2
      go_ret
      exact ⟨rfl, FN.out⟩
end Go.Proofs.YtnmjkgnahhbnoaaGreat
