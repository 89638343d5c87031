/- Part 20 of the walks that the laws of package hash share (HashJ, HashK, HashM). -/
import Derived.Test.YtnmjkgnahhbnoaaGreatM19
set_option linter.unusedVariables false
set_option linter.unusedSimpArgs false
/- Walks of package hash: Insert refused. -/
namespace Go.Proofs.YtnmjkgnahhbnoaaGreat
open Go.RowKit
set_option linter.unusedSimpArgs false

/-- A call's answer; nothing that was there has changed. -/
def Ans (w : World) (k : Int) (e : Ending) (w' : World) : Prop := e = .returned (.int .i64 k) ∧ Fresh w w'

set_option maxRecDepth 100000 in
set_option maxHeartbeats 1000000 in
theorem hhinsert_nil (x y : Value) (p s : Int) (w : World) :
    Calls Tryz.prog 16 #[.pointer none, x, y, .agg #[.int .i64 p, .int .i64 s]] w (Ans w 2) := by
  go_enter Tryz.func16, Tryz.ntmps16
  go_wp2_with (
    refine wpList_boxA rfl 45 _ rfl [.int .i64 p, .int .i64 s] rfl ?_
    intro w1 HR1 HF1 HS1)
  go_ret
  exact ⟨rfl, HF1.out⟩

set_option maxRecDepth 100000 in
set_option maxHeartbeats 1000000 in
theorem hhinsert_long (b : Nat) (x : Value) (a : Option Addr) (n c : Nat) (p s : Int) (w : World) (hn : 140 < n) :
    Calls Tryz.prog 16 #[.pointer (some ⟨b, 0, none⟩), x, .slice a n c, .agg #[.int .i64 p, .int .i64 s]] w (Ans w 4) := by
  go_enter Tryz.func16, Tryz.ntmps16
  go_wp2_with (
    refine wpList_boxA rfl 45 _ rfl [.int .i64 p, .int .i64 s] rfl ?_
    intro w1 HR1 HF1 HS1)
  go_ret
  exact ⟨rfl, HF1.out⟩

set_option maxRecDepth 100000 in
set_option maxHeartbeats 1000000 in
theorem hhinsert_bad (b : Nat) (x : Value) (a : Option Addr) (n c : Nat) (p s : Int) (w : World) (hn : n ≤ 140) (hbad : ¬ (0 ≤ p ∧ p ≤ 65535 ∧ 0 ≤ s ∧ s ≤ 65535)) :
    Calls Tryz.prog 16 #[.pointer (some ⟨b, 0, none⟩), x, .slice a n c, .agg #[.int .i64 p, .int .i64 s]] w (Ans w 1) := by
  have hcase : (min p s < 0) ∨ (0 ≤ min p s ∧ 65536 ≤ max p s) := by omega
  clear hbad
  go_enter Tryz.func16, Tryz.ntmps16
  rcases hcase with h1 | ⟨h1, h2⟩
  · go_wp2_with (
      refine wpList_boxA rfl 45 _ rfl [.int .i64 p, .int .i64 s] rfl ?_
      intro w1 HR1 HF1 HS1
      have c1 := cells2 HR1.out)
    go_ret
    exact ⟨rfl, HF1.out⟩
  · go_wp2_with (
      refine wpList_boxA rfl 45 _ rfl [.int .i64 p, .int .i64 s] rfl ?_
      intro w1 HR1 HF1 HS1
      have c1 := cells2 HR1.out)
    go_ret
    exact ⟨rfl, HF1.out⟩

set_option maxRecDepth 100000 in
set_option maxHeartbeats 4000000 in
theorem hhinsert_dup {b N root p s : Nat} {O : List Nat} {T : Nat → Bool} {V : Nat → Option (List UInt8)} {F : Nat → Prop} {B : List (List (Nat × Rs))} {C : List HE} {vk : Value} {key : List UInt8} (w : World) (h : BatchV w b N T V F) (hH : HashV O V T N root B C) (hk : BytesV w vk key) (hkl : key.length ≤ 140) (hps : p < 65536 ∧ s < 65536)
    (hC : (key, (p, s)) ∈ C) :
    Calls Tryz.prog 16 #[.pointer (some ⟨b, 0, none⟩), .int .i64 root, vk, .agg #[.int .i64 p, .int .i64 s]] w (Ans w 1) := by
  obtain ⟨L, hbk⟩ := hH.get key
  obtain ⟨n, hBn⟩ : ∃ n, n = B.length := ⟨_, rfl⟩
  rw [← hBn] at hbk
  have HB := Lib.hid h
  have HFF : Hid (∃ r, ffind (entB key (p, s)) (entsL L) = some r) := by
    obtain ⟨x, _, _, h1⟩ := hH.yes (e := (key, (p, s))) hC (by rw [← hBn]; exact hbk)
    exact ⟨x.1, h1⟩
  have hn : 1 ≤ n ∧ n ≤ 40 := ⟨by have := hH.nb.1; omega, by have := hH.nb.2; omega⟩
  obtain ⟨ak, ck, rfl⟩ := hk.slice
  have HK : Hid (KeyV w (.slice ak key.length ck) key) := hk
  have hN := h.le
  have HVL : Hid (HeapV V N L) := hH.st.bks _ L hbk
  have hnl : 1 ≤ nextAt L 0 ∧ nextAt L 0 < N := ⟨(HVL.out.next_lt 0).2 HVL.out.ne, (HVL.out.next_lt 0).1⟩
  have HDE : Hid ((entsL (dirL root C.length B)).length = n + 1) := by show _ = _; rw [dir_len, hBn]
  have HD0 : Hid (HeapV V N (dirL root C.length B)) := hH.st.dir
  have HEK : Hid ((entsL (dirL root C.length B))[bucketF key n + 1]? = some ((root, bucketF key n + 2), num3 (nextAt L 0))) := dir_page root C.length B _ L hbk
  have HE0 : Hid ((entsL (dirL root C.length B))[0]? = some ((root, 1), num3 C.length)) := dir_cnt root C.length B
  clear h hH hbk hBn hC hk
  go_enter Tryz.func16, Tryz.ntmps16
  go_wp2_with (first
    | (refine wpList_boxA rfl 45 _ rfl [.int .i64 p, .int .i64 s] rfl ?_
       intro w1 HR1 HF1 HS1
       have c1 := cells2 HR1.out))
  have hop := hopen_any (L := dirL root C.length B) w1 (HB.out.fresh HF1.out) HD0.out (by rw [HDE.out]; omega)
  rw [(dir_next root C.length B).1] at hop
  refine hop.mono ?_
  rintro e w2 ⟨sv, rfl, hes, hf2⟩
  clear hop
  generalize hEE : entsL (dirL root C.length B) = E at *
  clear hEE
  obtain ⟨g, cap, _, _, rfl, hbg, _, _, _, _, _⟩ := hes.cells HE0.out
  have hes2 := hes
  rw [HDE.out] at hes2 ⊢
  have HES := Lib.hid hes2
  have HR2 := Lib.hid (HR1.out.chg hf2 id)
  have HF2 := Lib.hid (HF1.out.trans hf2 (fun _ _ f => f))
  clear hes hes2 hf2 HR1 HF1 HS1 c1
  generalize hbb : w1.heap.size = base at *
  clear hbb
  go_wp2_with (first
    | (refine wpList_allocA rfl 65 rfl [.pointer none, .slice none 0 0] Tryz.zeroValue65 ?_
       intro w3 HB3 HF3 HS3)
    | (refine wpList_storeA rfl 65 _ _ rfl w2.heap.size 0 rfl [.pointer (some ⟨b, 0, none⟩), .slice (some ⟨g, 0, none⟩) (n + 1) cap] rfl _ _ HB3.out infoIdx (by simp) (by simp [Value.oneCell']) ?_
       intro w4 HB4 HC4
       have hb4 := HB4.out
       rw [over_all _ _ (by simp)] at hb4
       have HX4 := Lib.hid hb4
       clear hb4
       have HF4 : Hid (Fresh w2 w4) := HF3.out.trans HC4.out (fun k hk e => by omega))
    | (refine wpList_loadA rfl 65 _ rfl w2.heap.size 0 rfl _ _ HX4.out 2 [.pointer (some ⟨b, 0, none⟩), .slice (some ⟨g, 0, none⟩) (n + 1) cap] (take_all _ _ (by simp)) _ Tryz.underlying65 rfl infoIdx (by simp) ?_)
    | (refine wpList_loadA rfl 45 _ rfl w.heap.size 0 rfl _ _ (HR2.out.chg HF4.out id) 2 [.int .i64 p, .int .i64 s] (take_all _ _ (by simp)) _ Tryz.underlying45 rfl infoRid (by simp) ?_))
  have HF5 := Lib.hid (HF2.out.trans HF4.out (fun _ _ f => f))
  refine (hfind_any w4 (HB.out.fresh HF5.out) HVL.out (HES.out.fresh HF4.out) HDE.out (by omega) HEK.out (by omega) rfl (HK.out.fresh HF5.out) (by omega) hps).mono ?_
  rintro e w5 ⟨rfl, hf5⟩
  obtain ⟨r, hr⟩ := HFF.out
  rw [hr]
  simp only [Option.getD_some, Option.isSome_some]
  have HF6 := Lib.hid (HF5.out.trans hf5 (fun _ _ f => f))
  clear hf5 HF5 HF4 HB4 HC4 HX4 HB3 HF3 HS3 HES HR2 HF2 hr
  go_wp2_with (first
    | (refine wpList_allocA rfl 45 rfl [.int .i64 0, .int .i64 0] Tryz.zeroValue45 ?_
       intro w7 HB7 HF7 HS7)
    | (refine wpList_storeA rfl 45 _ _ rfl w5.heap.size 0 rfl [.int .i64 r.1, .int .i64 r.2] rfl _ _ HB7.out infoRid (by simp) (by simp [Value.oneCell']) ?_
       intro w8 HB8 HC8))
  go_ret
  exact ⟨rfl, (HF6.out.trans HF7.out (fun _ _ f => f)).trans HC8.out (fun k hk e => by have := HF6.out.size; omega)⟩
end Go.Proofs.YtnmjkgnahhbnoaaGreat

/- Walks of package hash: Delete. -/
namespace Go.Proofs.YtnmjkgnahhbnoaaGreat
open Go.RowKit
set_option linter.unusedSimpArgs false

/-- What a deletion leaves. -/
def DelTo (w : World) (b N root : Nat) (O : List Nat) (T : Nat → Bool) (F : Nat → Prop) (B : List (List (Nat × Rs))) (V : Nat → Option (List UInt8)) (C : List HE) (w' : World) : Prop :=
  ∃ (V2 : Nat → Option (List UInt8)) (B2 : List (List (Nat × Rs))), BatchTo w w' b N T V2 F ∧ HashV O V2 T N root B2 C ∧ (∀ j ∈ O, V2 j = V j) ∧ B2.length = B.length ∧ npB O B2 = npB O B

set_option maxRecDepth 100000 in
set_option maxHeartbeats 1000000 in
theorem hhdelete_long (b : Nat) (x : Value) (a : Option Addr) (n c : Nat) (p s : Int) (w : World) (hn : 140 < n) :
    Calls Tryz.prog 17 #[.pointer (some ⟨b, 0, none⟩), x, .slice a n c, .agg #[.int .i64 p, .int .i64 s]] w (Ans w 1) := by
  go_enter Tryz.func17, Tryz.ntmps17
  go_wp2_with (
    refine wpList_boxA rfl 45 _ rfl [.int .i64 p, .int .i64 s] rfl ?_
    intro w1 HR1 HF1 HS1
    have c1 := cells2 HR1.out)
  go_ret
  exact ⟨rfl, HF1.out⟩

set_option maxRecDepth 100000 in
set_option maxHeartbeats 4000000 in
theorem hhdelete_no {b N root p s : Nat} {O : List Nat} {T : Nat → Bool} {V : Nat → Option (List UInt8)} {F : Nat → Prop} {B : List (List (Nat × Rs))} {C : List HE} {vk : Value} {key : List UInt8} (w : World) (h : BatchV w b N T V F) (hH : HashV O V T N root B C) (hk : BytesV w vk key) (hkl : key.length ≤ 140) (hps : p < 65536 ∧ s < 65536)
    (hC : (key, (p, s)) ∉ C) :
    Calls Tryz.prog 17 #[.pointer (some ⟨b, 0, none⟩), .int .i64 root, vk, .agg #[.int .i64 p, .int .i64 s]] w (Ans w 1) := by
  obtain ⟨L, hbk⟩ := hH.get key
  obtain ⟨n, hBn⟩ : ∃ n, n = B.length := ⟨_, rfl⟩
  rw [← hBn] at hbk
  have HB := Lib.hid h
  have HFF : Hid (ffind (entB key (p, s)) (entsL L) = none) := hH.no (e := (key, (p, s))) ⟨hkl, hps⟩ hC (by rw [← hBn]; exact hbk)
  have hn : 1 ≤ n ∧ n ≤ 40 := ⟨by have := hH.nb.1; omega, by have := hH.nb.2; omega⟩
  obtain ⟨ak, ck, rfl⟩ := hk.slice
  have HK : Hid (KeyV w (.slice ak key.length ck) key) := hk
  have hN := h.le
  have HVL : Hid (HeapV V N L) := hH.st.bks _ L hbk
  have hnl : 1 ≤ nextAt L 0 ∧ nextAt L 0 < N := ⟨(HVL.out.next_lt 0).2 HVL.out.ne, (HVL.out.next_lt 0).1⟩
  have HDE : Hid ((entsL (dirL root C.length B)).length = n + 1) := by show _ = _; rw [dir_len, hBn]
  have HD0 : Hid (HeapV V N (dirL root C.length B)) := hH.st.dir
  have HEK : Hid ((entsL (dirL root C.length B))[bucketF key n + 1]? = some ((root, bucketF key n + 2), num3 (nextAt L 0))) := dir_page root C.length B _ L hbk
  have HE0 : Hid ((entsL (dirL root C.length B))[0]? = some ((root, 1), num3 C.length)) := dir_cnt root C.length B
  clear h hH hbk hBn hC hk
  go_enter Tryz.func17, Tryz.ntmps17
  go_wp2_with (first
    | (refine wpList_boxA rfl 45 _ rfl [.int .i64 p, .int .i64 s] rfl ?_
       intro w1 HR1 HF1 HS1
       have c1 := cells2 HR1.out))
  have hop := hopen_any (L := dirL root C.length B) w1 (HB.out.fresh HF1.out) HD0.out (by rw [HDE.out]; omega)
  rw [(dir_next root C.length B).1] at hop
  refine hop.mono ?_
  rintro e w2 ⟨sv, rfl, hes, hf2⟩
  clear hop
  generalize hEE : entsL (dirL root C.length B) = E at *
  clear hEE
  obtain ⟨g, cap, _, _, rfl, hbg, _, _, _, _, _⟩ := hes.cells HE0.out
  have hes2 := hes
  rw [HDE.out] at hes2 ⊢
  have HES := Lib.hid hes2
  have HR2 := Lib.hid (HR1.out.chg hf2 id)
  have HF2 := Lib.hid (HF1.out.trans hf2 (fun _ _ f => f))
  clear hes hes2 hf2 HR1 HF1 HS1 c1
  generalize hbb : w1.heap.size = base at *
  clear hbb
  go_wp2_with (first
    | (refine wpList_allocA rfl 65 rfl [.pointer none, .slice none 0 0] Tryz.zeroValue65 ?_
       intro w3 HB3 HF3 HS3)
    | (refine wpList_storeA rfl 65 _ _ rfl w2.heap.size 0 rfl [.pointer (some ⟨b, 0, none⟩), .slice (some ⟨g, 0, none⟩) (n + 1) cap] rfl _ _ HB3.out infoIdx (by simp) (by simp [Value.oneCell']) ?_
       intro w4 HB4 HC4
       have hb4 := HB4.out
       rw [over_all _ _ (by simp)] at hb4
       have HX4 := Lib.hid hb4
       clear hb4
       have HF4 : Hid (Fresh w2 w4) := HF3.out.trans HC4.out (fun k hk e => by omega))
    | (refine wpList_loadA rfl 65 _ rfl w2.heap.size 0 rfl _ _ HX4.out 2 [.pointer (some ⟨b, 0, none⟩), .slice (some ⟨g, 0, none⟩) (n + 1) cap] (take_all _ _ (by simp)) _ Tryz.underlying65 rfl infoIdx (by simp) ?_)
    | (refine wpList_loadA rfl 45 _ rfl w.heap.size 0 rfl _ _ (HR2.out.chg HF4.out id) 2 [.int .i64 p, .int .i64 s] (take_all _ _ (by simp)) _ Tryz.underlying45 rfl infoRid (by simp) ?_))
  have HF5 := Lib.hid (HF2.out.trans HF4.out (fun _ _ f => f))
  refine (hfind_any w4 (HB.out.fresh HF5.out) HVL.out (HES.out.fresh HF4.out) HDE.out (by omega) HEK.out (by omega) rfl (HK.out.fresh HF5.out) (by omega) hps).mono ?_
  rintro e w5 ⟨rfl, hf5⟩
  rw [HFF.out]
  simp only [Option.getD_none, Option.isSome_none]
  have HF6 := Lib.hid (HF5.out.trans hf5 (fun _ _ f => f))
  clear hf5 HF5 HF4 HB4 HC4 HX4 HB3 HF3 HS3 HES HR2 HF2
  go_wp2_with (first
    | (refine wpList_allocA rfl 45 rfl [.int .i64 0, .int .i64 0] Tryz.zeroValue45 ?_
       intro w7 HB7 HF7 HS7)
    | (refine wpList_storeA rfl 45 _ _ rfl w5.heap.size 0 rfl [.int .i64 0, .int .i64 0] rfl _ _ HB7.out infoRid (by simp) (by simp [Value.oneCell']) ?_
       intro w8 HB8 HC8))
  go_ret
  exact ⟨rfl, (HF6.out.trans HF7.out (fun _ _ f => f)).trans HC8.out (fun k hk e => by have := HF6.out.size; omega)⟩
set_option maxRecDepth 100000 in
set_option maxHeartbeats 4000000 in
theorem hhdelete_any {b N root p s : Nat} {O : List Nat} {T : Nat → Bool} {V : Nat → Option (List UInt8)} {F : Nat → Prop} {B : List (List (Nat × Rs))} {C : List HE} {vk : Value} {key : List UInt8} (w : World) (h : BatchV w b N T V F) (hH : HashV O V T N root B C) (hk : BytesV w vk key) (hkl : key.length ≤ 140) (hps : p < 65536 ∧ s < 65536)
    (hC : (key, (p, s)) ∈ C) :
    Calls Tryz.prog 17 #[.pointer (some ⟨b, 0, none⟩), .int .i64 root, vk, .agg #[.int .i64 p, .int .i64 s]] w fun e w' => e = .returned (.int .i64 0) ∧ DelTo w b N root O T F B V (C.erase (key, (p, s))) w' := by
  obtain ⟨L, hbk⟩ := hH.get key
  obtain ⟨n, hBn⟩ : ∃ n, n = B.length := ⟨_, rfl⟩
  rw [← hBn] at hbk
  have HB := Lib.hid h
  obtain ⟨⟨⟨xm, xs⟩, xr⟩, hxm, hxr, hff⟩ := hH.yes (e := (key, (p, s))) hC (by rw [← hBn]; exact hbk)
  simp only at hxr hff
  obtain ⟨i', rs, k', hi', hxs, hrs⟩ := entsL_mem hxm
  simp only at hxs hi' hrs
  have HFF : Hid (ffind (entB key (p, s)) (entsL L) = some (xm, xs)) := hff
  have HH := Lib.hid hH
  have HBK := Lib.hid hbk
  have HBN := Lib.hid hBn
  have HMEM := Lib.hid hC
  have hsm := hH.sm
  have hpg := (hH.st.bks _ L hbk).pg i' xm rs hi'
  have hdr := dropF_hpage (next := nextAt L (i' + 1)) hpg.2.1 hrs
  have hmod := hH.st.mod hbk hi' hdr.2
  have hkt : k' + 1 ≤ 1000 := by
    have h1 := (List.getElem?_eq_some_iff.1 (trim_get_some hrs)).1
    have h2 := hpg.2.1
    unfold HFit at h2; omega
  have hgx : getF (hpage (nextAt L (i' + 1)) rs) (k' + 1) = some xr := by rw [hgetS hpg.2.1, hrs]; rfl
  have hpl2 := (hpage_slots (next := nextAt L (i' + 1)) hdr.2).2.2
  have hdp := entsL_drop hi' hrs
  rw [hxr] at hdp
  subst hxs
  have hct := (show ContB n B C by rw [hBn]; exact hH.ct).del (key, (p, s)) hC hbk hdp
  have hdx : entsL (dirL root C.length (B.set (bucketF key n) (L.set i' (xm, (trimF rs).set k' none)))) = entsL (dirL root C.length B) := by
    unfold dirL dirR
    rw [firsts_set hbk (nextAt_set _ _ _ _ _ _ hi')]
  have HPG := Lib.hid hpg
  have HDR := Lib.hid hdr
  have HMD := Lib.hid hmod
  have HGX := Lib.hid hgx
  have HPL2 := Lib.hid hpl2
  have HCT := Lib.hid hct
  have HDX := Lib.hid hdx
  have hroot := hH.st.dir.pg 0 root (dirR C.length B) rfl
  have hr1 : 1 ≤ root ∧ root < N := ⟨hroot.2.2.1, hroot.2.2.2⟩
  have hnx3 : nextAt L (i' + 1) ≤ 65535 := by have := ((hH.st.bks _ L hbk).next_lt (i' + 1)).1; have := h.le; omega
  have hc1 : 1 ≤ C.length := List.length_pos_of_mem hC
  have HL2 : Hid ((B.set (bucketF key n) (L.set i' (xm, (trimF rs).set k' none))).length = n) := by show _ = _; rw [List.length_set]; exact hBn.symm
  clear hxm hxr hff hi' hrs hpg hdr hmod hgx hpl2 hdp hct hdx hroot
  have hn : 1 ≤ n ∧ n ≤ 40 := ⟨by have := hH.nb.1; omega, by have := hH.nb.2; omega⟩
  obtain ⟨ak, ck, rfl⟩ := hk.slice
  have HK : Hid (KeyV w (.slice ak key.length ck) key) := hk
  have hN := h.le
  have HVL : Hid (HeapV V N L) := hH.st.bks _ L hbk
  have hnl : 1 ≤ nextAt L 0 ∧ nextAt L 0 < N := ⟨(HVL.out.next_lt 0).2 HVL.out.ne, (HVL.out.next_lt 0).1⟩
  have HDE : Hid ((entsL (dirL root C.length B)).length = n + 1) := by show _ = _; rw [dir_len, hBn]
  have HD0 : Hid (HeapV V N (dirL root C.length B)) := hH.st.dir
  have HEK : Hid ((entsL (dirL root C.length B))[bucketF key n + 1]? = some ((root, bucketF key n + 2), num3 (nextAt L 0))) := dir_page root C.length B _ L hbk
  have HE0 : Hid ((entsL (dirL root C.length B))[0]? = some ((root, 1), num3 C.length)) := dir_cnt root C.length B
  generalize hB2 : B.set (bucketF key n) (L.set i' (xm, (trimF rs).set k' none)) = B2 at *
  generalize hpgv : hpage (nextAt L (i' + 1)) ((trimF rs).set k' none) = pgv at *
  clear h hH hbk hBn hC hk hB2 hpgv
  go_enter Tryz.func17, Tryz.ntmps17
  go_wp2_with (first
    | (refine wpList_boxA rfl 45 _ rfl [.int .i64 p, .int .i64 s] rfl ?_
       intro w1 HR1 HF1 HS1
       have c1 := cells2 HR1.out))
  have hop := hopen_any (L := dirL root C.length B) w1 (HB.out.fresh HF1.out) HD0.out (by rw [HDE.out]; omega)
  rw [(dir_next root C.length B).1] at hop
  refine hop.mono ?_
  rintro e w2 ⟨sv, rfl, hes, hf2⟩
  clear hop
  generalize hEE : entsL (dirL root C.length B) = E at *
  clear hEE
  obtain ⟨g, cap, _, _, rfl, hbg, _, _, _, _, _⟩ := hes.cells HE0.out
  have hes2 := hes
  rw [HDE.out] at hes2 ⊢
  have HES := Lib.hid hes2
  have hbs : w.heap.size < w1.heap.size := by have := HS1.out; omega
  have hb2 := hf2.size
  have HR2 := Lib.hid (HR1.out.chg hf2 id)
  have HF2 := Lib.hid (HF1.out.trans hf2 (fun _ _ f => f))
  clear hes hes2 hf2 HR1 HF1 HS1 c1
  generalize hbb : w1.heap.size = base at *
  clear hbb
  go_wp2_with (first
    | (refine wpList_allocA rfl 65 rfl [.pointer none, .slice none 0 0] Tryz.zeroValue65 ?_
       intro w3 HB3 HF3 HS3)
    | (refine wpList_storeA rfl 65 _ _ rfl w2.heap.size 0 rfl [.pointer (some ⟨b, 0, none⟩), .slice (some ⟨g, 0, none⟩) (n + 1) cap] rfl _ _ HB3.out infoIdx (by simp) (by simp [Value.oneCell']) ?_
       intro w4 HB4 HC4
       have hb4 := HB4.out
       rw [over_all _ _ (by simp)] at hb4
       have HX4 := Lib.hid hb4
       clear hb4
       have HF4 : Hid (Fresh w2 w4) := HF3.out.trans HC4.out (fun k hk e => by omega))
    | (refine wpList_loadA rfl 65 _ rfl w2.heap.size 0 rfl _ _ HX4.out 2 [.pointer (some ⟨b, 0, none⟩), .slice (some ⟨g, 0, none⟩) (n + 1) cap] (take_all _ _ (by simp)) _ Tryz.underlying65 rfl infoIdx (by simp) ?_)
    | (refine wpList_loadA rfl 45 _ rfl w.heap.size 0 rfl _ _ (HR2.out.chg HF4.out id) 2 [.int .i64 p, .int .i64 s] (take_all _ _ (by simp)) _ Tryz.underlying45 rfl infoRid (by simp) ?_))
  have HF5 := Lib.hid (HF2.out.trans HF4.out (fun _ _ f => f))
  refine (hfind_any w4 (HB.out.fresh HF5.out) HVL.out (HES.out.fresh HF4.out) HDE.out (by omega) HEK.out (by omega) rfl (HK.out.fresh HF5.out) (by omega) hps).mono ?_
  rintro e w5 ⟨rfl, hf5⟩
  rw [HFF.out]
  simp only [Option.getD_some, Option.isSome_some]
  have HF6 := Lib.hid (HF5.out.trans hf5 (fun _ _ f => f))
  have HX6 := Lib.hid (HX4.out.chg hf5 id)
  have HES6 := Lib.hid ((HES.out.fresh HF4.out).fresh hf5)
  have hwb : w.heap.size < base ∧ base ≤ w2.heap.size := ⟨hbs, hb2⟩
  clear hf5 HF5 HF4 HB4 HC4 HX4 HB3 HF3 HS3 HES HR2 HF2
  generalize w2.heap.size = q9 at *
  go_wp2_with (first
    | (refine wpList_allocA rfl 45 rfl [.int .i64 0, .int .i64 0] Tryz.zeroValue45 ?_
       intro w7 HB7 HF7 HS7)
    | (refine wpList_storeA rfl 45 _ _ rfl w5.heap.size 0 rfl [.int .i64 xm, .int .i64 ((k' + 1 : Nat) : Int)] rfl _ _ HB7.out infoRid (by simp) (by simp [Value.oneCell']) ?_
       intro w8 HB8 HC8
       have HF58 : Hid (Fresh w5 w8) := HF7.out.trans HC8.out (fun k hk e => by omega))
    | (refine wpList_loadA rfl 45 _ rfl w5.heap.size 0 rfl _ _ HB8.out 2 [.int .i64 xm, .int .i64 ((k' + 1 : Nat) : Int)] rfl _ Tryz.underlying45 rfl infoRid (by simp [over]) ?_))
  have HF8 := Lib.hid (HF6.out.trans HF58.out (fun _ _ f => f))
  have HX8 := Lib.hid (HX6.out.chg HF58.out id)
  have HES8 := Lib.hid (HES6.out.fresh HF58.out)
  clear HB7 HF7 HS7 HB8 HC8 HF58 HF6 HX6 HES6
  refine (hdrop_any w8 (HB.out.fresh HF8.out) ⟨HPG.out.2.2.1, HPG.out.2.2.2⟩ HPG.out.1 HPG.out.2.1 hnx3 ⟨by omega, hkt⟩ HGX.out HDR.out.1 HPL2.out).mono ?_
  rintro e w9 ⟨rfl, F2, hb9, hs9, hc9⟩
  have hbF : ∀ k, F k → k < base := fun k hk => by have := HB.out.lt hk; omega
  have HED := Lib.hid (HES8.out.toD hc9 hbF hs9)
  have hq9F : ¬ F q9 := fun hk => by have := hbF q9 hk; omega
  have hq9F2 : ¬ F2 q9 := fun hk => by
    rcases hs9 q9 hk with h1 | h1
    · exact hq9F h1
    · have := HX8.out.lt; omega
  have HX9 := Lib.hid (HX8.out.chg hc9 hq9F)
  have HB9 := Lib.hid hb9
  have hsz8 := HF8.out.size
  have HS9 : Hid (∀ k, F2 k → F k ∨ w.heap.size ≤ k) := fun k hk => by
    rcases hs9 k hk with h1 | h1
    · exact .inl h1
    · exact .inr (by omega)
  have HC9 := Lib.hid (HF8.out.fresh.trans hc9 (fun _ _ h => h))
  clear hb9 hs9 hc9 HX8 HES8 HF8
  have hdr := HMD.out.1.dir.pg 0 root (dirR C.length B2) rfl
  have hget1 : getF (hpage 0 (dirR C.length B2)) 1 = some (num3 C.length) := hgetS hdr.2.1 0
  have hset1 := setpF_hpage (next := 0) (i := 0) (r := num3 (C.length - 1)) hdr.2.1 (show (dirR C.length B2)[0]? = some (some (num3 C.length)) from rfl) (by simp [num3]) (by simp [num3])
  rw [dir_set] at hset1
  have HDR2 := Lib.hid hdr
  have HG1 := Lib.hid hget1
  have HSE := Lib.hid hset1
  clear hdr hget1 hset1
  generalize vput V xm pgv = V2 at *
  go_wp2_with (refine wpList_loadA rfl 65 _ rfl q9 0 rfl _ _ HX9.out 2 [.pointer (some ⟨b, 0, none⟩), .slice (some ⟨g, 0, none⟩) (n + 1) cap] (take_all _ _ (by simp)) _ Tryz.underlying65 rfl infoIdx (by simp) ?_)
  refine (hcount_any (n' := C.length - 1) (-1) w9 HB9.out hr1 HDR2.out.1 HDR2.out.2.1 HED.out.toS HE0.out HED.out.row HG1.out HSE.out.1 (hpage_slots HSE.out.2).2.2 (by omega) (by omega) (by omega) (by omega)).mono ?_
  rintro e w10 ⟨rfl, hb10⟩
  have hst10 := HMD.out.1.count (C.length - 1) (by have := HL2.out; omega)
  have hb10' := BatchTo.trans HS9.out HC9.out hb10
  have hcl : (C.erase (key, (p, s))).length = C.length - 1 := List.length_erase_of_mem HMEM.out
  have FIN : DelTo w b N root O T F B V (C.erase (key, (p, s))) w10 := by
    refine ⟨_, B2, hb10', ⟨by rw [hcl]; exact hst10.1, by have := HL2.out; omega, by rw [HL2.out]; exact HCT.out, fun e he => HH.out.ok e (List.mem_of_mem_erase he), by omega⟩, fun j hj => by rw [hst10.2 j hj, HMD.out.2.2 j hj], by rw [HL2.out]; exact HBN.out, HMD.out.2.1⟩
  have FN := Lib.hid FIN
  clear FIN hb10 hb10' hst10 hcl
  go_wp2
  go_ret
  exact ⟨rfl, FN.out⟩
end Go.Proofs.YtnmjkgnahhbnoaaGreat

/- Walks of package hash: Buckets, Make, Free. -/
namespace Go.Proofs.YtnmjkgnahhbnoaaGreat
open Go.RowKit
set_option linter.unusedSimpArgs false

set_option maxRecDepth 100000 in
set_option maxHeartbeats 1000000 in
theorem hhbuckets_any {b N root : Nat} {O : List Nat} {T : Nat → Bool} {V : Nat → Option (List UInt8)} {F : Nat → Prop} {B : List (List (Nat × Rs))} {C : List HE} (w : World) (h : BatchV w b N T V F) (hH : HashV O V T N root B C) :
    Calls Tryz.prog 11 #[.pointer (some ⟨b, 0, none⟩), .int .i64 root] w fun e w' => e = .returned (.tuple #[.int .i64 B.length, .int .i64 0]) ∧ Fresh w w' := by
  have HB := Lib.hid h
  have hop := hopen_any (L := dirL root C.length B) w h hH.st.dir (by rw [dir_len]; have := hH.nb.1; omega)
  rw [(dir_next root C.length B).1] at hop
  have HOP := Lib.hid hop
  have HDE := Lib.hid (dir_len root C.length B)
  have hn := hH.nb
  obtain ⟨n, hBn⟩ : ∃ n, n = B.length := ⟨_, rfl⟩
  rw [← hBn] at hn ⊢
  have HBN := Lib.hid hBn
  clear hop h hH hBn
  go_enter Tryz.func11, Tryz.ntmps11
  go_wp2_with fail
  refine HOP.out.mono ?_
  rintro e w2 ⟨sv, rfl, hes, hf2⟩
  obtain ⟨a, cap, rfl⟩ := hes.slice
  rw [HDE.out, ← HBN.out]
  have HF2 := Lib.hid hf2
  clear hes hf2
  go_wp2_with (first
    | (refine wpList_allocA rfl 65 rfl [.pointer none, .slice none 0 0] Tryz.zeroValue65 ?_
       intro w3 HB3 HF3 HS3)
    | (refine wpList_storeA rfl 65 _ _ rfl w2.heap.size 0 rfl [.pointer (some ⟨b, 0, none⟩), .slice a (n + 1) cap] rfl _ _ HB3.out infoIdx (by simp) (by simp [Value.oneCell']) ?_
       intro w4 HB4 HC4
       have c4 : w4.cell? ⟨w2.heap.size, 1, none⟩ = some (.slice a (n + 1) cap) := (by rw [HB4.out.cell]; rfl)))
  go_ret2
  exact ⟨rfl, (HF2.out.trans HF3.out (fun _ _ f => f)).trans HC4.out (fun k hk e => by have := HF2.out.size; omega)⟩

/-- A page left, where those that are taken are few. -/
theorem free_of_list {T : Nat → Bool} {N : Nat} (ps : List Nat) (h : ∀ m, m < N → T m = true → m ∈ ps) (hl : ps.length < N) : ∃ n0, n0 < N ∧ T n0 = false ∧ ∀ k, k < n0 → T k = true := by
  refine exists_free T N (Classical.byContradiction fun hc => ?_)
  have hall : ∀ k, k < N → T k = true := fun k hk => by
    cases hT : T k with
    | true => rfl
    | false => exact absurd ⟨k, hk, hT⟩ hc
  have := sub_len (List.range N) ps List.nodup_range (fun x hx => h x (List.mem_range.1 hx) (hall x (List.mem_range.1 hx)))
  rw [List.length_range] at this
  omega
/-- A directory in the making. -/
def mkR (f k : Nat) : Rs := ((([num3 0, num3 f]).take k).map some)
theorem mkR_fit (f k : Nat) : HFit (mkR f k) := by
  unfold HFit mkR
  rw [trimF_all, endF_all _ 3 (fun x hx => by have := List.mem_of_mem_take hx; simp at this; rcases this with rfl | rfl <;> rfl), List.length_map]
  have : (([num3 0, num3 f]).take k).length ≤ 2 := List.length_take_le' _ _
  omega
theorem mkR_add (f k x : Nat) (hk : k < 2) (hx : ([0, f])[k]? = some x) : haddF (mkR f k) (num3 x) = some (mkR f (k + 1)) := by
  have he : setF (trimF (mkR f k)) (freeF (trimF (mkR f k))) (num3 x) = mkR f (k + 1) := by
    unfold mkR
    rw [trimF_all, freeF_all]
    unfold setF
    rw [if_pos (by simp)]
    match k, hk, hx with
    | 0, _, hx => simp at hx; subst hx; rfl
    | 1, _, hx => simp at hx; subst hx; rfl
  unfold haddF
  rw [he, if_neg]
  have h1 := mkR_fit f (k + 1)
  unfold HFit mkR at h1
  rw [trimF_all] at h1
  unfold costF mkR
  have h2 : (num3 x).length = 3 := rfl
  omega
/-- While the directory is made. -/
def MkI (w : World) (b N root f qs : Nat) (O : List Nat) (T2 : Nat → Bool) (V : Nat → Option (List UInt8)) (F : Nat → Prop) (k : Nat) (wr : World) : Prop :=
  ∃ V2 F2, BatchV wr b N T2 V2 F2 ∧ (∀ k, F2 k → F k ∨ w.heap.size ≤ k) ∧ Chg F w wr ∧ HeapV V2 N [(root, mkR f k)] ∧ V2 f = some (hpage 0 []) ∧ (∀ j ∈ O, V2 j = V j) ∧ Blk wr qs 3 [.int .i64 0, .int .i64 f] ∧ ¬ F2 qs
/-- What hash.Make leaves. -/
def MkTo (w : World) (b N : Nat) (O : List Nat) (F : Nat → Prop) (V : Nat → Option (List UInt8)) (e : Ending) (w' : World) : Prop :=
  ∃ (root f : Nat) (T2 : Nat → Bool) (V2 : Nat → Option (List UInt8)), e = .returned (.tuple #[.int .i64 root, .int .i64 0]) ∧ BatchTo w w' b N T2 V2 F ∧ HashV O V2 T2 N root [[(f, [])]] [] ∧ ∀ j ∈ O, V2 j = V j

set_option maxRecDepth 100000 in
set_option maxHeartbeats 2000000 in
theorem hhmake_any {b N : Nat} {O : List Nat} {T : Nat → Bool} {V : Nat → Option (List UInt8)} {F : Nat → Prop} (w : World) (h : BatchV w b N T V F) (hO : ∀ m, m < N → (T m = true ↔ m ∈ O)) (h0 : 0 ∈ O) (hroom : O.length + 3 < N) :
    Calls Tryz.prog 15 #[.pointer (some ⟨b, 0, none⟩)] w (MkTo w b N O F V) := by
  obtain ⟨root, hr1, hr2, hr3⟩ := free_of_list O (fun m hm ht => (hO m hm).1 ht) (by omega)
  obtain ⟨f, hf1, hf2, hf3⟩ := free_of_list (T := tput T root true) (N := N) (root :: O) (fun m hm ht => by
    rcases (tput_true T root m).1 ht with h1 | h1
    · exact List.mem_cons_of_mem _ ((hO m hm).1 h1)
    · simp at h1; rw [h1]; exact List.mem_cons_self ..) (by simp; omega)
  obtain ⟨n1, hn1, hn2, hn3⟩ := free_of_list (T := tput (tput T root true) f true) (N := N) (f :: root :: O) (fun m hm ht => by
    rcases (tput_true _ f m).1 ht with h1 | h1
    · rcases (tput_true T root m).1 h1 with h1 | h1
      · exact List.mem_cons_of_mem _ (List.mem_cons_of_mem _ ((hO m hm).1 h1))
      · simp at h1; rw [h1]; exact List.mem_cons_of_mem _ (List.mem_cons_self ..)
    · simp at h1; rw [h1]; exact List.mem_cons_self ..) (by simp; omega)
  have hrO : root ∉ O := fun hm => by rw [(hO root hr1).2 hm] at hr2; cases hr2
  have hfr : f ≠ root := fun e => by subst e; rw [(tput_true T f f).2 (.inr (by simp))] at hf2; cases hf2
  have hfO : f ∉ O := fun hm => by rw [(tput_true T root f).2 (.inl ((hO f hf1).2 hm))] at hf2; cases hf2
  have hn1r : n1 ≠ root := fun e => by subst e; rw [(tput_true _ f n1).2 (.inl ((tput_true T n1 n1).2 (.inr (by simp))))] at hn2; cases hn2
  have hr0 : 1 ≤ root := by
    rcases Nat.eq_zero_or_pos root with e | e
    · exact absurd (e ▸ h0) hrO
    · exact e
  have hf0 : 1 ≤ f := by
    rcases Nat.eq_zero_or_pos f with e | e
    · exact absurd (e ▸ h0) hfO
    · exact e
  have hn0 : 1 ≤ n1 := by
    rcases Nat.eq_zero_or_pos n1 with e | e
    · rw [(tput_true _ f n1).2 (.inl ((tput_true T root n1).2 (.inl ((hO n1 hn1).2 (e ▸ h0)))))] at hn2; cases hn2
    · exact e
  have HB := Lib.hid h
  have HOO := Lib.hid hO
  have H0 := Lib.hid h0
  have HR := Lib.hid (And.intro hr2 hr3)
  have HFF := Lib.hid (And.intro hf2 hf3)
  have HN := Lib.hid (And.intro hn2 hn3)
  have HRO := Lib.hid hrO
  have HFO := Lib.hid hfO
  have HFR := Lib.hid hfr
  have HNR := Lib.hid hn1r
  have hN := h.le
  clear h hO h0 hr2 hr3 hf2 hf3 hn2 hn3 hrO hfr hfO hn1r
  go_enter Tryz.func15, Tryz.ntmps15
  go_wp2_with fail
  refine (hmake_any w HB.out hr1 HR.out.1 HR.out.2).mono ?_
  rintro e w1 ⟨rfl, F1, hb1, hs1, hc1⟩
  have HB1 := Lib.hid hb1
  have HS1 := Lib.hid hs1
  have HC1 := Lib.hid hc1
  clear hb1 hs1 hc1
  go_wp2_with fail
  refine (hmake_any w1 HB1.out hf1 HFF.out.1 HFF.out.2).mono ?_
  rintro e w2 ⟨rfl, F2, hb2, hs2, hc2⟩
  have hsz1 := HC1.out.size
  have HS2 : Hid (∀ k, F2 k → F k ∨ w.heap.size ≤ k) := fun k hk => by
    rcases hs2 k hk with h1 | h1
    · exact HS1.out k h1
    · exact .inr (by omega)
  have HC2 : Hid (Chg F w w2) := HC1.out.trans hc2 (fun k hk hF => by
    rcases HS1.out k hF with h1 | h1
    · exact h1
    · omega)
  have hblk : Blk (w2.alloc (.cells #[.int .i64 0, .int .i64 f] 3)) w2.heap.size 3 [.int .i64 0, .int .i64 f] := Blk.newA _ _ _ rfl
  have hqF : ¬ F2 w2.heap.size := fun hk => by have := hb2.lt hk; omega
  have hfw : Fresh w2 (w2.alloc (.cells #[.int .i64 0, .int .i64 f] 3)) := (Chg.refl _ _).alloc _
  have hI0 : MkI w b N root f w2.heap.size O (tput (tput T root true) f true) V F 0 (w2.alloc (.cells #[.int .i64 0, .int .i64 f] 3)) := by
    refine ⟨_, F2, hb2.fresh hfw, HS2.out, HC2.out.trans hfw (fun _ _ f => f.elim), ⟨by simp, by simp, fun i m rs hi => ?_⟩, vput_same _ _ _, fun j hj => ?_, hblk, hqF⟩
    · cases i with
      | zero =>
        simp at hi
        obtain ⟨rfl, rfl⟩ := hi
        exact ⟨by rw [vput_ne _ _ _ _ (fun e => HFR.out e.symm), vput_same]; rfl, mkR_fit f 0, hr0, hr1⟩
      | succ i => simp at hi
    · rw [vput_ne _ _ _ _ (fun e => HFO.out (by rw [← e]; exact hj)), vput_ne _ _ _ _ (fun e => HRO.out (by rw [← e]; exact hj))]
  have HI0 := Lib.hid hI0
  clear hb2 hs2 hc2 hblk hqF hfw hI0 HS2 HC2 HB1 HS1 HC1
  go_wp2_with fail
  generalize w2.alloc (.cells #[.int .i64 0, .int .i64 f] 3) = w3 at *
  generalize w2.heap.size = qs at *
  go_loopw [5, 25] (fun e5 i wr => ∃ k : Nat, k ≤ 2 ∧ i = .int .i64 k ∧ e5 = .int .i64 0 ∧ Hid (MkI w b N root f qs O (tput (tput T root true) f true) V F k wr)) (fun _ i _ => 2 - (intOf i).toNat)
  case atStart => exact ⟨0, by omega, rfl, rfl, HI0.out⟩
  case round =>
    obtain ⟨k, hk, rfl, rfl, HI⟩ := hrel
    clear HI0
    obtain ⟨V2, F3, hb3, hs3, hc3, hd3, hf3, ho3, hq3, hqF3⟩ := HI.out
    have HB3 := Lib.hid hb3
    have HS3 := Lib.hid hs3
    have HC3 := Lib.hid hc3
    have HD3 := Lib.hid hd3
    have HF3 := Lib.hid hf3
    have HO3 := Lib.hid ho3
    have HQ3 := Lib.hid hq3
    clear hb3 hs3 hc3 hd3 hf3 ho3 hq3 HI
    by_cases hlt : k < 2
    · obtain ⟨x, hx, hxl⟩ : ∃ x, ([0, f])[k]? = some x ∧ x < N := by
        match k, hlt with
        | 0, _ => exact ⟨0, rfl, by omega⟩
        | 1, _ => exact ⟨f, rfl, hf1⟩
      have hcx : wr.cell? ⟨qs, k, none⟩ = some (.int .i64 x) := by
        rw [HQ3.out.cell]
        match k, hlt, hx with
        | 0, _, hx => simp at hx; subst hx; rfl
        | 1, _, hx => simp at hx; subst hx; rfl
      have HX := Lib.hid hx
      have HADD := Lib.hid (mkR_add f k x hlt hx)
      clear hx
      go_wp2_with fail
      refine (hbytes_any x wr (by omega)).mono ?_
      rintro e w4 ⟨rfl, hb4, hf4⟩
      have HNB : Hid (BytesO w4 (.slice (some ⟨wr.heap.size, 0, none⟩) 3 3) (num3 x) F3) := .inr ⟨wr.heap.size, Blk.slB hb4 rfl, fun hk => by have := HB3.out.lt hk; omega⟩
      have HB4 := Lib.hid (HB3.out.fresh hf4)
      have HC4 : Hid (Chg F w w4) := HC3.out.trans hf4 (fun _ _ f => f.elim)
      have HQ4 := Lib.hid (HQ3.out.chg hf4 id)
      have hl4 := HQ4.out.lt
      clear hb4 hf4 hcx HB3 HC3 HQ3
      go_wp2_with fail
      have hins := hinsert_any w4 HB4.out HD3.out HNB.out (by simp [num3]) ⟨hn0, hn1⟩ HN.out.1 HN.out.2 (by simp [pagesL]; exact HNR.out)
      have hix : hidx (num3 x) [(root, mkR f k)] = 0 := hidx_of (i := 0) (m := root) (rs := mkR f k) (Nat.zero_le _) rfl HADD.out
      have hii := hins_some (n0 := n1) (i := 0) (m := root) (rs := mkR f k) (L := [(root, mkR f k)]) rfl HADD.out hix
      refine hins.mono ?_
      rintro e w5 ⟨rfl, V5, ⟨F5, hb5, hs5, hc5⟩, hd5, hv5⟩
      rw [hix, if_pos (by simp)] at hb5
      rw [hii.1] at hd5 hv5
      have HB5 := Lib.hid hb5
      have HD5 : Hid (HeapV V5 N [(root, mkR f (k + 1))]) := hd5
      have HV5 : Hid (∀ j, j ≠ root → V5 j = V2 j) := fun j hj => hv5 j (by simpa [pagesL] using hj)
      have hsz4 := HC4.out.size
      have HS5 : Hid (∀ j, F5 j → F j ∨ w.heap.size ≤ j) := fun j hj => by
        rcases hs5 j hj with h1 | h1
        · exact HS3.out j h1
        · exact .inr (by omega)
      have HC5 : Hid (Chg F w w5) := HC4.out.trans hc5 (fun j hj hF => by
        rcases HS3.out j hF with h1 | h1
        · exact h1
        · omega)
      have HQ5 := Lib.hid (HQ4.out.chg hc5 hqF3)
      have hqF5 : ¬ F5 qs := fun hk => by
        rcases hs5 qs hk with h1 | h1
        · exact hqF3 h1
        · omega
      clear hb5 hs5 hc5 hd5 hv5 hins hix hii
      generalize hrid n1 (num3 x) [(root, mkR f k)] = rid at *
      go_wp2
      go_roundw
      case rel => exact ⟨k + 1, by omega, by go_num, rfl, V5, F5, HB5.out, HS5.out, HC5.out, HD5.out, by rw [HV5.out f HFR.out, HF3.out], fun j hj => by rw [HV5.out j (fun e => HRO.out (e ▸ hj)), HO3.out j hj], HQ5.out, hqF5⟩
      case measure => simp [intOf]; omega
    · obtain rfl : k = 2 := by omega
      go_wp2
      go_ret2
      refine ⟨root, f, _, V2, rfl, ⟨F3, HB3.out, HS3.out, HC3.out⟩, ⟨⟨HD3.out, ?_, ?_, ?_, ?_, H0.out, HRO.out, ?_⟩, by simp, ?_, by simp, by simp⟩, HO3.out⟩
      · intro k L hk
        cases k with
        | zero =>
          simp at hk; subst hk
          refine ⟨by simp, by simp, fun i m rs hi => ?_⟩
          cases i with
          | zero =>
            simp at hi
            obtain ⟨rfl, rfl⟩ := hi
            exact ⟨by rw [HF3.out]; rfl, HFit.nil, hf0, hf1⟩
          | succ i => simp at hi
        | succ k => simp at hk
      · intro k L hk
        cases k with
        | zero => simp at hk; subst hk; simp [pagesL]; exact fun e => HFR.out e.symm
        | succ k => simp at hk
      · intro i j L1 L2 hij h1 h2
        cases i with
        | zero =>
          cases j with
          | zero => omega
          | succ j => simp at h2
        | succ i => simp at h1
      · intro m hm
        rw [tput_true, tput_true, HOO.out m hm]
        constructor
        · rintro ((h1 | h1) | h1)
          · exact .inl h1
          · exact .inr (.inl (by simpa using h1))
          · exact .inr (.inr ⟨0, [(f, [])], rfl, by simpa [pagesL] using h1⟩)
        · rintro (h1 | h1 | ⟨j, L, hj, h1⟩)
          · exact .inl (.inl h1)
          · exact .inl (.inr (by simpa using h1))
          · cases j with
            | zero => simp at hj; subst hj; exact .inr (by simpa [pagesL] using h1)
            | succ j => simp at hj
      · intro k L hk m hm
        cases k with
        | zero => simp at hk; subst hk; simp [pagesL] at hm; subst hm; exact HFO.out
        | succ k => simp at hk
      · intro k L hk
        cases k with
        | zero => simp at hk; subst hk; simp [entsL, ents, entsFrom]
        | succ k => simp at hk
end Go.Proofs.YtnmjkgnahhbnoaaGreat
