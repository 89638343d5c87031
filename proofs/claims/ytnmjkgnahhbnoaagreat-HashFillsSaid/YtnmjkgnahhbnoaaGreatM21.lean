/- Part 21 of the walks that the laws of package hash share (HashN). -/
import Derived.Test.YtnmjkgnahhbnoaaGreatM20
set_option linter.unusedVariables false
set_option linter.unusedSimpArgs false
/- Walks of package hash: Free. -/
namespace Go.Proofs.YtnmjkgnahhbnoaaGreat
open Go.RowKit
set_option linter.unusedSimpArgs false

theorem tfree_tfree (T : Nat → Bool) (a c : List Nat) : tfree (tfree T a) c = tfree T (a ++ c) := by
  funext k
  unfold tfree
  by_cases h1 : k ∈ c
  · simp [h1]
  · simp [h1]
/-- While an index is given back: k buckets are done. -/
def FrI (w : World) (b N base q : Nat) (T : Nat → Bool) (V : Nat → Option (List UInt8)) (F : Nat → Prop) (B : List (List (Nat × Rs))) (sv : Value) (E : List Ent) (k : Nat) (wr : World) : Prop :=
  ∃ F2, BatchV wr b N (tfree T ((B.take k).flatMap pagesL)) V F2 ∧ (∀ j, F2 j → F j ∨ w.heap.size ≤ j) ∧ Chg F w wr ∧ Blk wr q 65 [.pointer (some ⟨b, 0, none⟩), sv] ∧ ¬ F2 q ∧ EntsD wr base sv E F2
theorem EntsD.step {w w1 : World} {base : Nat} {sv : Value} {E : List Ent} {F F2 : Nat → Prop} (h : EntsD w base sv E F) (hc : Chg F w w1) (hs : ∀ k, F2 k → F k ∨ w.heap.size ≤ k) : EntsD w1 base sv E F2 := by
  obtain ⟨X, h1, h2, h3, h4⟩ := h
  refine ⟨X, hc.owns h1 h3, h2.chg hc (fun i x b hx hb _ => h4 x (List.mem_of_getElem? hx) b hb), fun k hk hf => ?_, fun x hx b hb hf => ?_⟩
  · rcases hs k hf with h5 | h5
    · exact h3 k hk h5
    · have := (h1.lt k hk).2; omega
  · rcases hs b hf with h5 | h5
    · exact h4 x hx b hb h5
    · have := (h2.own_lt hx hb).2; omega
theorem flat_take {B : List (List (Nat × Rs))} {k : Nat} {L : List (Nat × Rs)} (h : B[k]? = some L) : (B.take (k + 1)).flatMap pagesL = (B.take k).flatMap pagesL ++ pagesL L := by
  have hlt : k < B.length := (List.getElem?_eq_some_iff.1 h).1
  rw [List.take_succ_eq_append_getElem hlt, List.flatMap_append, (List.getElem?_eq_some_iff.1 h).2]
  simp
theorem flat_mem {B : List (List (Nat × Rs))} {k m : Nat} (h : m ∈ (B.take k).flatMap pagesL) : ∃ (j : Nat) (L : List (Nat × Rs)), j < k ∧ B[j]? = some L ∧ m ∈ pagesL L := by
  obtain ⟨L, hL, hm⟩ := List.mem_flatMap.1 h
  obtain ⟨j, hj⟩ := List.getElem?_of_mem hL
  rw [List.getElem?_take] at hj
  split at hj
  · exact ⟨j, L, by assumption, hj, hm⟩
  · cases hj

set_option maxRecDepth 100000 in
set_option maxHeartbeats 2000000 in
theorem hhfree_any {b N root : Nat} {O : List Nat} {T : Nat → Bool} {V : Nat → Option (List UInt8)} {F : Nat → Prop} {B : List (List (Nat × Rs))} {C : List HE} (w : World) (h : BatchV w b N T V F) (hH : HashV O V T N root B C) :
    Calls Tryz.prog 18 #[.pointer (some ⟨b, 0, none⟩), .int .i64 root] w fun e w' => e = .returned (.int .i64 0) ∧ ∃ T2, BatchTo w w' b N T2 V F ∧ ∀ m, m < N → (T2 m = true ↔ m ∈ O) := by
  have HB := Lib.hid h
  have HH := Lib.hid hH
  have hop := hopen_any (L := dirL root C.length B) w h hH.st.dir (by rw [dir_len]; have := hH.nb.1; omega)
  rw [(dir_next root C.length B).1] at hop
  have HOP := Lib.hid hop
  have HDE := Lib.hid (dir_len root C.length B)
  have HDP := Lib.hid (dir_page root C.length B)
  have hn := hH.nb
  have hN := h.le
  obtain ⟨n, hBn⟩ : ∃ n, n = B.length := ⟨_, rfl⟩
  rw [← hBn] at hn
  have HBN := Lib.hid hBn
  clear hop h hH hBn
  go_enter Tryz.func18, Tryz.ntmps18
  go_wp2_with fail
  refine HOP.out.mono ?_
  rintro e w2 ⟨sv, rfl, hes, hf2⟩
  generalize entsL (dirL root C.length B) = E at *
  obtain ⟨a, cap, rfl⟩ := hes.slice
  rw [HDE.out, ← HBN.out] at hes ⊢
  have HES := Lib.hid hes
  have HF2 := Lib.hid hf2
  clear hes hf2 HOP
  go_wp2_with (first
    | (refine wpList_allocA rfl 65 rfl [.pointer none, .slice none 0 0] Tryz.zeroValue65 ?_
       intro w3 HB3 HF3 HS3)
    | (refine wpList_storeA rfl 65 _ _ rfl w2.heap.size 0 rfl [.pointer (some ⟨b, 0, none⟩), .slice a (n + 1) cap] rfl _ _ HB3.out infoIdx (by simp) (by simp [Value.oneCell']) ?_
       intro w4 HB4 HC4
       have hb4 := HB4.out
       rw [over_all _ _ (by simp)] at hb4
       have HX4 := Lib.hid hb4
       clear hb4
       have HF4 : Hid (Fresh w2 w4) := HF3.out.trans HC4.out (fun k hk e => by omega)))
  have hszw := HF2.out.size
  have HI0 : Hid (FrI w b N w.heap.size w2.heap.size T V F B (.slice a (n + 1) cap) E 0 w4) := by
    refine ⟨F, ?_, fun j hj => .inl hj, (HF2.out.trans HF4.out (fun _ _ f => f)).fresh, HX4.out, fun hk => by have := HB.out.lt hk; omega, ?_⟩
    · rw [List.take_zero, List.flatMap_nil, tfree_nil]
      exact (HB.out.fresh HF2.out).fresh HF4.out
    · exact (HES.out.fresh HF4.out).toD ((Chg.refl F w4)) (fun k hk => HB.out.lt hk) (fun k hk => .inl hk)
  have hqw : w.heap.size ≤ w2.heap.size := hszw
  clear HES HB4 HC4 HX4 HF4 HB3 HF3 HS3 HF2
  generalize w2.heap.size = q at *
  generalize hbb : w.heap.size = base at *
  have HBB := Lib.hid hbb
  clear hbb
  go_loopw [6, 7] (fun e6 k7 wr => ∃ k : Nat, k ≤ n ∧ k7 = .int .i64 k ∧ e6 = .int .i64 0 ∧ Hid (FrI w b N base q T V F B (.slice a (n + 1) cap) E k wr)) (fun _ k7 _ => n - (intOf k7).toNat)
  case atStart => exact ⟨0, by omega, rfl, rfl, HI0.out⟩
  case round =>
    clear HI0
    obtain ⟨k, hk, rfl, rfl, HI⟩ := hrel
    obtain ⟨F2, hb2, hs2, hc2, hq2, hqF2, he2⟩ := HI.out
    have HB2 := Lib.hid hb2
    have HS2 := Lib.hid hs2
    have HC2 := Lib.hid hc2
    have HQ2 := Lib.hid hq2
    have HE2 := Lib.hid he2
    have cq := cells2 hq2
    clear hb2 hs2 hc2 hq2 he2 HI
    by_cases hlt : k < n
    · obtain ⟨L, hL⟩ : ∃ L, B[k]? = some L := ⟨_, List.getElem?_eq_getElem (by rw [← HBN.out]; exact hlt)⟩
      have HL := Lib.hid hL
      have HVL := Lib.hid (HH.out.st.bks k L hL)
      have hnl : 1 ≤ nextAt L 0 ∧ nextAt L 0 < N := ⟨(HVL.out.next_lt 0).2 HVL.out.ne, (HVL.out.next_lt 0).1⟩
      have HEK := Lib.hid (HDP.out k L hL)
      have HTF : Hid (∀ m ∈ pagesL L, tfree T ((B.take k).flatMap pagesL) m = true) := fun m hm => by
        unfold tfree
        rw [if_neg]
        · exact (HH.out.st.tk m (by
            obtain ⟨y, hy, rfl⟩ := List.mem_map.1 hm
            obtain ⟨i, hi⟩ := List.getElem?_of_mem hy
            exact (HVL.out.pg i y.1 y.2 hi).2.2.2)).2 (.inr (.inr ⟨k, L, hL, hm⟩))
        · intro hc
          obtain ⟨j, M, hj, hM, hmM⟩ := flat_mem hc
          exact HH.out.st.dd j k M L (by omega) hM hL m hmM hm
      clear hL
      go_wp2_with (refine wpList_loadA rfl 65 _ rfl q 0 rfl _ _ HQ2.out 2 [.pointer (some ⟨b, 0, none⟩), .slice a (n + 1) cap] (take_all _ _ (by simp)) _ Tryz.underlying65 rfl infoIdx (by simp) ?_)
      refine (hpage_any b base k (nextAt L 0) _ E _ wr HE2.out.toS HEK.out (by omega) (by rw [HDE.out, ← HBN.out]; omega)).mono ?_
      rintro e w5 ⟨rfl, hf5⟩
      have HB5 := Lib.hid (HB2.out.fresh hf5)
      have HC5 : Hid (Chg F w w5) := HC2.out.trans hf5 (fun _ _ f => f.elim)
      have HQ5 := Lib.hid (HQ2.out.chg hf5 id)
      have HE5 := Lib.hid (HE2.out.fresh hf5)
      clear hf5 HB2 HC2 HQ2 HE2 cq
      go_wp2_with fail
      refine (hfree_any w5 HB5.out HVL.out HTF.out).mono ?_
      rintro e w6 ⟨rfl, F6, hb6, hs6, hc6⟩
      rw [tfree_tfree, ← flat_take HL.out] at hb6
      have hsz := HC5.out.size
      have HB6 := Lib.hid hb6
      have HS6 : Hid (∀ j, F6 j → F j ∨ w.heap.size ≤ j) := fun j hj => by
        rcases hs6 j hj with h1 | h1
        · exact HS2.out j h1
        · exact .inr (by omega)
      have HC6 : Hid (Chg F w w6) := HC5.out.trans hc6 (fun j hj hF => by
        rcases HS2.out j hF with h1 | h1
        · exact h1
        · omega)
      have hq5l := HQ5.out.lt
      have HQ6 := Lib.hid (HQ5.out.chg hc6 hqF2)
      have HE6 := Lib.hid (HE5.out.step hc6 hs6)
      have hqF6 : ¬ F6 q := fun hk => by
        rcases hs6 q hk with h1 | h1
        · exact hqF2 h1
        · omega
      clear hb6 hs6 hc6 HB5 HC5 HQ5 HE5
      go_wp2
      go_roundw
      case rel => exact ⟨k + 1, by omega, by go_num, rfl, F6, HB6.out, HS6.out, HC6.out, HQ6.out, hqF6, HE6.out⟩
      case measure => simp [intOf]; omega
    · obtain rfl : k = n := by omega
      go_wp2_with fail
      have HTF : Hid (∀ m ∈ pagesL (dirL root C.length B), tfree T ((B.take k).flatMap pagesL) m = true) := fun m hm => by
        simp [pagesL] at hm
        subst hm
        unfold tfree
        have hp := HH.out.st.dir.pg 0 m (dirR C.length B) rfl
        rw [if_neg]
        · exact (HH.out.st.tk m hp.2.2.2).2 (.inr (.inl rfl))
        · intro hc
          obtain ⟨j, M, hj, hM, hmM⟩ := flat_mem hc
          exact HH.out.st.d0 j M hM hmM
      have hfr := hfree_any wr HB2.out HH.out.st.dir HTF.out
      rw [(dir_next root C.length B).1] at hfr
      refine hfr.mono ?_
      rintro e w6 ⟨rfl, hb6⟩
      rw [tfree_tfree] at hb6
      have HB6 := Lib.hid (BatchTo.trans (by have := HBB.out; exact HS2.out) HC2.out hb6)
      clear hb6 hfr
      go_wp2
      go_ret
      refine ⟨rfl, _, HB6.out, fun m hm => ?_⟩
      have htk := HH.out.st.tk m hm
      unfold tfree
      constructor
      · intro ht
        split at ht
        · cases ht
        · rename_i hnm
          rw [List.mem_append, not_or] at hnm
          rcases htk.1 ht with h1 | h1 | ⟨j, M, hM, h1⟩
          · exact h1
          · exact absurd (by simp [pagesL]; exact h1) hnm.2
          · exfalso
            apply hnm.1
            rw [HBN.out, List.take_length]
            exact List.mem_flatMap.2 ⟨M, List.mem_of_getElem? hM, h1⟩
      · intro hmO
        rw [if_neg]
        · exact htk.2 (.inl hmO)
        · rw [List.mem_append, not_or]
          refine ⟨fun hc => ?_, fun hc => ?_⟩
          · obtain ⟨j, M, _, hM, hmM⟩ := flat_mem hc
            exact HH.out.st.o2 j M hM m hmM hmO
          · simp [pagesL] at hc
            subst hc
            exact HH.out.st.o1 hmO
end Go.Proofs.YtnmjkgnahhbnoaaGreat
