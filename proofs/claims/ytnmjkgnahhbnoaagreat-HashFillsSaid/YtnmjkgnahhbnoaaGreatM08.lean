/- Part 8 of the walks that the laws of package hash share (Pool2, Pool3, Pool4). -/
import Derived.Test.YtnmjkgnahhbnoaaGreatM06
import Derived.Test.YtnmjkgnahhbnoaaGreatM07
import Derived.RangeFuncFrom
import Derived.RangeFuncCalls
set_option linter.unusedVariables false
set_option linter.unusedSimpArgs false
/- Walks of package pool: the bits of taken pages. -/
namespace Go.Proofs.YtnmjkgnahhbnoaaGreat
open Go.RowKit
set_option linter.unusedSimpArgs false
attribute [local go_sem] Oper.semAt_some

/-- Between two rounds of mark's loop. -/
structure MarkI (w : World) (b p : Nat) (a : Option Addr) (cap : Nat) (L : List (Nat × List UInt8)) (g : Nat) (ms : List UInt8) (q : Nat) (N : Nat) (pg : List UInt8) (W : World) : Prop where
  pg : Blk W q 111 (bvals pg)
  bits : Blk W g 5 (bvals ms)
  batch : BatchAt W b p a cap L
  chg : Chg (· = g) w W
  big : N ≤ W.heap.size
theorem MarkI.own {w : World} {b p : Nat} {a : Option Addr} {cap : Nat} {L : List (Nat × List UInt8)} {g : Nat} {ms : List UInt8} {q N : Nat} {pgs : List Unit → List UInt8} {B : Nat} (hB : w.heap.size ≤ B) :
    OwnFrom B (fun pre W => MarkI w b p a cap L g ms q N (pgs pre) W) := fun s W W' row h hg hr => by
  have hc := Chg.of_grown hg
  have hr2 : ∀ r, row = some r → ∃ o : Obj, W.heap[r]? = some o ∧ o.isCells = false := fun r e => (hr r e).2
  refine ⟨h.pg.chg hc (row_ne h.pg hr2), h.bits.chg hc (row_ne h.bits hr2), h.batch.chg hc (row_ne h.batch.blk hr2) (fun k hk => own_ne h.batch.row hr2 (by rwa [ownBlock_slice])), ?_, Nat.le_trans h.big hg.size⟩
  exact h.chg.grown hg (fun k hk => .inr (by have := (hr k hk).1; omega))
theorem keepC_t {B1 B2 : Nat} {A B C : World} (h : KeepC B1 B2 A B) (k : KeepC B1 B2 B C) : KeepC B1 B2 A C := fun o => ⟨(k o).1.trans (h o).1, (k o).2.trans (h o).2⟩
theorem keepC_b {B1 B2 : Nat} {w : World} (h1 : B1 < w.heap.size) (h2 : B2 < w.heap.size) (W : World) (l : Nat) (o o' : Obj) (hl : w.heap.size ≤ l) (_ : W.heap[l]? = some o) (_ : o.isCells = false) (_ : o.isWalk = false) : KeepC B1 B2 W (W.putObj l o') := fun k => by
  have hg := grownBy_putObj' W l o'
  have hb : ∀ B, B < w.heap.size → (W.putObj l o').cell? ⟨B, k, none⟩ = W.cell? ⟨B, k, none⟩ := fun B hB => by
    by_cases hlt : B < W.heap.size
    · exact World.cell?_of_block (a := ⟨B, k, none⟩) (hg.block B hlt (fun e => by simp only [Option.some.injEq] at e; omega))
    · have e1 : (W.putObj l o').heap[B]? = W.heap[B]? := by
        simp [World.putObj, Array.getElem?_setIfInBounds, show ¬ l = B by omega]
      exact World.cell?_of_block (a := ⟨B, k, none⟩) e1
  exact ⟨hb B1 h1, hb B2 h2⟩
theorem KeepC.chg {B1 B2 : Nat} {W W' : World} {F : Nat → Prop} (h : Chg F W W') (l1 : B1 < W.heap.size) (l2 : B2 < W.heap.size) (f1 : ¬ F B1) (f2 : ¬ F B2) : KeepC B1 B2 W W' := fun o =>
  ⟨h.cellEq (p := ⟨B1, o, none⟩) l1 f1, h.cellEq (p := ⟨B2, o, none⟩) l2 f2⟩

/-- The first page, for its bits. -/
def bitsPage (ms : List UInt8) : List UInt8 := (addF (madeF (lowB 255) []) ms).getD zpage
def MarkPost (w : World) (b p : Nat) (a : Option Addr) (L : List (Nat × List UInt8)) (n : Nat) (tk : Bool) (g : Nat) (bs : List UInt8) (e : Ending) (w' : World) : Prop :=
  e = .returned (.tuple #[]) ∧ ∃ a' cap', BatchAt w' b p a' cap' (imgPut 0 (bitsPage (markF bs n tk)) L) ∧ Chg (fun k => k = g ∨ k = b ∨ a.map (·.block) = some k) w w' ∧ (∀ k, a'.map (·.block) = some k → a.map (·.block) = some k ∨ w.heap.size ≤ k)
theorem Blk.bytesS {w : World} {g : Nat} {l : List UInt8} (h : Blk w g 5 (bvals l)) (n : Nat) (hn : n = l.length) (c : Nat) : BytesS w (.slice (some ⟨g, 0, none⟩) n c) l := by
  subst hn
  refine .inr ⟨g, 0, c, (bvals l).toArray, rfl, h, fun j c hj => ?_⟩
  rw [Nat.zero_add, List.getElem?_toArray, bvals_get, hj]; rfl
theorem AddPost.tuple {p r : List UInt8} {w w' : World} {e : Ending} (h : AddPost p r w e w') : (∃ i k, e = .returned (.tuple #[aggB ((addF p r).getD zpage), .int .i64 i, .bool k])) ∧ Fresh w w' := by
  obtain ⟨h1, h2⟩ := h
  refine ⟨?_, h1⟩
  cases hq : addF p r with
  | none => rw [hq] at h2; exact ⟨_, _, h2⟩
  | some q => rw [hq] at h2; exact ⟨_, _, h2⟩

set_option maxRecDepth 100000 in
set_option maxHeartbeats 1000000 in
theorem mark_any (b p : Nat) (a : Option Addr) (cap : Nat) (L : List (Nat × List UInt8)) (n : Nat) (tk : Bool) (g : Nat) (bs : List UInt8) (w : World) (h : BatchAt w b p a cap L) (hs : L.length ≤ 90000) (hb : Blk w g 5 (bvals bs)) (hl : 1 ≤ bs.length ∧ bs.length ≤ 400) (hn : n < 8 * bs.length) :
    Calls Tryz.prog 49 #[.pointer (some ⟨b, 0, none⟩), .slice (some ⟨g, 0, none⟩) bs.length bs.length, .int .i64 n, .bool tk] w (MarkPost w b p a L n tk g bs) := by
  have H := Lib.hid h
  have HB := Lib.hid hb
  have HBW := Lib.hid hb
  have hn8 : n / 8 < bs.length := by omega
  have hni : ((n : Int) / 8) < bs.length := by omega
  have hni0 : (0 : Int) ≤ (n : Int) / 8 := by omega
  have hnt : ((n : Int) / 8).toNat = n / 8 := by omega
  have hw : IntKind.i64.wrap ((n : Int) / 8) = (n : Int) / 8 := IntWalk.i64_in _ (by omega)
  have hw2 : IntKind.i64.wrap ((n : Int) % 8) = (n : Int) % 8 := IntWalk.i64_in _ (by omega)
  have htm : (n : Int).tmod 8 = ((n % 8 : Nat) : Int) := by rw [Int.tmod_eq_emod_of_nonneg (by omega)]; omega
  have hm8 : n % 8 < 8 := Nat.mod_lt _ (by omega)
  have hc : w.cell? ⟨g, n / 8, none⟩ = some (B bs[n / 8]) := by rw [hb.cell, bvals_get, List.getElem?_eq_getElem hn8]; rfl
  have hz := hb.frozen (n / 8)
  clear h hb
  have hx : bs.getD (n / 8) 0 = bs[n / 8] := by rw [List.getD_eq_getElem?_getD, List.getElem?_eq_getElem hn8]; rfl
  have HMK : Hid (markF bs n tk = bs.set (n / 8) (if tk then orB (clrB bs[n / 8] (n % 8)) (n % 8) else clrB bs[n / 8] (n % 8))) := by show _ = _; rw [markF, hx]
  generalize bs[n / 8] = x at *
  generalize n % 8 = m at *
  refine (callsIn_wide (n := 3)).1 (callsIn_of_wp_marks Tryz.func49 rfl trivial ?_ rfl)
  simp only [Tryz.ntmps49, List.size_toArray, List.length_cons, List.length_nil, Nat.reduceAdd, Nat.reduceSub, Array.replicate_succ, Array.replicate_zero, List.push_toArray, List.append_toArray, List.nil_append, List.cons_append]
  refine wpIn_wide.2 ?_
  have hxd : bs.getD (n / 8) 0 = x := hx
  obtain ⟨o1, _, _, _⟩ := bits_one x m hm8
  have ox := bits_one (clrB x m) m hm8
  have o2 := ox.2.1
  go_wp2_with fail
  go_still_tail 10, (by kernel_rfl)
  change wpList _ _ _ _ _ w.drew
  have hcd : w.drew.cell? ⟨g, n / 8, none⟩ = some (B x) := hc
  have hzd : w.drew.frozen? ⟨g, n / 8, none⟩ = false := hz
  go_upto_if 20 with (fail)
  rw [o1]
  have hb1 := HB.out.set (n / 8) (B (clrB x m))
  rw [bvals_set] at hb1
  have hb1 : Blk (w.setCell ⟨g, n / 8, none⟩ (B (clrB x m))).drew g 5 (bvals (bs.set (n / 8) (clrB x m))) := hb1.drew
  have HC1 : Hid (Chg (· = g) w (w.setCell ⟨g, n / 8, none⟩ (B (clrB x m))).drew) := (Chg.put1 w g (n / 8) _).drew
  have hc1 : (w.setCell ⟨g, n / 8, none⟩ (B (clrB x m))).drew.cell? ⟨g, n / 8, none⟩ = some (B (clrB x m)) := by
    rw [hb1.cell, bvals_get]; simp [hn8]
  have hz1 := hb1.frozen (n / 8)
  have HB1 := Lib.hid hb1
  clear hc hz hcd hzd hb1 ox o1
  generalize (w.setCell ⟨g, n / 8, none⟩ (B (clrB x m))).drew = w1 at *
  go_cut [] from 20 to 30 (fun wx => Hid (Blk wx g 5 (bvals (markF bs n tk))) ∧ Hid (Chg (· = g) w wx))
  case first =>
    cases tk with
    | false =>
      go_wp2
      go_meet
      refine ⟨?_, HC1⟩
      have := HMK.out
      rw [this]; exact HB1.out
    | true =>
      go_wp2_with fail
      go_still_tail 10, (by kernel_rfl)
      change wpList _ _ _ _ _ w1.drew
      have hcd : w1.drew.cell? ⟨g, n / 8, none⟩ = some (B (clrB x m)) := hc1
      have hzd : w1.drew.frozen? ⟨g, n / 8, none⟩ = false := hz1
      go_wp2_with fail
      rw [o2]
      go_meet
      refine ⟨?_, (HC1.out.drew.trans (Chg.put1 _ g (n / 8) _) (fun _ _ h => h))⟩
      have := HMK.out
      rw [this]
      have h2 := HB1.out.drew.set (n / 8) (B (orB (clrB x m) m))
      rw [bvals_set, List.set_set] at h2
      exact h2
  case rest =>
    obtain ⟨HB2, HC2⟩ := hcut
    clear HB1 HC1 hc1 hz1 HB
    have HML : Hid ((markF bs n tk).length = bs.length) := markF_length _ _ _
    generalize hms0 : markF bs n tk = ms at *
    have HMS := Lib.hid hms0
    clear hms0
    clear hni hni0 hnt hw hw2 hx htm hm8 hxd o2 hb1 HMK
    go_wp2_with fail
    refine (new_any 255 _ (by omega) (by omega)).mono ?_
    rintro e w2 ⟨rfl, hf2⟩
    have HB3 := Lib.hid (HB2.out.chg hf2 id)
    have HC3 := Lib.hid (HC2.out.trans hf2.fresh (fun _ _ h => h))
    clear HB2 HC2 hf2
    have HP0 : Hid ((madeF (lowB 255) []).length = 512) := madeF_length _ _ (by simp [endF])
    generalize hpg0 : madeF (lowB 255) [] = pg0 at *
    have HPG0 := Lib.hid hpg0
    clear hpg0
    go_wp2_with (first
      | (refine wpList_allocA rfl 111 rfl (bvals zpage) Tryz.zeroValue111 ?_
         intro w3 HB4 HF4 HS4)
      | (refine wpList_storeA rfl 111 _ _ rfl w2.heap.size 0 rfl (bvals pg0) rfl _ _ HB4.out (infoPage' HP0.out) (by simp [HP0.out]) bvals_one ?_
         intro w4 HB5 HC5))
    have hq5 := HB5.out
    rw [over_all _ _ (by simp [HP0.out])] at hq5
    have hc24 : Fresh w2 w4 := HF4.out.trans HC5.out (fun k hk e => by omega)
    have hc4 : Chg (· = g) w w4 := HC3.out.trans hc24.fresh (fun _ _ h => h)
    have hg4 := HB3.out.chg hc24 id
    have hbg : b ≠ g := by
      rintro rfl
      have := H.out.blk
      rw [Blk, HBW.out] at this; simp at this
    have hag : ¬ a.map (·.block) = some g := by
      have := owns_other H.out.row HBW.out (by decide)
      rwa [ownBlock_slice] at this
    have hba4 := H.out.chg hc4 hbg (fun k hk => by rintro rfl; exact hag hk)
    have HM4 : Hid (MarkI w b p a cap L g ms w2.heap.size w4.heap.size pg0 w4) := ⟨hq5, hg4, hba4, hc4, Nat.le_refl _⟩
    have hq0 : w.heap.size ≤ w2.heap.size := HC3.out.size
    have hqlt := hq5.lt
    clear HB3 HC3 HB4 HF4 HS4 HB5 HC5 hq5 hc24 hc4 hg4 hba4
    generalize w2.heap.size = q at *
    refine (chunk_any _ _ _ _).mono ?_
    rintro e w5 ⟨rfl, h5⟩
    have hf5 : Fresh w4 w5 := by rw [h5]; exact ((Chg.refl _ w4).alloc _).alloc _
    have c1 : w5.cell? ⟨w4.heap.size, 0, none⟩ = some (.slice (some ⟨g, 0, none⟩) bs.length bs.length) := by
      rw [h5]; exact cell_alloc ((Blk.newA w4 23 _ rfl).cell 0) _
    have c2 : w5.cell? ⟨w4.heap.size + 1, 0, none⟩ = some (.int .i64 400) := by
      rw [h5]; exact (Blk.newA _ 3 _ (by simp)).cell 0
    have l1 : w4.heap.size < w5.heap.size := by rw [h5]; simp; omega
    have l2 : w4.heap.size + 1 < w5.heap.size := by rw [h5]; simp
    have HM5 : Hid (MarkI w b p a cap L g ms q w5.heap.size pg0 w5) := ⟨HM4.out.pg.chg hf5 id, HM4.out.bits.chg hf5 id, HM4.out.batch.fresh hf5, HM4.out.chg.trans hf5.fresh (fun _ _ h => h), Nat.le_refl _⟩
    have hgl := HM4.out.bits.lt
    clear h5 hf5 HM4
    generalize hB1 : w4.heap.size = B1 at *
    clear hB1
    have hsz5 : w.heap.size ≤ w5.heap.size := HM5.out.chg.size
    go_wp2_with fail
    have HPG1 : Hid (((addF pg0 ms).getD zpage).length = 512) := getD_length _ fun q hq => putF_length _ _ _ _ _ hq
    obtain ⟨pg1, hpg1⟩ : ∃ pg1, pg1 = (addF pg0 ms).getD zpage := ⟨_, rfl⟩
    rw [← hpg1] at HPG1
    have HPE := Lib.hid hpg1
    clear hpg1
    refine' (wpIn_wide (n := 3)).1 (wpIn_rangeFunc_ownF (α := Unit) (n := 3) rfl (by omega) (gf := 115) (lb := #[.pointer (some ⟨B1, 0, none⟩), .pointer (some ⟨B1 + 1, 0, none⟩)]) rfl trivial (enters_of Tryz.func115 (by kernel_rfl) rfl)
      (chunk_stops 2 (by omega) B1 (B1 + 1) g bs.length w5 (by omega) c1 c2 l1 l2) keepC_t (keepC_b l1 l2) (Below.refl _ _) (fun _ => rfl)
      (fun pre W => MarkI w b p a cap L g ms q w5.heap.size (if pre = [] then pg0 else pg1) W) (fun _ _ _ => False) (MarkI.own hsz5) (fun _ _ _ _ _ hs _ _ => hs) HM5.out _ ?assign ?body ?done ?stop)
    case assign =>
      intro l x W K hK
      gi_wp2
      exact hK
    case body =>
      rintro l pre x W hM hlen
      have hpre : pre = [] := List.eq_nil_of_length_eq_zero (by omega)
      subst hpre
      have HM : Hid (MarkI w b p a cap L g ms q w5.heap.size pg0 W) := hM
      clear hM hlen
      have HV : Hid (BytesS W (.slice (some ⟨g, 0, none⟩) bs.length bs.length) ms) := by
        exact HM.out.bits.bytesS _ HML.out.symm _
      gi_wp2_with (first
        | (refine wpListIn_loadA (fun _ => trivial) rfl 111 _ rfl q 0 rfl _ _ HM.out.pg 512 (bvals pg0) (take_all _ _ (by simp [HP0.out])) _ Tryz.underlying111 rfl infoPage (by simp [HP0.out]) ?_)
        | (refine ⟨trivial, ?_⟩
           gi_at_call 74
           refine (CallsIn.inRound l ((callsIn_wide (n := 0)).2 (add_any pg0 _ ms W HP0.out HV.out (by rw [HML.out]; omega)))).mono ?_
           intro e1 w6 h6
           obtain ⟨⟨i6, k6, rfl⟩, hf6⟩ := h6.tuple
           rw [← HPE.out]
           have HF6 := Lib.hid hf6
           clear h6 hf6)
        | (refine wpListIn_storeA (fun _ => trivial) rfl 111 _ _ rfl q 0 rfl (bvals pg1) rfl _ _ (HM.out.pg.chg HF6.out id) (infoPage' HPG1.out) (by simp [HPG1.out, HP0.out]) bvals_one ?_
           intro w7 HB7 HC7 HK7))
      have hb7 := HB7.out
      rw [over_all _ _ (by simp [HP0.out, HPG1.out])] at hb7
      have hqg : g ≠ q := by
        rintro rfl
        have := HM.out.pg
        rw [Blk, HM.out.bits] at this; simp at this
      have hbq : b ≠ q := by
        rintro rfl
        have := HM.out.pg
        rw [Blk, HM.out.batch.blk] at this; simp at this
      have haq : ¬ a.map (·.block) = some q := by
        have := owns_other HM.out.batch.row HM.out.pg (by decide)
        rwa [ownBlock_slice] at this
      have hbig := HM.out.big
      have hbig6 := HF6.out.size
      have hbig7 := HC7.out.size
      refine ⟨HF6.out.keeps.trans HK7.out, keepC_t (KeepC.chg HF6.out (by omega) (by omega) id id) (KeepC.chg HC7.out (by omega) (by omega) (by omega) (by omega)), ?_⟩
      show MarkI w b p a cap L g ms q w5.heap.size pg1 w7
      exact ⟨hb7, (HM.out.bits.chg HF6.out id).chg HC7.out hqg, (HM.out.batch.fresh HF6.out).chg HC7.out hbq (fun k hk => by rintro rfl; exact haq hk), (HM.out.chg.trans HF6.out.fresh (fun _ _ h => h)).trans HC7.out (fun k hk e => by omega), by omega⟩
    case done =>
      rintro D xs W hD rfl hM hK
      have HM : Hid (MarkI w b p a cap L g ms q w5.heap.size pg1 W) := hM
      have HK := Lib.hid hK
      clear hM hK
      go_wp2_with (refine wpList_loadA rfl 111 _ rfl q 0 rfl _ _ HM.out.pg 512 (bvals pg1) (take_all _ _ (by simp [HPG1.out])) _ Tryz.underlying111 rfl infoPage (by simp [HPG1.out]) ?_)
      refine (bwrite_any b p a cap L 0 pg1 W HM.out.batch HPG1.out hs).mono ?_
      rintro e w8 ⟨rfl, a8, cap8, hb8, hc8, ha8⟩
      have HB8 := Lib.hid hb8
      have HC8 := Lib.hid hc8
      have HA8 := Lib.hid ha8
      clear hb8 hc8 ha8
      go_wp2
      have hnc : ∀ r, some D = some r → ∃ o : Obj, w8.heap[r]? = some o ∧ o.isCells = false := by
        rintro r hr
        cases hr
        refine ⟨_, HC8.out.heap HK.out ?_, rfl⟩
        have hd : ∀ r, some D = some r → ∃ o : Obj, W.heap[r]? = some o ∧ o.isCells = false := by rintro r hr; cases hr; exact ⟨_, HK.out, rfl⟩
        rintro (rfl | h)
        · exact row_ne HM.out.batch.blk hd rfl
        · exact own_ne HM.out.batch.row hd (by rw [ownBlock_slice]; exact h) rfl
      have hK8 : w8.heap[D]? = some (.deferred (some [])) := by
        refine HC8.out.heap HK.out ?_
        have hd : ∀ r, some D = some r → ∃ o : Obj, W.heap[r]? = some o ∧ o.isCells = false := by rintro r hr; cases hr; exact ⟨_, HK.out, rfl⟩
        rintro (rfl | h)
        · exact row_ne HM.out.batch.blk hd rfl
        · exact own_ne HM.out.batch.row hd (by rw [ownBlock_slice]; exact h) rfl
      have hg8 := grownBy_putObj' w8 D (.deferred none)
      have hc8 := Chg.of_grown hg8
      refine ⟨by simp, .inl ⟨_, _, rfl, run_takeDeferred hK8, ?_⟩⟩
      refine ⟨_, results_none rfl _ _ _, rfl, a8, cap8, ?_, ?_, ?_⟩
      · have := HB8.out.chg hc8 (row_ne HB8.out.blk hnc) (fun k hk => own_ne HB8.out.row hnc (by rwa [ownBlock_slice]))
        rw [bitsPage, HMS.out, HPG0.out, ← HPE.out]
        exact this
      · exact ((HM.out.chg.mono (fun k _ h => .inl h)).trans HC8.out (fun k _ h => .inr h)).grown hg8 (fun k hk => .inr (by cases hk; omega))
      · intro k hk
        rcases HA8.out k hk with h | h
        · exact .inl h
        · exact .inr (by have := HM.out.chg.size; omega)
    case stop =>
      rintro D c pre W _ _ h _
      exact h.elim
end Go.Proofs.YtnmjkgnahhbnoaaGreat

/- Walks of package pool: which pages are taken; a page taken, given back. -/
namespace Go.Proofs.YtnmjkgnahhbnoaaGreat
open Go.RowKit
set_option linter.unusedSimpArgs false

theorem madeCells_byte (n : Nat) : madeCells (Value.int .u8 0).cells (n * 1) = (bvals (List.replicate n 0)).toArray := by
  apply Array.ext_getElem?
  intro k
  have e1 : (bvals (List.replicate n 0)).toArray[k]? = (bvals (List.replicate n 0))[k]? := by simp
  rw [e1, bvals_get, List.getElem?_replicate]
  by_cases hk : k < n
  · simp [madeCells, hk, Value.cells, Nat.mod_one]
  · simp [madeCells, hk]

theorem wpList_makeB {ops : Array Oper} {rest : List Oper} {o : Oper} {a : Act} {w : World} {Q : Exit → Act → World → Prop} (hgd : o.guard = none) (l c : Operand) (ho : o.op = .makeSlice 23 l c) (n : Nat) (hl : a.eval l = .int .i64 n) (hc : a.eval c = .int .i64 n) (hn : n ≤ 100000)
    (h : ∀ w', Hid (Blk w' w.heap.size 5 (bvals (List.replicate n 0))) → Hid (Fresh w w') → wpList Tryz.prog ops Q rest (a.put o.dst (.slice (some ⟨w.heap.size, 0, none⟩) n n)) w') : wpList Tryz.prog ops Q (o :: rest) a w :=
  wpList_plain hgd fun K hK => by
    obtain ⟨i0, hi, hz0, hz1, hz2⟩ := info_parts infoByte
    have hr := run_makeSlice (P := Tryz.prog) w 23 5 i0 _ Tryz.underlying23 hi hz0 .i64 .i64 n n (by omega) (by omega) (by rw [hz1]; omega) (by rw [hz2]; omega) (by omega)
    rw [hz1] at hr
    simp only [Int.toNat_natCast] at hr
    rw [madeCells_byte] at hr
    unfold Oper.wp execOp
    simp only [ho, hl, hc, Sem.run_bind, hr, Result.andThen_ok, Sem.run_pure]
    exact hK _ _ (h _ (Blk.new _ _ _) ((Chg.refl _ w).alloc _))

theorem own_slB {w : World} {base g n cap : Nat} {l : List UInt8} (h : w.ownsRow base 5 1 (.slice (some ⟨g, 0, none⟩) n cap) n (bvals l)) : SlB w (.slice (some ⟨g, 0, none⟩) n cap) g l := by
  obtain ⟨hl, h1⟩ := h
  have hn : n = l.length := by simpa using hl.symm
  subst hn
  rcases h1 with ⟨e, _⟩ | ⟨g', cap', cur, e, _, hg, _, _, _, ht⟩
  · cases e
  · simp only [Value.slice.injEq, Option.some.injEq, Addr.mk.injEq, and_true, true_and] at e
    obtain ⟨rfl, rfl⟩ := e
    refine ⟨0, cap, cur, rfl, hg, fun j c hj => ?_⟩
    have hlt : j < l.length := (List.getElem?_eq_some_iff.1 hj).1
    have h2 := congrArg (fun x => x[j]?) ht
    simp only [List.getElem?_take, Nat.mul_one, hlt, if_true, bvals_get, hj, Option.map_some] at h2
    rw [Nat.zero_add, ← h2]; simp
theorem SlB.cells {w : World} {b o n cap b' : Nat} {l : List UInt8} (h : SlB w (.slice (some ⟨b, o, none⟩) n cap) b' l) : ∀ j u, (bvals l)[j]? = some u → w.cell? ((⟨b, o, none⟩ : Addr).add j) = some u := by
  obtain ⟨_, _, hb⟩ := h.bytes
  intro j u hj
  rw [bvals_get] at hj
  obtain ⟨c, hc, rfl⟩ := Option.map_eq_some_iff.1 hj
  rw [Addr.add_mid]
  exact hb j c hc

/-- The bits, from what the first page has. -/
def takenF (hv : List UInt8) (n : Nat) : List UInt8 :=
  (over (List.replicate n 0) 0 (hv.take n)).set 0 (orB ((over (List.replicate n 0) 0 (hv.take n)).getD 0 0) 0)
theorem takenF_length (hv : List UInt8) (n : Nat) : (takenF hv n).length = n := by
  rw [takenF, List.length_set, over_length]
  · simp
  · simp; omega
/-- What the first page may be: none yet, or one record of bits. -/
def BitsPg (pg hv : List UInt8) : Prop := pg.length = 512 ∧ ((slotsF pg = [] ∧ hv = []) ∨ (slotsF pg = [some hv] ∧ 1 ≤ hv.length ∧ hv.length ≤ 400))

/-- How a page of a batch is read: whatever comes of it, the world keeps `RD`. -/
structure ReadsTo (RD : World → Prop) (w : World) (b p d size : Nat) (pg : List UInt8) : Prop where
  calls : Calls Tryz.prog 84 #[.pointer (some ⟨b, 0, none⟩), .int .i64 0] w fun e w' => e = .returned (.tuple #[aggB pg, .int .i64 0]) ∧ RD w'
  fresh : ∀ w1 w2, RD w1 → Fresh w1 w2 → RD w2
  pool : ∀ w1, RD w1 → w1.cell? ⟨b, 0, none⟩ = some (.pointer (some ⟨p, 0, none⟩)) ∧ PoolSz w1 p d size
  size : ∀ w1, RD w1 → w.heap.size ≤ w1.heap.size

set_option maxRecDepth 100000 in
set_option maxHeartbeats 1000000 in
theorem taken_any (RD : World → Prop) (b p d size : Nat) (pg hv : List UInt8) (w : World) (h : ReadsTo RD w b p d size pg) (hp : BitsPg pg hv) (h8 : 8 ≤ size) :
    Calls Tryz.prog 48 #[.pointer (some ⟨b, 0, none⟩)] w fun e w' => ∃ g, e = .returned (.tuple #[.slice (some ⟨g, 0, none⟩) ((size / 8 + 7) / 8) ((size / 8 + 7) / 8), .int .i64 0]) ∧ RD w' ∧ Blk w' g 5 (bvals (takenF hv ((size / 8 + 7) / 8))) ∧ w.heap.size ≤ g := by
  have HPL : Hid (pg.length = 512) := hp.1
  have HPG := Lib.hid hp
  have HFR := Lib.hid h.fresh
  have HPO := Lib.hid h.pool
  have HSI := Lib.hid h.size
  go_enter Tryz.func48, Tryz.ntmps48
  go_wp2_with fail
  refine h.calls.mono ?_
  rintro e w1 ⟨rfl, hr1⟩
  have HR1 := Lib.hid hr1
  clear hr1 h hp
  go_wp2_with (first
    | (refine wpList_allocA rfl 111 rfl (bvals zpage) Tryz.zeroValue111 ?_
       intro w2 HB2 HF2 HS2)
    | (refine wpList_storeA rfl 111 _ _ rfl w1.heap.size 0 rfl (bvals pg) rfl _ _ HB2.out (infoPage' HPL.out) (by simp [HPL.out]) bvals_one ?_
       intro w3 HB3 HC3
       have HR3 := Lib.hid (HFR.out _ _ HR1.out (HF2.out.trans HC3.out (fun k hk e => by omega)))
       have c0 := (HPO.out _ HR3.out).1))
  have hps := (HPO.out _ HR3.out).2
  have hsm := hps.small
  refine (pages_any p d size _ hps).mono ?_
  rintro e w4 ⟨rfl, rfl⟩
  have hb3 := HB3.out
  rw [over_all _ _ (by simp [HPL.out])] at hb3
  have HB4 := Lib.hid hb3
  have hsz3 := HSI.out _ HR1.out
  have HLT := Lib.hid HB4.out.lt
  clear hb3 HB3 HC3 HB2 HF2 c0 hps
  have hN : size / 8 ≤ 3840 := by omega
  have hN1 : 1 ≤ size / 8 := by omega
  clear h8
  generalize hN0 : size / 8 = N at *
  have HN0 := Lib.hid hN0
  clear hN0
  have hns : nslots pg = (slotsF pg).length := by simp
  have hns2 : nslots pg ≤ 1 := by
    rw [hns]; rcases HPG.out.2 with ⟨h, _⟩ | ⟨h, _⟩ <;> simp [h]
  generalize w1.heap.size = q at *
  have hwr : IntKind.i64.wrap ((N : Int) + 7) = (N : Int) + 7 := IntWalk.i64_in _ (by omega)
  have hwr2 : IntKind.i64.wrap (((N : Int) + 7) / 8) = ((N : Int) + 7) / 8 := IntWalk.i64_in _ (by omega)
  have hwr3 : ((N : Int) + 7).tdiv 8 = ((N : Int) + 7) / 8 := by rw [Int.tdiv_eq_ediv_of_nonneg (by omega)]
  go_wp2_with (first
    | (refine wpList_makeB rfl _ _ rfl ((N + 7) / 8) (congrArg (Value.int .i64) (by omega)) (congrArg (Value.int .i64) (by omega)) (by omega) ?_
       intro w5 HM5 HF5
       have HB5 := Lib.hid (HB4.out.chg HF5.out id))
    | (refine wpList_loadA rfl 111 _ rfl q 0 rfl _ _ HB5.out 512 (bvals pg) (take_all _ _ (by simp [HPL.out])) _ Tryz.underlying111 rfl infoPage (by simp [HPL.out]) ?_))
  refine (slotsN_any pg _ HPL.out).mono ?_
  rintro e w6 ⟨rfl, hf6⟩
  have HF6 : Hid (Fresh w3 w6) := HF5.out.trans hf6 (fun _ _ f => f)
  have HB6 := Lib.hid (HB5.out.chg hf6 id)
  have HM6 := Lib.hid (HM5.out.chg hf6 id)
  have HL6 : Hid (q < w3.heap.size ∧ w3.heap.size < w6.heap.size) := ⟨HLT.out, by have := HM5.out.lt; have := hf6.size; omega⟩
  clear hf6 HB4 HR1 HM5 HF5 HB5 hwr hwr2 hwr3 HLT
  generalize hmb : w3.heap.size = mb at *
  have HMB := Lib.hid hmb
  clear hmb
  dsimp only
  go_upto_block 0 with (fail)
  go_cut [7] from 27 to 41 (fun hv' wx => BytesS wx hv' hv ∧ Hid (Fresh w3 wx) ∧ Hid (Blk wx mb 5 (bvals (List.replicate ((N + 7) / 8) 0))))
  case first =>
    rcases HPG.out.2 with ⟨hs0, h0⟩ | ⟨hs1, h400⟩
    · have hn0 : nslots pg = 0 := by rw [hns, hs0]; rfl
      rw [hn0]
      go_wp2_with fail
      refine wp_loop_rounds 1 ?_
      rw [rounds_succ]
      go_wp2
      go_meet
      exact ⟨.inl ⟨rfl, h0⟩, HF6, HM6⟩
    · have hn1 : nslots pg = 1 := by rw [hns, hs1]; rfl
      have hg0 : getF pg 0 = some hv := by rw [getF, hs1]; rfl
      rw [hn1]
      have h4 := h400
      go_wp2_with fail
      refine wp_loop_rounds 2 ?_
      rw [rounds_succ]
      go_wp2_with (refine wpList_loadA rfl 111 _ rfl q 0 rfl _ _ HB6.out 512 (bvals pg) (take_all _ _ (by simp [HPL.out])) _ Tryz.underlying111 rfl infoPage (by simp [HPL.out]) ?_)
      refine (get_any pg 0 _ HPL.out (by omega)).mono ?_
      rintro e w7 ⟨v7, rfl, hr7, hf7⟩
      rw [hg0] at hr7 ⊢
      obtain ⟨bb, hsl⟩ := hr7
      have hsl' := hsl
      obtain ⟨o7, cap7, cur7, rfl, _⟩ := hsl'
      have HSL := Lib.hid hsl
      have HF7 : Hid (Fresh w3 w7) := HF6.out.trans hf7 (fun _ _ f => f)
      have HM7 := Lib.hid (HM6.out.chg hf7 id)
      clear hsl hf7
      have HLE : Hid (1 ≤ hv.length ∧ hv.length ≤ 400) := h400
      go_wp2_with (at_builtin; go_must (refine wpList_app rfl _ _ 23 rfl 5 (.int .u8 0) 1 1 Tryz.underlying23 infoByte rfl (by decide) 0 (.slice none 0 0) 0 [] rfl (World.ownsRow_nil _ _ _ _) ⟨bb, o7, none⟩ hv.length cap7 (bvals hv) rfl (by simp) HSL.out.cells bvals_one (by have := HLE.out; unfold maxLen; omega) (by have := HLE.out; omega) (Nat.zero_le _) (.inr HLE.out.1) ?_); intro g' cap' w' HO2 HC2 HG2)
      rw [rounds_succ]
      go_wp2
      go_meet
      have hc8 : Fresh w7 w' := HC2.out.mono (fun k _ h => by cases h)
      have ho8 := HO2.out
      simp only [List.nil_append, Nat.zero_add] at ho8 ⊢
      exact ⟨.inr ⟨g', own_slB ho8⟩, HF7.out.trans hc8 (fun _ _ f => f), HM7.out.chg hc8 id⟩
  case rest =>
    obtain ⟨HV, HF7, HM7⟩ := hcut
    have hn8 : 1 ≤ (N + 7) / 8 := by omega
    generalize hn80 : (N + 7) / 8 = n8 at *
    have HVS : Hid (∃ sp sLen sCap, u7 = .slice sp sLen sCap ∧ sLen = hv.length ∧ (0 < hv.length → ∃ ad, sp = some ad ∧ ∀ (j : Nat) (v : Value), (bvals hv)[j]? = some v → wc.cell? (ad.add j) = some v)) := by
      rcases HV with ⟨rfl, rfl⟩ | ⟨bb, hsl⟩
      · exact ⟨none, 0, 0, rfl, rfl, fun h => by simp at h⟩
      · have hsl' := hsl
        obtain ⟨o7, cap7, cur7, rfl, _⟩ := hsl'
        exact ⟨_, _, _, rfl, rfl, fun _ => ⟨_, rfl, hsl.cells⟩⟩
    obtain ⟨sp, sLen, sCap, rfl, hsl, hcs⟩ := HVS.out
    have HCS := Lib.hid hcs
    have HSL := Lib.hid hsl
    clear hcs hsl HVS HV
    have hpos : 0 < (hv.take n8).length → ∃ ad, sp = some ad ∧ ∀ (j : Nat) (v : Value), (bvals (hv.take n8))[j]? = some v → wc.cell? (ad.add j) = some v := fun hp => by
      have hpos : 0 < hv.length := by rw [List.length_take] at hp; omega
      obtain ⟨ad, rfl, hc⟩ := HCS.out hpos
      refine ⟨ad, rfl, fun j v hj => hc j v ?_⟩
      rw [bvals_get, List.getElem?_take] at hj
      split at hj
      · rw [bvals_get]; exact hj
      · cases hj
    have HPOS := Lib.hid hpos
    have htl : (hv.take n8).length = min sLen n8 := by rw [List.length_take, HSL.out]; omega
    have HTL := Lib.hid htl
    have HLEN : Hid (0 + (hv.take n8).length ≤ (bvals (List.replicate n8 0)).length) := by show _ ≤ _; simp; omega
    clear hpos htl
    have HTK : Hid (takenF hv n8 = (over (List.replicate n8 0) 0 (hv.take n8)).set 0 (orB ((over (List.replicate n8 0) 0 (hv.take n8)).getD 0 0) 0)) := rfl
    have HOL : Hid ((over (List.replicate n8 (0 : UInt8)) 0 (hv.take n8)).length = n8) := by
      show _ = _
      rw [over_length _ _ _ (by simp; omega)]; simp
    go_wp2_with (
                 with_reducible refine wpList_copyB rfl _ _ rfl mb 0 5 _ HM7.out (hv.take n8) (some ⟨mb, 0, none⟩) sp n8 n8 sLen sCap rfl rfl HTL.out (fun hp => ⟨rfl, HPOS.out hp⟩) HLEN.out ?_
                 intro w8 HB8 HC8
                 have hb8 := HB8.out
                 rw [bvals_over] at hb8
                 generalize over (List.replicate n8 (0 : UInt8)) 0 (hv.take n8) = ob at *
                 have hob : (0 : Nat) < ob.length := by rw [HOL.out]; omega
                 have hx : ob.getD 0 0 = ob[0] := by rw [List.getD_eq_getElem?_getD, List.getElem?_eq_getElem hob]; rfl
                 rw [hx] at HTK
                 have c0 : w8.cell? ⟨mb, 0, none⟩ = some (B ob[0]) := by rw [hb8.cell, bvals_get, List.getElem?_eq_getElem hob]; rfl
                 have z0 := hb8.frozen 0
                 have HB9 := Lib.hid hb8
                 clear hb8 hx
                 generalize ob[0] = x at *
                 have hor := (bits_one x 0 (by omega)).2.1
                 simp only [Nat.pow_zero, Nat.reduceMod, Int.pow_zero, Int.reduceMod] at hor
                 have hi8 : (0 : Int) < n8 := by omega)
    go_ret2
    have hset := Chg.put1 w8 mb 0 (B (orB x 0))
    have hfin : Fresh w3 (w8.setCell ⟨mb, 0, none⟩ (B (orB x 0))) := HF7.out.trans (HC8.out.trans hset (fun _ _ h => h)) (fun k hk e => by have := HMB.out; omega)
    have hb10 := HB9.out.set 0 (B (orB x 0))
    rw [bvals_set, ← HTK.out] at hb10
    refine ⟨mb, ?_, HFR.out _ _ HR3.out hfin, ?_, ?_⟩
    · rw [HN0.out, hn80]; rfl
    · rw [HN0.out, hn80]; exact hb10
    · have := HL6.out; omega
end Go.Proofs.YtnmjkgnahhbnoaaGreat

/- Walks of package pool: a page taken, a page given back. -/
namespace Go.Proofs.YtnmjkgnahhbnoaaGreat
open Go.RowKit
set_option linter.unusedSimpArgs false

theorem bitAt_taken (hv : List UInt8) (n8 k : Nat) (h8 : 1 ≤ n8) (hl : hv = [] ∨ hv.length = n8) : bitAt (takenF hv n8) k = ((k == 0) || bitAt hv k) := by
  have hov : over (List.replicate n8 (0 : UInt8)) 0 (hv.take n8) = if hv = [] then List.replicate n8 0 else hv := by
    rcases hl with rfl | h
    · simp [over]
    · have hne : hv ≠ [] := by rintro rfl; simp at h; omega
      rw [if_neg hne, List.take_of_length_le (by omega)]
      exact over_all _ _ (by simp [h])
  have hb0 : ∀ k, bitAt (over (List.replicate n8 (0 : UInt8)) 0 (hv.take n8)) k = bitAt hv k := fun k => by
    rw [hov]
    split
    · rename_i h
      subst h
      unfold bitAt
      rw [List.getD_eq_getElem?_getD, List.getElem?_replicate]
      split <;> simp
    · rfl
  have hl2 : (over (List.replicate n8 (0 : UInt8)) 0 (hv.take n8)).length = n8 := by
    rw [over_length _ _ _ (by simp; omega)]; simp
  rw [← hb0 k, takenF]
  generalize over (List.replicate n8 (0 : UInt8)) 0 (hv.take n8) = ob at *
  unfold bitAt
  have hm : k % 8 < 8 := Nat.mod_lt _ (by omega)
  obtain ⟨_, _, _, hb⟩ := bits_one (ob.getD 0 0) 0 (by omega)
  by_cases hk : 0 = k / 8
  · rw [List.getD_eq_getElem?_getD, List.getElem?_set, if_pos hk, if_pos (by omega), Option.getD_some, (hb _ hm).2, ← hk, Bool.or_comm]
    congr 1
    rw [Bool.eq_iff_iff]; simp; omega
  · rw [List.getD_eq_getElem?_getD, List.getElem?_set, if_neg hk, ← List.getD_eq_getElem?_getD]
    have : (k == 0) = false := by rw [beq_eq_false_iff_ne]; rintro rfl; exact hk rfl
    rw [this, Bool.false_or]

/-- A batch and its pool's size. -/
structure BI (w : World) (b p d size : Nat) (a : Option Addr) (cap : Nat) (L : List (Nat × List UInt8)) : Prop where
  batch : BatchAt w b p a cap L
  pool : PoolSz w p d size
  bp : b ≠ p
  bd : b ≠ d
  ap : ¬ a.map (·.block) = some p
  ad : ¬ a.map (·.block) = some d
theorem BI.fresh {w w1 : World} {b p d size : Nat} {a : Option Addr} {cap : Nat} {L : List (Nat × List UInt8)} (h : BI w b p d size a cap L) (hc : Fresh w w1) : BI w1 b p d size a cap L :=
  ⟨h.batch.fresh hc, h.pool.fresh hc, h.bp, h.bd, h.ap, h.ad⟩

/-- What a call of a batch leaves. -/
def BTo (w : World) (b p d size : Nat) (a : Option Addr) (FP : Nat → Prop) (L' : List (Nat × List UInt8)) (w' : World) : Prop :=
  ∃ a' cap', BI w' b p d size a' cap' L' ∧ Chg (fun k => FP k ∨ k = b ∨ a.map (·.block) = some k) w w' ∧ (∀ k, a'.map (·.block) = some k → a.map (·.block) = some k ∨ w.heap.size ≤ k)

theorem BI.wrote {w w' : World} {b p d size : Nat} {a : Option Addr} {cap : Nat} {L : List (Nat × List UInt8)} {n : Nat} {pg : List UInt8} {e : Ending} (h : BI w b p d size a cap L) (hw : BWrites w b p cap a L n pg e w') : e = .returned (.tuple #[]) ∧ BTo w b p d size a (fun _ => False) (imgPut n pg L) w' := by
  obtain ⟨he, a', cap', hb, hc, ha⟩ := hw
  have hpl := cell_lt h.pool.data
  have hdl := cell_lt h.pool.sz
  simp only at hpl hdl
  refine ⟨he, a', cap', ⟨hb, h.pool.chg hc ?_ ?_, h.bp, h.bd, ?_, ?_⟩, hc.mono (fun k _ hk => .inr hk), ha⟩
  · rintro (e | e)
    · exact h.bp e.symm
    · exact h.ap e
  · rintro (e | e)
    · exact h.bd e.symm
    · exact h.ad e
  · intro e
    rcases ha p e with e | e
    · exact h.ap e
    · omega
  · intro e
    rcases ha d e with e | e
    · exact h.ad e
    · omega

theorem imgPut_len2 {n : Nat} {pg : List UInt8} {L : List (Nat × List UInt8)} {m : Nat} (h : L.length ≤ m) : (imgPut n pg L).length ≤ m + 1 := by have := imgPut_len n pg L; omega

set_option maxRecDepth 100000 in
set_option maxHeartbeats 1000000 in
theorem alloc_any (RD : World → Prop) (FP : Nat → Prop) (b p d size : Nat) (a : Option Addr) (cap : Nat) (L : List (Nat × List UInt8)) (pg hv : List UInt8) (kind : Int) (w : World) (n0 : Nat) (h : ReadsTo RD w b p d size pg) (hp : BitsPg pg hv) (h8 : 8 ≤ size)
    (hRD : ∀ w1, RD w1 → BI w1 b p d size a cap L ∧ Chg FP w w1) (hL : L.length ≤ 80000) (h3200 : size / 8 ≤ 3200) (hkd : 0 ≤ kind ∧ kind < 256)
    (hn : n0 < size / 8) (hfree : bitAt (takenF hv ((size / 8 + 7) / 8)) n0 = false) (hlow : ∀ k, k < n0 → bitAt (takenF hv ((size / 8 + 7) / 8)) k = true) :
    Calls Tryz.prog 19 #[.pointer (some ⟨b, 0, none⟩), .int .i64 kind] w fun e w' => e = .returned (.tuple #[.int .i64 n0, .int .i64 0]) ∧
      BTo w b p d size a FP (imgPut n0 (madeF (lowB kind) []) (imgPut 0 (bitsPage (markF (takenF hv ((size / 8 + 7) / 8)) n0 true)) L)) w' := by
  have HRD := Lib.hid hRD
  have HFREE := Lib.hid hfree
  have HLOW := Lib.hid hlow
  have HH := Lib.hid h
  clear hRD hfree hlow h
  go_enter Tryz.func19, Tryz.ntmps19
  go_wp2_with fail
  refine (taken_any RD b p d size pg hv w HH.out hp h8).mono ?_
  rintro e w1 ⟨g, rfl, hr1, hb1, hg1⟩
  obtain ⟨hbi, hch⟩ := HRD.out _ hr1
  have HBI := Lib.hid hbi
  have HCH := Lib.hid hch
  have HB1 := Lib.hid hb1
  have HTL : Hid ((takenF hv ((size / 8 + 7) / 8)).length = (size / 8 + 7) / 8) := takenF_length _ _
  have c0 : w1.cell? ⟨b, 0, none⟩ = some (.pointer (some ⟨p, 0, none⟩)) := by rw [hbi.batch.blk.cell]; rfl
  clear hr1 hb1 hbi hch
  generalize hts0 : takenF hv ((size / 8 + 7) / 8) = ts at *
  have HTS := Lib.hid hts0
  clear hts0
  go_wp2_with fail
  refine (pages_any p d size _ HBI.out.pool).mono ?_
  rintro e w2 ⟨rfl, rfl⟩
  go_wp2_with fail
  have hts : ts.length = (size / 8 + 7) / 8 := HTL.out
  go_loop [24] (fun i => ∃ k : Nat, k ≤ n0 ∧ i = .int .i64 k) (fun i => n0 - (intOf i).toNat)
  case atStart => exact ⟨0, by omega, rfl⟩
  case round =>
    obtain ⟨k, hk, rfl⟩ := hrel
    have hkn : k < size / 8 := by omega
    have hkn2 : (k : Int) < (size : Int) / 8 := by omega
    have hn8 : k / 8 < ts.length := by omega
    have hni : ((k : Int) / 8) < ((size / 8 + 7) / 8 : Nat) := by omega
    have hni' : ((k : Int) / 8) < ((size : Int) / 8 + 7) / 8 := by omega
    have hni0 : (0 : Int) ≤ (k : Int) / 8 := by omega
    have hnt : ((k : Int) / 8).toNat = k / 8 := by omega
    have hw : IntKind.i64.wrap ((k : Int) / 8) = (k : Int) / 8 := IntWalk.i64_in _ (by omega)
    have htm : (k : Int).tmod 8 = ((k % 8 : Nat) : Int) := by rw [Int.tmod_eq_emod_of_nonneg (by omega)]; omega
    have hm8 : k % 8 < 8 := Nat.mod_lt _ (by omega)
    have hc : w1.cell? ⟨g, k / 8, none⟩ = some (B ts[k / 8]) := by rw [HB1.out.cell, bvals_get, List.getElem?_eq_getElem hn8]; rfl
    have hx : ts.getD (k / 8) 0 = ts[k / 8] := by rw [List.getD_eq_getElem?_getD, List.getElem?_eq_getElem hn8]; rfl
    have hba : bitAt ts k = (ts[k / 8]).toNat.testBit (k % 8) := by rw [bitAt, hx]
    have hb3 := (bits_one ts[k / 8] (k % 8) hm8).2.2.1
    rw [← hba] at hb3
    clear hx hba
    generalize ts[k / 8] = x at *
    generalize k % 8 = m at *
    by_cases hlt : k < n0
    · have hbk := HLOW.out k hlt
      rw [hbk] at hb3
      simp only [Bool.not_true] at hb3
      clear hbk
      go_wp2
      exact ⟨⟨k + 1, by omega, by go_num⟩, by simp [intOf]; omega⟩
    · obtain rfl : k = n0 := by omega
      rw [HFREE.out] at hb3
      simp only [Bool.not_false] at hb3
      go_wp2_with fail
      rw [← hts]
      clear hb3 hc htm hw hnt hni0 hni' hni
      refine (mark_any b p a cap L k true g ts w1 HBI.out.batch (by omega) HB1.out ⟨by omega, by omega⟩ (by omega)).mono ?_
      rintro e w2 ⟨rfl, a2, cap2, hb2, hc2, ha2⟩
      have hgp : g ≠ p := by
        rintro rfl
        have h1 := HB1.out.cell 0
        rw [HBI.out.pool.data, bvals_get, List.getElem?_eq_getElem (by omega)] at h1
        cases h1
      have hgd : g ≠ d := by
        rintro rfl
        have h1 := HB1.out.cell 0
        rw [HBI.out.pool.sz, bvals_get, List.getElem?_eq_getElem (by omega)] at h1
        cases h1
      have hp2 : PoolSz w2 p d size := HBI.out.pool.chg hc2 (by rintro (h | h | h); exact hgp h.symm; exact HBI.out.bp h.symm; exact HBI.out.ap h) (by rintro (h | h | h); exact hgd h.symm; exact HBI.out.bd h.symm; exact HBI.out.ad h)
      have hpl := hp2.data
      have hpl1 := cell_lt HBI.out.pool.data
      have hdl1 := cell_lt HBI.out.pool.sz
      have hbi2 : BI w2 b p d size a2 cap2 (imgPut 0 (bitsPage (markF ts k true)) L) := ⟨hb2, hp2, HBI.out.bp, HBI.out.bd, fun h => by rcases ha2 p h with h | h; exact HBI.out.ap h; simp at hpl1; omega, fun h => by rcases ha2 d h with h | h; exact HBI.out.ad h; simp at hdl1; omega⟩
      have hch2 : Chg (fun q => FP q ∨ q = b ∨ a.map (·.block) = some q) w w2 := (HCH.out.mono (fun q _ h => .inl h)).trans hc2 (fun q hq h => by
        rcases h with rfl | h | h
        · omega
        · exact .inr (.inl h)
        · exact .inr (.inr h))
      have hw12 : w.heap.size ≤ w1.heap.size := HCH.out.size
      have HBI2 := Lib.hid hbi2
      have HCH2 := Lib.hid hch2
      have HA2 : Hid (∀ q, a2.map (·.block) = some q → a.map (·.block) = some q ∨ w.heap.size ≤ q) := fun q hq => by
        rcases ha2 q hq with h | h
        · exact .inl h
        · exact .inr (by omega)
      clear hb2 hc2 ha2 hp2 hpl hbi2 hch2 HBI HB1 hgp hgd
      have HL1 : Hid ((imgPut 0 (bitsPage (markF ts k true)) L).length ≤ 80001) := imgPut_len2 hL
      generalize hl1 : imgPut 0 (bitsPage (markF ts k true)) L = L1 at *
      have HLE := Lib.hid hl1
      clear hl1
      go_wp2_with fail
      refine (new_any kind _ hkd.1 hkd.2).mono ?_
      rintro e w3 ⟨rfl, hf3⟩
      have HBI3 := Lib.hid (HBI2.out.fresh hf3)
      have HCH3 := Lib.hid (HCH2.out.trans hf3.fresh (fun _ _ h => h))
      have hsz3 := HCH3.out.size
      have HPK : Hid ((madeF (lowB kind) []).length = 512) := madeF_length _ _ (by simp [endF])
      clear hf3 HBI2 HCH2
      generalize hpk : madeF (lowB kind) [] = pk at *
      have HPE := Lib.hid hpk
      clear hpk
      go_wp2_with fail
      refine (bwrite_any b p a2 cap2 L1 k pk w3 HBI3.out.batch HPK.out (by have := HL1.out; omega)).mono ?_
      intro e w4 h4
      obtain ⟨rfl, a4, cap4, hb4, hc4, ha4⟩ := HBI3.out.wrote h4
      have HB4 := Lib.hid hb4
      have HC4 := Lib.hid hc4
      have HA4 := Lib.hid ha4
      clear h4 hb4 hc4 ha4
      go_wp2
      go_ret2
      rw [HTS.out, HLE.out, HPE.out]
      refine ⟨rfl, a4, cap4, HB4.out, HCH3.out.trans HC4.out (fun q hq h => ?_), fun q hq => ?_⟩
      · rcases h with h | h | h
        · exact h.elim
        · exact .inr (.inl h)
        · rcases HA2.out q h with h | h
          · exact .inr (.inr h)
          · omega
      · rcases HA4.out q hq with h | h
        · exact HA2.out q h
        · exact .inr (by omega)

set_option maxRecDepth 100000 in
set_option maxHeartbeats 1000000 in
theorem bWrite_any (b p d size : Nat) (a : Option Addr) (cap : Nat) (L : List (Nat × List UInt8)) (n : Nat) (pg : List UInt8) (w : World) (h : BI w b p d size a cap L) (hp : pg.length = 512) (hL : L.length ≤ 80000) (hn : 1 ≤ n ∧ n < size / 8) :
    Calls Tryz.prog 76 #[.pointer (some ⟨b, 0, none⟩), .int .i64 n, aggB pg] w fun e w' => e = .returned (.int .i64 0) ∧ BTo w b p d size a (fun _ => False) (imgPut n pg L) w' := by
  have H := Lib.hid h
  have HP := Lib.hid hp
  clear h hp
  have hn0 : (1 : Int) ≤ n := by omega
  have hn1 : (n : Int) < ((size / 8 : Nat) : Int) := by omega
  have hn2 : (n : Int) < (size : Int) / 8 := by omega
  go_enter Tryz.func76, Tryz.ntmps76
  go_wp2_with (
    refine wpList_boxA rfl 111 _ rfl (bvals pg) rfl ?_
    intro w1 HB1 HF1 HS1
    have H1 := Lib.hid (H.out.fresh HF1.out)
    have c0 : w1.cell? ⟨b, 0, none⟩ = some (.pointer (some ⟨p, 0, none⟩)) := by rw [H1.out.batch.blk.cell]; rfl)
  refine (pages_any p d size _ H1.out.pool).mono ?_
  rintro e w2 ⟨rfl, rfl⟩
  go_wp2_with (refine wpList_loadA rfl 111 _ rfl w.heap.size 0 rfl _ _ HB1.out 512 (bvals pg) (take_all _ _ (by simp [HP.out])) _ Tryz.underlying111 rfl infoPage (by simp [HP.out]) ?_)
  refine (bwrite_any b p a cap L n pg w1 H1.out.batch HP.out (by omega)).mono ?_
  intro e w4 h4
  obtain ⟨rfl, a4, cap4, hb4, hc4, ha4⟩ := H1.out.wrote h4
  have HB4 := Lib.hid hb4
  have HC4 := Lib.hid hc4
  have HA4 := Lib.hid ha4
  have hsz := HF1.out.size
  clear h4 hb4 hc4 ha4
  go_wp2
  go_ret
  exact ⟨rfl, a4, cap4, HB4.out, HF1.out.fresh.trans HC4.out (fun q _ h => h), fun q hq => by
    rcases HA4.out q hq with h | h
    · exact .inl h
    · exact .inr (by omega)⟩
end Go.Proofs.YtnmjkgnahhbnoaaGreat
