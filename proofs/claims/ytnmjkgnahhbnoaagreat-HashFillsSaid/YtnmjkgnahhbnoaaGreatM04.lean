/- Part 4 of the walks that the laws of package hash share (Page4, Page5, Page6). -/
import Derived.Test.YtnmjkgnahhbnoaaGreatM03
import Derived.RegionCalls
import Derived.Deep.RegionHeld3
set_option linter.unusedVariables false
set_option linter.unusedSimpArgs false
/- Walks of package page: New, cost, free, Slots, Kind; rows of records. -/
namespace Go.Proofs.YtnmjkgnahhbnoaaGreat
open Go.RowKit

/-- A slice of records, of the call's own. -/
def RowsV (w : World) (base : Nat) (a : Option Addr) (n cap : Nat) (rs : List (Option (List UInt8))) : Prop :=
  n = rs.length ∧ ∃ vs, w.ownsRow base 23 1 (.slice a n cap) n vs ∧ RecsV w vs rs

namespace RowsV
variable {w w1 : World} {base : Nat} {a : Option Addr} {n cap : Nat} {rs : List (Option (List UInt8))} {F : Nat → Prop}
theorem fresh (h : RowsV w base a n cap rs) (hc : Fresh w w1) : RowsV w1 base a n cap rs := by
  obtain ⟨hn, vs, ho, hr⟩ := h
  exact ⟨hn, vs, hc.owns ho (fun _ _ f => f), hr.fresh hc⟩
theorem base_le (h : RowsV w base a n cap rs) {b : Nat} (hb : b ≤ base) : RowsV w b a n cap rs := by
  obtain ⟨hn, vs, ho, hr⟩ := h
  exact ⟨hn, vs, owns_base ho hb, hr⟩
theorem at_ (h : RowsV w base a n cap rs) {k : Nat} {r : Option (List UInt8)} (hk : rs[k]? = some r) :
    ∃ g v, a = some ⟨g, 0, none⟩ ∧ w.cell? ⟨g, k, none⟩ = some v ∧ w.frozen? ⟨g, k, none⟩ = false ∧ RecV w v r ∧ base ≤ g ∧ k < n := by
  obtain ⟨hn, vs, ho, hr⟩ := h
  have hkn : k < n := by rw [hn]; exact (List.getElem?_eq_some_iff.1 hk).1
  have hkv : k < vs.length := by rw [hr.1, ← hn]; exact hkn
  rcases ho.2 with ⟨_, h0⟩ | ⟨g, cap', cur, hv, hb, _⟩
  · omega
  · simp only [Value.slice.injEq] at hv
    obtain ⟨rfl, _, rfl⟩ := hv
    refine ⟨g, vs[k], rfl, ?_, ho.frozenAt k, hr.2 k _ r (List.getElem?_eq_getElem hkv) hk, hb, hkn⟩
    rw [ho.cellAt k (by omega), List.getElem?_eq_getElem hkv]
theorem cap_le (h : RowsV w base a n cap rs) : n ≤ cap := by
  obtain ⟨hn, vs, ho, hr⟩ := h
  rcases ho.2 with ⟨hv, h0⟩ | ⟨g, cap', cur, hv, hb, _, hnc, _⟩
  · omega
  · simp only [Value.slice.injEq] at hv
    obtain ⟨_, _, rfl⟩ := hv; exact hnc
theorem nil (w : World) (base : Nat) : RowsV w base none 0 0 [] := ⟨rfl, [], World.ownsRow_nil _ _ _ _, RecsV.nil _⟩
end RowsV

theorem slots_rows2 (p : List UInt8) (w : World) (hp : p.length = 512) :
    Calls Tryz.prog 89 #[aggB p] w fun e w' => ∃ a cap, e = .returned (.slice a (nslots p) cap) ∧ RowsV w' w.heap.size a (nslots p) cap (slotsF p) ∧ Fresh w w' ∧
      ∀ g k v, a = some ⟨g, 0, none⟩ → k < nslots p → w'.cell? ⟨g, k, none⟩ = some v → OwnV w.heap.size v := by
  refine (slots_any p w hp).mono ?_
  rintro e w' ⟨v, vs, rfl, ho, hr, hf, hob⟩
  have : ∃ a cap, v = .slice a (nslots p) cap := by
    rcases ho.2 with ⟨rfl, h0⟩ | ⟨g, cap, cur, rfl, _⟩
    · exact ⟨none, 0, by rw [h0]⟩
    · exact ⟨_, _, rfl⟩
  obtain ⟨a, cap, rfl⟩ := this
  refine ⟨a, cap, rfl, ⟨by simp, vs, ho, hr⟩, hf, ?_⟩
  rintro g k v rfl hk hc
  have h1 := ho.cellAt k (by omega)
  rw [h1] at hc
  exact hob v (List.mem_of_getElem? hc)
theorem slots_rows (p : List UInt8) (w : World) (hp : p.length = 512) :
    Calls Tryz.prog 89 #[aggB p] w fun e w' => ∃ a cap, e = .returned (.slice a (nslots p) cap) ∧ RowsV w' w.heap.size a (nslots p) cap (slotsF p) ∧ Fresh w w' := by
  refine (slots_rows2 p w hp).mono ?_
  rintro e w' ⟨a, cap, h1, h2, h3, _⟩
  exact ⟨a, cap, h1, h2, h3⟩

set_option maxRecDepth 100000 in
set_option maxHeartbeats 400000 in
theorem made_nil (kind : UInt8) (w : World) :
    Calls Tryz.prog 87 #[B kind, .slice none 0 0] w fun e w' => e = .returned (aggB (madeF kind [])) ∧ Fresh w w' := by
  go_enter Tryz.func87, Tryz.ntmps87
  go_upto_block 0 with (fail)
  have hz0 : Blk ((w.alloc (.cells Tryz.zeroCells111 111)).alloc (.cells Tryz.zeroCells111 111)) w.heap.size 111 (bvals zpage) := zeroPage ▸ (Blk.newA w 111 _ rfl).alloc _
  have hz1 : Blk ((w.alloc (.cells Tryz.zeroCells111 111)).alloc (.cells Tryz.zeroCells111 111)) (w.heap.size + 1) 111 (bvals zpage) := zeroPage ▸ Blk.newA _ _ _ (by simp)
  have hf : Fresh w ((w.alloc (.cells Tryz.zeroCells111 111)).alloc (.cells Tryz.zeroCells111 111)) := (Chg.alloc (Chg.alloc (Chg.refl _ _) _) _)
  have HZ0 := Lib.hid hz0
  have HZ1 := Lib.hid hz1
  have HF := Lib.hid hf
  clear hz0 hz1 hf
  generalize (w.alloc (.cells Tryz.zeroCells111 111)).alloc (.cells Tryz.zeroCells111 111) = wc at *
  have c4 : wc.cell? ⟨w.heap.size + 1, 4, none⟩ = some (B 0) := by rw [HZ1.out.cell]; rfl
  have c5 : wc.cell? ⟨w.heap.size + 1, 5, none⟩ = some (B 0) := by rw [HZ1.out.cell]; rfl
  have f4 := HZ1.out.frozen 4
  have f5 := HZ1.out.frozen 5
  go_wp2
  go_rounds 1
  have hb : Blk ((wc.setCell ⟨w.heap.size + 1, 4, none⟩ (B kind)).setCell ⟨w.heap.size + 1, 5, none⟩ (.int .u8 0)) (w.heap.size + 1) 111 (bvals (headF kind 0)) :=
    headBlk kind 0 (by omega) ▸ (HZ1.out.set 4 (B kind)).set 5 _
  have hz : Blk ((wc.setCell ⟨w.heap.size + 1, 4, none⟩ (B kind)).setCell ⟨w.heap.size + 1, 5, none⟩ (.int .u8 0)) w.heap.size 111 (bvals zpage) :=
    (HZ0.out.setOther (by simp) _).setOther (by simp) _
  have hf : Fresh w ((wc.setCell ⟨w.heap.size + 1, 4, none⟩ (B kind)).setCell ⟨w.heap.size + 1, 5, none⟩ (.int .u8 0)) :=
    (HF.out.setCell (.inr (by simp)) _).setCell (.inr (by simp)) _
  have HB := Lib.hid hb
  have HZ := Lib.hid hz
  have HF1 := Lib.hid hf
  clear hb hz hf c4 c5 f4 f5
  generalize (wc.setCell ⟨w.heap.size + 1, 4, none⟩ (B kind)).setCell ⟨w.heap.size + 1, 5, none⟩ (.int .u8 0) = w1 at *
  clear HZ0 HZ1 HF
  have HM : Hid (madeF kind [] = sealF (headF kind 0)) := rfl
  have HPL : Hid ((headF kind 0).length = 512) := headF_length _ _
  generalize headF kind 0 = pg at *
  refine wp_loop_rounds 1 ?_
  rw [rounds_succ]
  go_wp2_with (first
    | (refine wpList_loadA rfl 111 _ rfl (w.heap.size + 1) 0 rfl _ _ HB.out 512 (bvals pg) (take_all _ _ (by simp [HPL.out])) _ Tryz.underlying111 rfl infoPage (by simp [HPL.out]) ?_)
    | (go_at_call 118; refine (seal_any pg _ HPL.out).mono ?_; rintro e1 w3 ⟨rfl, hw3⟩; have HW3 := Lib.hid hw3; clear hw3)
    | (refine wpList_storeA rfl 111 _ _ rfl w.heap.size 0 rfl (bvals (sealF pg)) rfl _ _ (HZ.out.chg HW3.out id) (by rw [bvals_length, sealF_length, HPL.out]; exact infoPage) (by simp [HPL.out]) bvals_one ?_; intro w4 HB4 HC4))
  refine bodyPost_ret (results_cellA Tryz.results87 _ _ w.heap.size 111 (bvals (sealF pg)) _ rfl ?_ Tryz.underlying111 rfl (by rw [bvals_length, sealF_length, HPL.out]; exact infoPage)) rfl ?_
  · have := HB4.out
    rwa [over_all _ _ (by simp [HPL.out])] at this
  · exact ⟨by rw [HM.out], (HF1.out.trans HW3.out (fun _ _ f => f)).trans HC4.out (by intro b hb e; omega)⟩

/-- A page of a kind and records. -/
theorem made_any (kind : UInt8) (a : Option Addr) (n cap : Nat) (rs : List (Option (List UInt8))) (base : Nat) (w : World) (h : RowsV w base a n cap rs) (hfit : 6 + 4 * rs.length + endF rs ≤ 512) :
    Calls Tryz.prog 87 #[B kind, .slice a n cap] w fun e w' => e = .returned (aggB (madeF kind rs)) ∧ Fresh w w' := by
  obtain ⟨hn, vs, ho, hr⟩ := h
  have : (.slice a n cap = Value.slice none 0 0 ∧ n = 0) ∨ ∃ g, a = some ⟨g, 0, none⟩ := by
    rcases ho.2 with h | ⟨g, cap, cur, h, _⟩
    · exact .inl h
    · simp only [Value.slice.injEq] at h; exact .inr ⟨g, h.1⟩
  rcases this with ⟨h0, h1⟩ | ⟨g, rfl⟩
  · rw [h0]
    obtain rfl : rs = [] := List.eq_nil_of_length_eq_zero (by omega)
    exact made_nil kind w
  · exact made_some kind g cap n vs rs base w hn.symm ho hr hfit

def lenR : Option (List UInt8) → Nat
  | none => 0
  | some l => l.length
theorem RecV.slice {w : World} {v : Value} {r : Option (List UInt8)} (h : RecV w v r) : ∃ a c, v = .slice a (lenR r) c ∧ (a = none ↔ r = none) ∧ (r = none → v = .slice none 0 0) := by
  cases r with
  | none => exact ⟨none, 0, h, by simp, fun _ => h⟩
  | some l => obtain ⟨b, o, cap, cur, rfl, _⟩ := h; exact ⟨_, _, rfl, by simp, by simp⟩
theorem endF_one (r : Option (List UInt8)) : endF [r] = lenR r := by cases r <;> rfl

/-- What records take up in a page. -/
def costF (rs : List (Option (List UInt8))) : Nat := 4 * rs.length + endF rs
set_option maxHeartbeats 400000 in
theorem cost_any (a : Option Addr) (n cap : Nat) (rs : List (Option (List UInt8))) (base : Nat) (w : World) (h : RowsV w base a n cap rs) (hb : n ≤ 1000000) (hb2 : endF rs ≤ 1000000000000) :
    Calls Tryz.prog 113 #[.slice a n cap] w fun e w' => e = .returned (.int .i64 (costF rs)) ∧ w = w' := by
  have H := Lib.hid h
  have HN : Hid (rs.length = n) := h.1.symm
  clear h
  go_enter Tryz.func113, Tryz.ntmps113
  go_wp2
  go_loop [3, 11] (fun c i => ∃ k : Nat, k ≤ n ∧ i = .int .i64 k ∧ c = .int .i64 ((4 * n + endF (rs.take k) : Nat) : Int)) (fun _ i => n - (intOf i).toNat)
  case atStart => exact ⟨0, Nat.zero_le _, rfl, by simp [endF]⟩
  case round =>
    obtain ⟨k, hk, rfl, rfl⟩ := hrel
    by_cases hlt : k < n
    · have hkr : k < rs.length := by rw [HN.out]; exact hlt
      obtain ⟨g, v, rfl, hc, _, hr, _, _⟩ := H.out.at_ (List.getElem?_eq_getElem hkr)
      obtain ⟨a', c', rfl, _, _⟩ := hr.slice
      have HS : Hid (endF (rs.take (k + 1)) = endF (rs.take k) + lenR rs[k]) := by
        rw [List.take_succ_eq_append_getElem hkr, endF_append, endF_one]; rfl
      have hle : endF (rs.take (k + 1)) ≤ endF rs := endF_take _ _
      rw [HS.out] at hle
      clear hr
      generalize lenR rs[k] = l at *
      generalize endF (rs.take k) = e0 at *
      go_wp2
      go_round
      case rel => exact ⟨k + 1, by omega, by go_num, by rw [HS.out]; go_num⟩
      case measure => simp [intOf]; omega
    · obtain rfl : k = n := by omega
      go_wp2
      go_ret
      exact ⟨by rw [List.take_of_length_le (by rw [HN.out]; exact Nat.le_refl _), costF, HN.out]; exact ret_int (by omega), rfl⟩

/-- The lowest empty slot. -/
def freeF : List (Option (List UInt8)) → Nat
  | [] => 0
  | none :: _ => 0
  | some _ :: rs => freeF rs + 1
theorem freeF_le (rs : List (Option (List UInt8))) : freeF rs ≤ rs.length := by
  induction rs with
  | nil => exact Nat.le_refl _
  | cons r rs ih => cases r <;> simp [freeF]; omega
theorem freeF_spec (rs : List (Option (List UInt8))) (k : Nat) (h : ∀ j, j < k → ∃ l, rs[j]? = some (some l)) (hk : rs[k]? = some none ∨ rs.length = k) : freeF rs = k := by
  induction rs generalizing k with
  | nil => simp at hk; simp [freeF]; omega
  | cons r rs ih =>
    cases k with
    | zero => simp at hk; subst hk; rfl
    | succ k =>
      obtain ⟨l, hl⟩ := h 0 (by omega)
      simp at hl; subst hl
      simp only [freeF]
      rw [ih k (fun j hj => by have := h (j + 1) (by omega); simpa using this) (by simpa using hk)]

set_option maxHeartbeats 400000 in
theorem free_any (a : Option Addr) (n cap : Nat) (rs : List (Option (List UInt8))) (base : Nat) (w : World) (h : RowsV w base a n cap rs) (hb : n ≤ 1000000) :
    Calls Tryz.prog 110 #[.slice a n cap] w fun e w' => e = .returned (.int .i64 (freeF rs : Nat)) ∧ w = w' := by
  have H := Lib.hid h
  have HN : Hid (rs.length = n) := h.1.symm
  clear h
  go_enter Tryz.func110, Tryz.ntmps110
  go_wp2
  go_loop [7] (fun i => ∃ k : Nat, k ≤ n ∧ i = .int .i64 k ∧ Hid (∀ j, j < k → ∃ l, rs[j]? = some (some l))) (fun i => n - (intOf i).toNat)
  case atStart => exact ⟨0, Nat.zero_le _, rfl, fun j hj => by omega⟩
  case round =>
    obtain ⟨k, hk, rfl, HK⟩ := hrel
    by_cases hlt : k < n
    · have hkr : k < rs.length := by rw [HN.out]; exact hlt
      have hr0 := List.getElem?_eq_getElem hkr
      obtain ⟨g, v, rfl, hc, _, hr, _, _⟩ := H.out.at_ hr0
      cases hx : rs[k] with
      | none =>
        rw [hx] at hr hr0
        obtain rfl : v = .slice none 0 0 := hr
        have HR := Lib.hid hr0
        clear hr0 hx
        go_wp2
        go_ret
        exact ⟨by rw [freeF_spec rs k HK.out (.inl HR.out)]; rfl, rfl⟩
      | some l =>
        rw [hx] at hr hr0
        obtain ⟨b, o, cap, cur, rfl, _⟩ := hr
        have HR := Lib.hid hr0
        clear hr0 hx
        go_wp2
        go_round
        case rel =>
          refine ⟨k + 1, by omega, by go_num, fun j hj => ?_⟩
          rcases Nat.lt_or_ge j k with h | h
          · exact HK.out j h
          · obtain rfl : j = k := by omega
            exact ⟨l, HR.out⟩
        case measure => simp [intOf]; omega
    · obtain rfl : k = n := by omega
      go_wp2
      go_ret
      exact ⟨by rw [freeF_spec rs k HK.out (.inr HN.out)]; rfl, rfl⟩
end Go.Proofs.YtnmjkgnahhbnoaaGreat

/- Walks of package page: put. -/
namespace Go.Proofs.YtnmjkgnahhbnoaaGreat
open Go.RowKit

/-- A record in a slot: what rows come of it. -/
def setF (rs : List (Option (List UInt8))) (slot : Nat) (r : List UInt8) : List (Option (List UInt8)) :=
  if slot = rs.length then rs ++ [some r] else rs.set slot (some r)
/-- The page with a record in a slot, if it fits. -/
def putF (kind : UInt8) (rs : List (Option (List UInt8))) (slot : Nat) (r : List UInt8) : Option (List UInt8) :=
  if 400 < r.length ∨ 496 < costF (setF rs slot r) then none else some (madeF kind (setF rs slot r))

/-- Bytes in a block of bytes, or nil. -/
def BytesS (w : World) (v : Value) (l : List UInt8) : Prop := (v = .slice none 0 0 ∧ l = []) ∨ ∃ b, SlB w v b l
theorem BytesS.toV {w : World} {v : Value} {l : List UInt8} (h : BytesS w v l) : BytesV w v l := by
  rcases h with h | ⟨b, h⟩
  · exact .inl h
  · exact h.bytesV
theorem BytesS.chg {w w1 : World} {v : Value} {l : List UInt8} {F : Nat → Prop} (h : BytesS w v l) (hc : Chg F w w1)
    (hf : ∀ b cur, w.heap[b]? = some (.cells cur 5 (0, 0)) → ¬ F b) : BytesS w1 v l := by
  rcases h with h | ⟨b, h⟩
  · exact .inl h
  · exact .inr ⟨b, h.chg hc (by obtain ⟨_, _, cur, _, hh, _⟩ := h; exact hf b cur hh)⟩
theorem BytesS.fresh {w w1 : World} {v : Value} {l : List UInt8} (h : BytesS w v l) (hc : Fresh w w1) : BytesS w1 v l := h.chg hc (fun _ _ _ f => f)
/-- The rows with room for a slot. -/
def rows1F (rs : List (Option (List UInt8))) (slot n : Nat) : List (Option (List UInt8)) := if slot = n then rs ++ [none] else rs
theorem rows1_set (rs : List (Option (List UInt8))) (slot n : Nat) (r : List UInt8) (h : rs.length = n) : (rows1F rs slot n).set slot (some r) = setF rs slot r := by
  subst h
  unfold setF rows1F
  split
  · rename_i hh; subst hh; rw [List.set_append_right _ _ (Nat.le_refl _)]; simp
  · rfl
theorem endF_set (rs : List (Option (List UInt8))) (k : Nat) (r : List UInt8) : endF (rs.set k (some r)) ≤ endF rs + r.length := by
  induction rs generalizing k with
  | nil => simp [endF]
  | cons x rs ih =>
    cases k with
    | zero => cases x <;> simp [endF] <;> omega
    | succ k => have := ih k; cases x <;> simp [endF] <;> omega
theorem endF_setF (rs : List (Option (List UInt8))) (k : Nat) (r : List UInt8) : endF (setF rs k r) ≤ endF rs + r.length := by
  unfold setF
  split
  · rw [endF_append]; simp [endF]
  · exact endF_set rs k r

/-- The block of a slice. -/
def OwnA (a : Option Addr) (b : Nat) : Prop := a.map (·.block) = some b
theorem ownBlock_slice (a : Option Addr) (n c : Nat) : (Value.slice a n c).ownBlock = a.map (·.block) := by cases a <;> rfl
theorem RowsV.snocNil {w1 : World} {base : Nat} {g n cap : Nat} {vs : List Value} {rs : List (Option (List UInt8))} (hn : n = rs.length)
    (ho : w1.ownsRow base 23 1 (.slice (some ⟨g, 0, none⟩) (n + 1) cap) (n + 1) (vs ++ [.slice none 0 0])) (hr : RecsV w1 vs rs) : RowsV w1 base (some ⟨g, 0, none⟩) (n + 1) cap (rs ++ [none]) :=
  ⟨by simp [hn], _, ho, hr.snoc rfl⟩

theorem RecsV.set {w : World} {vs : List Value} {rs : List (Option (List UInt8))} (h : RecsV w vs rs) (k : Nat) (v : Value) (r : Option (List UInt8)) (hr : RecV w v r) : RecsV w (vs.set k v) (rs.set k r) := by
  refine ⟨by simp [h.1], fun i u s hu hs => ?_⟩
  rw [List.getElem?_set] at hu hs
  by_cases hk : k = i
  · subst hk
    simp only [if_true] at hu hs
    split at hu <;> split at hs <;> simp_all
  · simp only [if_neg hk] at hu hs
    exact h.2 i u s hu hs

theorem RowsV.other {w : World} {base g n cap : Nat} {rs : List (Option (List UInt8))} (h : RowsV w base (some ⟨g, 0, none⟩) n cap rs) {b : Nat} {e : TypeId} {cs : List Value} (hb : Blk w b e cs) (hne : 23 ≠ e) : b ≠ g := by
  obtain ⟨_, vs, ho, _⟩ := h
  intro he
  exact owns_other ho hb hne (by rw [he]; rfl)
theorem cell_chg_other {w w1 w2 : World} {b o g : Nat} {v : Value} (h : w.cell? ⟨b, o, none⟩ = some v) (h1 : Fresh w w1) (h2 : Chg (· = g) w1 w2) (hne : b ≠ g) : w2.cell? ⟨b, o, none⟩ = some v :=
  h2.cell (h1.cell h id) hne
theorem Chg.store1 (w : World) (g o : Nat) (v : Value) : Chg (· = g) w (w.setCell ⟨g, o, none⟩ v) :=
  Chg.setCell (F := fun b => b = g) (p := ⟨g, o, none⟩) (Chg.refl _ w) (.inl rfl) v
theorem RowsV.store {w : World} {base g n cap slot : Nat} {rs : List (Option (List UInt8))} {v : Value} {r : Option (List UInt8)} (h : RowsV w base (some ⟨g, 0, none⟩) n cap rs) (hr : RecV w v r) :
    RowsV (w.setCell ⟨g, slot, none⟩ v) base (some ⟨g, 0, none⟩) n cap (rs.set slot r) ∧ Chg (· = g) w (w.setCell ⟨g, slot, none⟩ v) := by
  obtain ⟨hn, vs, ho, hrs⟩ := h
  have hc := Chg.store1 w g slot v
  have hno : ∀ b cur, w.heap[b]? = some (.cells cur 5 (0, 0)) → ¬ (b = g) := fun b cur hb e => by
    have := owns_other ho hb (by decide); exact this (by rw [e]; rfl)
  exact ⟨⟨by simpa using hn, _, (ho.stored slot v).1, (hrs.chg hc hno).set slot v r (hr.chg hc hno)⟩, hc⟩

set_option maxRecDepth 100000 in
set_option maxHeartbeats 1000000 in
theorem put_any (p : List UInt8) (a : Option Addr) (n cap : Nat) (rs : List (Option (List UInt8))) (base : Nat) (slot : Nat) (v : Value) (r : List UInt8) (w : World) (hp : p.length = 512)
    (h : RowsV w base a n cap rs) (hb : n ≤ 100000) (hb2 : endF rs ≤ 1000000) (hs : slot ≤ n) (hv : BytesS w v r) (hrl : r.length ≤ 1000000) :
    Calls Tryz.prog 111 #[aggB p, .slice a n cap, .int .i64 slot, v] w fun e w' =>
      e = .returned (.tuple #[aggB ((putF (p.getD 4 0) rs slot r).getD zpage), .bool (putF (p.getD 4 0) rs slot r).isSome]) ∧ Chg (OwnA a) w w' := by
  have H := Lib.hid h
  have HV := Lib.hid hv
  have HN : Hid (rs.length = n) := h.1.symm
  obtain ⟨av, cv, rfl⟩ := hv.toV.slice
  have HNO : Hid (∀ (b : Nat) (e : TypeId) (cur : Array Value) (fr : Nat × Nat), w.heap[b]? = some (.cells cur e fr) → 23 ≠ e → ¬ a.map (·.block) = some b) := by
    obtain ⟨_, vs, ho, _⟩ := h
    intro b e cur fr hb hne
    have := owns_other ho hb hne; rwa [ownBlock_slice] at this
  clear h hv
  go_enter Tryz.func111, Tryz.ntmps111
  go_upto_if 13 with (fail)
  have hb1 := (Blk.new w 111 (bvals p)).alloc (.cells Tryz.zeroCells111 111)
  have hz1 : Blk ((w.alloc (.cells (bvals p).toArray 111)).alloc (.cells Tryz.zeroCells111 111)) (w.heap.size + 1) 111 (bvals zpage) := zeroPage ▸ Blk.newA _ _ _ (by simp)
  have hf : Fresh w ((w.alloc (.cells (bvals p).toArray 111)).alloc (.cells Tryz.zeroCells111 111)) := (Chg.alloc (Chg.alloc (Chg.refl _ _) _) _)
  have HB := Lib.hid hb1
  have HZ := Lib.hid hz1
  have HF := Lib.hid hf
  have H1 := Lib.hid (H.out.fresh hf)
  clear hb1 hz1 hf
  generalize (w.alloc (.cells (bvals p).toArray 111)).alloc (.cells Tryz.zeroCells111 111) = w0 at *
  go_cut [1] (fun l wx => ∃ g n1 cap1 : Nat, l = .slice (some ⟨g, 0, none⟩) n1 cap1 ∧ slot < n1 ∧ n1 ≤ n + 1 ∧ Hid (RowsV wx 0 (some ⟨g, 0, none⟩) n1 cap1 (rows1F rs slot n)) ∧
    Hid (Blk wx w.heap.size 111 (bvals p)) ∧ Hid (Blk wx (w.heap.size + 1) 111 (bvals zpage)) ∧ Hid (Chg (OwnA a) w wx) ∧ Hid (a.map (·.block) = some g ∨ w.heap.size ≤ g))
  case first =>
    by_cases hsn : slot = n
    · subst hsn
      obtain ⟨hn0, vs, ho, hr⟩ := H1.out
      have hn := Lib.hid hn0
      clear hn0
      have HO := Lib.hid ho
      have HR := Lib.hid hr
      clear ho hr
      go_wp2_with (at_builtin; go_must (refine wpList_app rfl _ _ 22 rfl 23 (.slice none 0 0) 1 24 Tryz.underlying22 infoRecs rfl (by decide) 0 (.slice a slot cap) slot vs rfl (owns_base (HO.out.alloc _) (Nat.zero_le _)) ⟨w0.heap.size, 0, none⟩ 1 1 [.slice none 0 0] rfl rfl (new_cells _ _ _) (one_of _ rfl) (by unfold maxLen; omega) (by omega) (Nat.zero_le _) (.inr (by omega)) ?_); intro g' cap' w' HO2 HC2 HG2)
      rw [ownBlock_slice] at HC2 HG2
      have HC2 : Hid (Chg (OwnA a) _ w') := HC2
      have hno : ∀ (b : Nat) (e : TypeId) (cur : Array Value) (fr : Nat × Nat), w0.heap[b]? = some (.cells cur e fr) → 23 ≠ e → ¬ a.map (·.block) = some b := fun b e cur fr hb hne => by
        have := owns_other HO.out hb hne; rwa [ownBlock_slice] at this
      have hw : Chg (OwnA a) w0 w' := ((Chg.refl (fun _ => False) w0).alloc _).fresh.trans HC2.out (fun b hb h => h)
      have HW := Lib.hid hw
      go_meet
      refine ⟨g', slot + 1, cap', rfl, by omega, by omega, ?_, ?_, ?_, ?_, ?_⟩
      · rw [rows1F, if_pos rfl]
        exact RowsV.snocNil hn.out HO2.out (HR.out.chg HW.out fun b cur hb => hno b _ cur _ hb (by decide))
      · exact HB.out.chg HW.out (hno _ _ _ _ HB.out (by decide))
      · exact HZ.out.chg HW.out (hno _ _ _ _ HZ.out (by decide))
      · exact HF.out.fresh.trans HW.out (fun b hb h => h)
      · have := HF.out.size
        rcases HG2.out with h | h
        · exact .inl h
        · exact .inr (by simp at h; omega)
    · have hlt : slot < n := by omega
      obtain ⟨g, v0, rfl, hc, hfz, hr, hbase, _⟩ := H1.out.at_ (List.getElem?_eq_getElem (by rw [HN.out]; exact hlt))
      have e1 : ((slot : Int) == (n : Int)) = false := by rw [beq_eq_false_iff_ne]; omega
      clear hc hfz hr
      go_wp2
      go_meet
      refine ⟨g, n, cap, rfl, hlt, by omega, ?_, HB, HZ, HF.out.fresh, .inl rfl⟩
      rw [rows1F, if_neg hsn]
      exact H1.out.base_le (Nat.zero_le _)
  case rest =>
    obtain ⟨g, n1, cap1, rfl, hlt, hn1, HR, HB2, HZ2, HC, HG⟩ := hcut
    clear H1 HB HZ HF H
    have HSET : Hid ((rows1F rs slot n).set slot (some r) = setF rs slot r) := rows1_set rs slot n r HN.out
    have hE1 : endF (setF rs slot r) ≤ endF rs + r.length := endF_setF rs slot r
    generalize rows1F rs slot n = rs1 at *
    have HN1 : Hid (n1 = rs1.length) := HR.out.1
    obtain ⟨r0, hr0⟩ : ∃ x, rs1[slot]? = some x := ⟨_, List.getElem?_eq_getElem (by rw [← HN1.out]; exact hlt)⟩
    clear hr0 r0
    have hnoa : ∀ (b : Nat) (e : TypeId) (cur : Array Value) (fr : Nat × Nat), w.heap[b]? = some (.cells cur e fr) → 23 ≠ e → ¬ a.map (·.block) = some b := HNO.out
    have HVC : Hid (BytesS wc (.slice av r.length cv) r) := HV.out.chg HC.out (fun b cur hb => hnoa b _ cur _ hb (by decide))
    have HVX := Lib.hid ((HVC.out.fresh ((Chg.refl _ _).alloc (.cells #[] 5))).toV)
    clear hnoa
    have HPD : Hid ((p.getD 4 0) = p[4]'(by omega)) := by show _ = _; rw [List.getD_eq_getElem?_getD, List.getElem?_eq_getElem (by omega)]; rfl
    have HC4 := HB2.out.cell 4
    rw [bvals_get, List.getElem?_eq_getElem (by omega)] at HC4
    have HCELL := Lib.hid HC4
    clear HC4
    generalize p[4]'(by omega) = kind at *
    by_cases h400 : 400 < r.length
    · go_wp2_with (first
                   | (at_builtin
                      go_must (refine wpList_appBytes rfl _ _ rfl wc.heap.size rfl (Blk.new wc 5 []) r r.length rfl (by omega) (by rcases HVX.out with ⟨h1, h2⟩ | ⟨ad, c, h1, h2⟩; exact .inl ⟨h1, by rw [h2]; rfl⟩; exact .inr ⟨ad, c, h1, h2⟩) ?_)
                      intro g1 c1 w3 HO3 HC3 HG3
                      have hw := ((Chg.refl (fun _ => False) wc).alloc _).trans HC3.out (fun b hb e => by omega)
                      have hr3 := HR.out.fresh hw
                      obtain ⟨r0, hr0⟩ : ∃ x, rs1[slot]? = some x := ⟨_, List.getElem?_eq_getElem (by rw [← HN1.out]; exact hlt)⟩
                      obtain ⟨_, v1, hh, hc, hfz, _, _, _⟩ := hr3.at_ hr0
                      simp only [Option.some.injEq, Addr.mk.injEq, and_true] at hh
                      subst hh
                      obtain ⟨hr4, hc4⟩ := RowsV.store (slot := slot) (v := .slice (some ⟨g1, 0, none⟩) r.length c1) (r := some r) hr3 ⟨g1, HO3.out⟩
                      rw [HSET.out] at hr4
                      have HR4 := Lib.hid hr4
                      have HZ4 := Lib.hid ((HZ2.out.chg hw id).chg hc4 (hr3.other (HZ2.out.chg hw id) (by decide)))
                      have hc5 : Chg (OwnA a) w (w3.setCell ⟨g, slot, none⟩ (.slice (some ⟨g1, 0, none⟩) r.length c1)) :=
                        (HC.out.trans hw (fun _ _ f => f.elim)).trans hc4 (fun b hb e => by subst e; exact HG.out.resolve_right (by omega))
                      have HC5 := Lib.hid hc5
                      have cp := cell_chg_other (HCELL.out) hw hc4 (hr3.other (HB2.out.chg hw id) (by decide))
                      clear hr0 hw hr3 hr4 hc4 hc5)
                   | (refine wpList_storeA rfl 111 _ _ rfl (w.heap.size + 1) 0 rfl (bvals zpage) (congrArg Value.agg zeroPageA) _ _ HZ4.out (by simpa using infoPage) (by simp) bvals_one ?_; intro w9 HB9 HC9))
      refine bodyPost_ret (results_cell_t Tryz.results111 _ _ (w.heap.size + 1) 111 (bvals zpage) _ rfl ?_ Tryz.underlying111 rfl (by rw [bvals_length, zpage_length]; exact infoPage)) rfl ?_
      · have := HB9.out
        rwa [over_all _ _ (by simp [zpage_length])] at this
      · refine ⟨by rw [putF, if_pos (.inl h400)]; rfl, HC5.out.trans HC9.out (fun b hb e => by subst e; omega)⟩
    · by_cases h496 : 496 < costF (setF rs slot r)
      · have hx : decide ((496 : Int) < (costF (setF rs slot r) : Int)) = true := by simp; omega
        go_wp2_with (first
                   | (at_builtin
                      go_must (refine wpList_appBytes rfl _ _ rfl wc.heap.size rfl (Blk.new wc 5 []) r r.length rfl (by omega) (by rcases HVX.out with ⟨h1, h2⟩ | ⟨ad, c, h1, h2⟩; exact .inl ⟨h1, by rw [h2]; rfl⟩; exact .inr ⟨ad, c, h1, h2⟩) ?_)
                      intro g1 c1 w3 HO3 HC3 HG3
                      have hw := ((Chg.refl (fun _ => False) wc).alloc _).trans HC3.out (fun b hb e => by omega)
                      have hr3 := HR.out.fresh hw
                      obtain ⟨r0, hr0⟩ : ∃ x, rs1[slot]? = some x := ⟨_, List.getElem?_eq_getElem (by rw [← HN1.out]; exact hlt)⟩
                      obtain ⟨_, v1, hh, hc, hfz, _, _, _⟩ := hr3.at_ hr0
                      simp only [Option.some.injEq, Addr.mk.injEq, and_true] at hh
                      subst hh
                      obtain ⟨hr4, hc4⟩ := RowsV.store (slot := slot) (v := .slice (some ⟨g1, 0, none⟩) r.length c1) (r := some r) hr3 ⟨g1, HO3.out⟩
                      rw [HSET.out] at hr4
                      have HR4 := Lib.hid hr4
                      have HZ4 := Lib.hid ((HZ2.out.chg hw id).chg hc4 (hr3.other (HZ2.out.chg hw id) (by decide)))
                      have hc5 : Chg (OwnA a) w (w3.setCell ⟨g, slot, none⟩ (.slice (some ⟨g1, 0, none⟩) r.length c1)) :=
                        (HC.out.trans hw (fun _ _ f => f.elim)).trans hc4 (fun b hb e => by subst e; exact HG.out.resolve_right (by omega))
                      have HC5 := Lib.hid hc5
                      have cp := cell_chg_other (HCELL.out) hw hc4 (hr3.other (HB2.out.chg hw id) (by decide))
                      clear hr0 hw hr3 hr4 hc4 hc5)
                   | (go_at_call 113; go_must (refine (cost_any _ _ _ _ 0 _ HR4.out (by omega) (by omega)).mono ?_); rintro e6 w6 ⟨rfl, rfl⟩)
                   | (refine wpList_storeA rfl 111 _ _ rfl (w.heap.size + 1) 0 rfl (bvals zpage) (congrArg Value.agg zeroPageA) _ _ HZ4.out (by simpa using infoPage) (by simp) bvals_one ?_; intro w9 HB9 HC9))
        refine bodyPost_ret (results_cell_t Tryz.results111 _ _ (w.heap.size + 1) 111 (bvals zpage) _ rfl ?_ Tryz.underlying111 rfl (by rw [bvals_length, zpage_length]; exact infoPage)) rfl ?_
        · have := HB9.out
          rwa [over_all _ _ (by simp [zpage_length])] at this
        · refine ⟨by rw [putF, if_pos (.inr h496)]; rfl, HC5.out.trans HC9.out (fun b hb e => by subst e; omega)⟩
      · have hx : decide ((496 : Int) < (costF (setF rs slot r) : Int)) = false := by simp; omega
        have HLM : Hid ((madeF kind (setF rs slot r)).length = 512) := madeF_length _ _ (by unfold costF at h496; omega)
        go_wp2_with (first
                   | (at_builtin
                      go_must (refine wpList_appBytes rfl _ _ rfl wc.heap.size rfl (Blk.new wc 5 []) r r.length rfl (by omega) (by rcases HVX.out with ⟨h1, h2⟩ | ⟨ad, c, h1, h2⟩; exact .inl ⟨h1, by rw [h2]; rfl⟩; exact .inr ⟨ad, c, h1, h2⟩) ?_)
                      intro g1 c1 w3 HO3 HC3 HG3
                      have hw := ((Chg.refl (fun _ => False) wc).alloc _).trans HC3.out (fun b hb e => by omega)
                      have hr3 := HR.out.fresh hw
                      obtain ⟨r0, hr0⟩ : ∃ x, rs1[slot]? = some x := ⟨_, List.getElem?_eq_getElem (by rw [← HN1.out]; exact hlt)⟩
                      obtain ⟨_, v1, hh, hc, hfz, _, _, _⟩ := hr3.at_ hr0
                      simp only [Option.some.injEq, Addr.mk.injEq, and_true] at hh
                      subst hh
                      obtain ⟨hr4, hc4⟩ := RowsV.store (slot := slot) (v := .slice (some ⟨g1, 0, none⟩) r.length c1) (r := some r) hr3 ⟨g1, HO3.out⟩
                      rw [HSET.out] at hr4
                      have HR4 := Lib.hid hr4
                      have HZ4 := Lib.hid ((HZ2.out.chg hw id).chg hc4 (hr3.other (HZ2.out.chg hw id) (by decide)))
                      have hc5 : Chg (OwnA a) w (w3.setCell ⟨g, slot, none⟩ (.slice (some ⟨g1, 0, none⟩) r.length c1)) :=
                        (HC.out.trans hw (fun _ _ f => f.elim)).trans hc4 (fun b hb e => by subst e; exact HG.out.resolve_right (by omega))
                      have HC5 := Lib.hid hc5
                      have cp := cell_chg_other (HCELL.out) hw hc4 (hr3.other (HB2.out.chg hw id) (by decide))
                      clear hr0 hw hr3 hr4 hc4 hc5)
                   | (go_at_call 113; go_must (refine (cost_any _ _ _ _ 0 _ HR4.out (by omega) (by omega)).mono ?_); rintro e6 w6 ⟨rfl, rfl⟩)
                   | (go_at_call 87; go_must (refine (made_any _ _ _ _ _ 0 _ HR4.out (by unfold costF at h496; omega)).mono ?_); rintro e8 w8 ⟨rfl, hw8⟩; have HW8 := Lib.hid hw8; clear hw8)
                   | (refine wpList_storeA rfl 111 _ _ rfl (w.heap.size + 1) 0 rfl (bvals (madeF kind (setF rs slot r))) rfl _ _ (HZ4.out.chg HW8.out id) (by rw [bvals_length, HLM.out]; exact infoPage) (by simp [HLM.out]) bvals_one ?_; intro w9 HB9 HC9))
        refine bodyPost_ret (results_cell_t Tryz.results111 _ _ (w.heap.size + 1) 111 (bvals (madeF kind (setF rs slot r))) _ rfl ?_ Tryz.underlying111 rfl (by rw [bvals_length, HLM.out]; exact infoPage)) rfl ?_
        · have := HB9.out
          rwa [over_all _ _ (by simp [HLM.out])] at this
        · refine ⟨by rw [putF, if_neg (by omega), HPD.out]; rfl, (HC5.out.trans HW8.out (fun _ _ f => f.elim)).trans HC9.out (fun b hb e => by subst e; omega)⟩
end Go.Proofs.YtnmjkgnahhbnoaaGreat

/- Walks of package page: New, Kind, Slots, Get, Add, Set, Drop. -/
namespace Go.Proofs.YtnmjkgnahhbnoaaGreat
open Go.RowKit

theorem bytes_page {p : List UInt8} (hp : p.length = 512) : (bvals p).length = 512 := by simp [hp]
theorem infoPage' {p : List UInt8} (hp : p.length = 512) : (Tryz.prog.info? 111).map (·.size) = some (bvals p).length := by rw [bytes_page hp]; exact infoPage

set_option maxRecDepth 100000 in
set_option maxHeartbeats 400000 in
theorem new_any (k : Int) (w : World) (h0 : 0 ≤ k) (h1 : k < 256) :
    Calls Tryz.prog 51 #[.int .i64 k] w fun e w' => e = .returned (aggB (madeF (lowB k) [])) ∧ Fresh w w' := by
  have hk : (.int .u8 k : Value) = B (lowB k) := by rw [lowB_val]; congr 1; omega
  have hl : (madeF (lowB k) []).length = 512 := madeF_length _ _ (by simp [endF])
  have HL := Lib.hid hl
  have HK := Lib.hid hk
  clear hl hk
  go_enter Tryz.func51, Tryz.ntmps51
  go_wp2_with fail
  have hz : Blk (w.alloc (.cells Tryz.zeroCells111 111)) w.heap.size 111 (bvals zpage) := zeroPage ▸ Blk.newA _ _ _ rfl
  have HZ := Lib.hid hz
  have HF : Hid (Fresh w (w.alloc (.cells Tryz.zeroCells111 111))) := (Chg.refl _ _).alloc _
  clear hz
  generalize w.alloc (.cells Tryz.zeroCells111 111) = w0 at *
  rw [HK.out]
  refine (made_nil _ _).mono ?_
  rintro e w1 ⟨rfl, hw1⟩
  have HW := Lib.hid hw1
  clear hw1
  generalize hq0 : madeF (lowB k) [] = q at *
  have HQ := Lib.hid hq0
  clear hq0
  go_wp2_with (refine wpList_storeA rfl 111 _ _ rfl w.heap.size 0 rfl (bvals q) rfl _ _ (HZ.out.chg HW.out id) (infoPage' HL.out) (by simp [HL.out]) bvals_one ?_; intro w9 HB9 HC9)
  refine bodyPost_ret (results_cellA Tryz.results51 _ _ w.heap.size 111 (bvals q) _ rfl ?_ Tryz.underlying111 rfl (infoPage' HL.out)) rfl ?_
  · have := HB9.out
    rwa [over_all _ _ (by simp [HL.out])] at this
  · exact ⟨by rw [HQ.out], (HF.out.trans HW.out (fun _ _ f => f)).trans HC9.out (by intro b hb e; omega)⟩

set_option maxHeartbeats 400000 in
theorem kind_any (p : List UInt8) (w : World) (hp : p.length = 512) :
    Calls Tryz.prog 112 #[aggB p] w fun e w' => e = .returned (.int .i64 (byteAt p 4)) ∧ Fresh w w' := by
  go_enter Tryz.func112, Tryz.ntmps112
  have hb := Blk.new w 111 (bvals p)
  have c4 : (w.alloc (.cells (bvals p).toArray 111)).cell? ⟨w.heap.size, 4, none⟩ = some (.int .u8 (byteAt p 4 : Int)) := by
    rw [hb.cell, bvals_get]; simp [hp, byteAt]
  have l4 := byteAt_lt p 4
  clear hb
  go_wp2
  go_ret
  exact ⟨rfl, (Chg.refl _ _).alloc _⟩

set_option maxRecDepth 100000 in
set_option maxHeartbeats 400000 in
theorem slotsN_any (p : List UInt8) (w : World) (hp : p.length = 512) :
    Calls Tryz.prog 57 #[aggB p] w fun e w' => e = .returned (.int .i64 (nslots p)) ∧ Fresh w w' := by
  go_enter Tryz.func57, Tryz.ntmps57
  go_wp2_with (first
    | (refine wpList_loadA rfl 111 _ rfl w.heap.size 0 rfl 111 _ (Blk.new w 111 (bvals p)) 512 (bvals p) (take_all _ _ (by simp [hp])) _ Tryz.underlying111 rfl infoPage (by simp [hp]) ?_)
    | (go_at_call 89; go_must (refine (slots_rows p _ hp).mono ?_); rintro e1 w1 ⟨a, cap, rfl, h1, h2⟩; have H2 := Lib.hid h2; clear h1 h2))
  go_ret
  exact ⟨rfl, ((Chg.refl _ _).alloc _).trans H2.out (fun _ _ f => f)⟩

/-- A slot's record. -/
def getF (p : List UInt8) (slot : Nat) : Option (List UInt8) := ((slotsF p)[slot]?).getD none

theorem getF_lt (p : List UInt8) (slot : Nat) (h : slot < nslots p) : (slotsF p)[slot]? = some (getF p slot) := by
  unfold getF
  rw [List.getElem?_eq_getElem (by simpa using h)]; rfl
theorem getF_ge (p : List UInt8) (slot : Nat) (h : ¬ slot < nslots p) : getF p slot = none := by
  unfold getF
  rw [List.getElem?_eq_none (by simp; omega)]; rfl

set_option maxRecDepth 100000 in
set_option maxHeartbeats 400000 in
theorem get_own (p : List UInt8) (slot : Nat) (w : World) (hp : p.length = 512) (hs : slot ≤ 1000000000) :
    Calls Tryz.prog 58 #[aggB p, .int .i64 slot] w fun e w' => ∃ v, e = .returned (.tuple #[v, .bool (getF p slot).isSome]) ∧ RecV w' v (getF p slot) ∧ Fresh w w' ∧ OwnV w.heap.size v := by
  have HGL := Lib.hid (getF_lt p slot)
  have HGG := Lib.hid (getF_ge p slot)
  go_enter Tryz.func58, Tryz.ntmps58
  generalize hr0 : getF p slot = r at *
  clear hr0
  go_wp2_with (refine wpList_loadA rfl 111 _ rfl w.heap.size 0 rfl 111 _ (Blk.new w 111 (bvals p)) 512 (bvals p) (take_all _ _ (by simp [hp])) _ Tryz.underlying111 rfl infoPage (by simp [hp]) ?_)
  refine (slots_rows2 p _ hp).mono ?_
  rintro e1 w1 ⟨a, cap, rfl, h1, h2, h3⟩
  have H2 := Lib.hid (((Chg.refl _ w).alloc _).trans h2 (fun _ _ f => f))
  have HOB : Hid (∀ g v, a = some ⟨g, 0, none⟩ → slot < nslots p → w1.cell? ⟨g, slot, none⟩ = some v → OwnV w.heap.size v) := fun g v ha hk hc => (h3 g slot v ha hk hc).le (by simp)
  clear h2 h3
  by_cases hlt : slot < nslots p
  · obtain ⟨g, v, rfl, hc, hfz, hr, _, _⟩ := h1.at_ (HGL.out hlt)
    have HOV := Lib.hid (HOB.out g v rfl hlt hc)
    clear h1 HGG HGL HOB
    cases r with
    | none =>
      obtain rfl : v = .slice none 0 0 := hr
      go_wp2
      go_ret2
      exact ⟨_, rfl, rfl, H2.out, HOV.out⟩
    | some l =>
      obtain ⟨b, hsl⟩ := hr
      have HSL := Lib.hid hsl
      obtain ⟨o, cp, cur, rfl, _, _⟩ := hsl
      go_wp2
      go_ret2
      exact ⟨_, rfl, ⟨b, HSL.out⟩, H2.out, HOV.out⟩
  · obtain rfl := HGG.out hlt
    clear h1 HGG HGL
    go_wp2
    go_ret2
    exact ⟨_, rfl, rfl, H2.out, OwnV.nil _⟩

theorem get_any (p : List UInt8) (slot : Nat) (w : World) (hp : p.length = 512) (hs : slot ≤ 1000000000) :
    Calls Tryz.prog 58 #[aggB p, .int .i64 slot] w fun e w' => ∃ v, e = .returned (.tuple #[v, .bool (getF p slot).isSome]) ∧ RecV w' v (getF p slot) ∧ Fresh w w' := by
  refine (get_own p slot w hp hs).mono ?_
  rintro e w' ⟨v, h1, h2, h3, _⟩
  exact ⟨v, h1, h2, h3⟩

/-- A page's rows are few. -/
theorem slotsF_end (p : List UInt8) (hp : p.length = 512) : endF (slotsF p) ≤ 1000000 := by
  have h1 : ∀ (l : List (Option (List UInt8))), (∀ r ∈ l, lenR r ≤ 512) → endF l ≤ 512 * l.length := by
    intro l
    induction l with
    | nil => intro _; simp [endF]
    | cons r l ih =>
      intro h
      have h2 := ih (fun r hr => h r (List.mem_cons_of_mem _ hr))
      have h3 := h r (List.mem_cons_self ..)
      cases r <;> simp [endF, lenR] at h3 ⊢ <;> omega
  have h2 := h1 (slotsF p) (by
    intro r hr
    simp only [slotsF, List.mem_map] at hr
    obtain ⟨i, _, rfl⟩ := hr
    unfold slotAt
    dsimp only
    split
    · simp [lenR]
    · simp [lenR, hp]; omega)
  have h3 : nslots p ≤ 124 := Nat.min_le_right _ _
  rw [slotsF_length] at h2
  omega

/-- A record added: the new page and its slot, if it fits. -/
def addF (p : List UInt8) (r : List UInt8) : Option (List UInt8) := putF (p.getD 4 0) (slotsF p) (freeF (slotsF p)) r
def AddPost (p r : List UInt8) (w : World) (e : Ending) (w' : World) : Prop :=
  Fresh w w' ∧ match addF p r with
    | none => e = .returned (.tuple #[aggB zpage, .int .i64 0, .bool false])
    | some q => e = .returned (.tuple #[aggB q, .int .i64 (freeF (slotsF p) : Nat), .bool true])
theorem putF_length (kind : UInt8) (rs : List (Option (List UInt8))) (slot : Nat) (r q : List UInt8) (h : putF kind rs slot r = some q) : q.length = 512 := by
  unfold putF at h
  split at h
  · cases h
  · rename_i hc
    cases h
    refine madeF_length _ _ ?_
    unfold costF at hc; omega
theorem getD_length (o : Option (List UInt8)) (h : ∀ q, o = some q → q.length = 512) : (o.getD zpage).length = 512 := by
  cases o with
  | none => simp
  | some q => exact h q rfl

set_option maxRecDepth 100000 in
set_option maxHeartbeats 1000000 in
theorem add_any (p : List UInt8) (v : Value) (r : List UInt8) (w : World) (hp : p.length = 512) (hv : BytesS w v r) (hrl : r.length ≤ 1000000) :
    Calls Tryz.prog 74 #[aggB p, v] w (AddPost p r w) := by
  have hal : ((addF p r).getD zpage).length = 512 := getD_length _ fun q hq => putF_length _ _ _ _ _ hq
  have HAL := Lib.hid hal
  have HV := Lib.hid hv
  have hse := slotsF_end p hp
  have hn : nslots p ≤ 124 := Nat.min_le_right _ _
  have hfl : freeF (slotsF p) ≤ nslots p := by have := freeF_le (slotsF p); rwa [slotsF_length] at this
  obtain ⟨av, cv, rfl⟩ := hv.toV.slice
  clear hv hal
  go_enter Tryz.func74, Tryz.ntmps74
  have hb1 := Blk.new w 111 (bvals p)
  have HB1 := Lib.hid hb1
  have HB := Lib.hid (hb1.alloc (.cells Tryz.zeroCells111 111))
  have hz : Blk ((w.alloc (.cells (bvals p).toArray 111)).alloc (.cells Tryz.zeroCells111 111)) (w.heap.size + 1) 111 (bvals zpage) := zeroPage ▸ Blk.newA _ _ _ (by simp)
  have HZ := Lib.hid hz
  have HF : Hid (Fresh w ((w.alloc (.cells (bvals p).toArray 111)).alloc (.cells Tryz.zeroCells111 111))) := ((Chg.refl _ _).alloc _).alloc _
  clear hb1 hz
  go_wp2_with (refine wpList_loadA rfl 111 _ rfl w.heap.size 0 rfl 111 _ HB.out 512 (bvals p) (take_all _ _ (by simp [hp])) _ Tryz.underlying111 rfl infoPage (by simp [hp]) ?_)
  generalize (w.alloc (.cells (bvals p).toArray 111)).alloc (.cells Tryz.zeroCells111 111) = w0 at *
  refine (slots_rows p _ hp).mono ?_
  rintro e1 w1 ⟨a, cap, rfl, h1, h2⟩
  have H1 := Lib.hid h1
  have HF1 := Lib.hid (HF.out.trans h2 (fun _ _ f => f))
  have HB' := Lib.hid (HB.out.chg h2 id)
  have HZ' := Lib.hid (HZ.out.chg h2 id)
  have HOWN : Hid (∀ b, OwnA a b → w.heap.size ≤ b) := by
    obtain ⟨_, vs, ho, _⟩ := h1
    intro b hb
    have := (ho.lt b (by rw [ownBlock_slice]; exact hb)).1
    have := HF.out.size; omega
  have HOT : Hid (∀ (b : Nat) (e : TypeId) (cs : List Value), Blk w1 b e cs → 23 ≠ e → ¬ OwnA a b) := by
    obtain ⟨_, vs, ho, _⟩ := h1
    intro b e cs hb hne
    have := owns_other ho hb hne; rwa [ownBlock_slice] at this
  clear h1 h2 HB HZ HF
  go_wp2_with fail
  refine (free_any _ _ _ _ _ _ H1.out (by omega)).mono ?_
  rintro e2 w2 ⟨rfl, rfl⟩
  go_wp2_with (refine wpList_loadA rfl 111 _ rfl w.heap.size 0 rfl 111 _ HB'.out 512 (bvals p) (take_all _ _ (by simp [hp])) _ Tryz.underlying111 rfl infoPage (by simp [hp]) ?_)
  refine (put_any p _ _ _ _ _ _ _ r _ hp H1.out (by omega) hse hfl (HV.out.fresh HF1.out) hrl).mono ?_
  rintro e3 w3 ⟨rfl, h3⟩
  have HF3 : Hid (Fresh w w3) := HF1.out.trans h3 (fun b hb h => by have := HOWN.out b h; omega)
  have HZ3 := Lib.hid (HZ'.out.chg h3 (HOT.out _ _ _ HZ'.out (by decide)))
  clear h3
  rw [show putF (p.getD 4 0) (slotsF p) (freeF (slotsF p)) r = addF p r from rfl]
  generalize hsl0 : freeF (slotsF p) = sl at *
  generalize hq0 : addF p r = q at *
  have HSL := Lib.hid hsl0
  have HQ := Lib.hid hq0
  clear hsl0 hq0
  cases q with
  | none =>
    simp only [Option.getD, Option.isSome] at HAL ⊢
    have hzz : Blk (w3.alloc (.cells Tryz.zeroCells111 111)) w3.heap.size 111 (bvals zpage) := zeroPage ▸ Blk.newA _ _ _ rfl
    have HZZ := Lib.hid hzz
    have HZ4 := Lib.hid (HZ3.out.alloc (.cells Tryz.zeroCells111 111))
    have hne : w.heap.size + 1 ≠ w3.heap.size := by have := HZ3.out.lt; omega
    have HF4 : Hid (Fresh w (w3.alloc (.cells Tryz.zeroCells111 111))) := HF3.out.alloc _
    have hle : w.heap.size ≤ w3.heap.size := HF3.out.size
    clear hzz
    go_wp2_with (first
      | (refine wpList_storeA rfl 111 _ _ rfl w3.heap.size 0 rfl (bvals zpage) rfl _ _ HZZ.out (infoPage' HAL.out) (by simp [HAL.out]) bvals_one ?_; intro w5 HB5 HC5)
      | (refine wpList_loadA rfl 111 _ rfl w3.heap.size 0 rfl _ _ HB5.out 512 (bvals zpage) (by rw [over_all _ _ (by simp [HAL.out])]; exact take_all _ _ (by simp [HAL.out])) _ Tryz.underlying111 rfl infoPage (by rw [over_length _ _ _ (by simp [HAL.out])]; simp) ?_)
      | (refine wpList_storeA rfl 111 _ _ rfl (w.heap.size + 1) 0 rfl (bvals zpage) rfl _ _ (HZ4.out.chg HC5.out hne) (infoPage' HAL.out) (by simp [HAL.out]) bvals_one ?_; intro w9 HB9 HC9))
    refine bodyPost_ret (results_cell_tt Tryz.results74 _ _ (w.heap.size + 1) 111 (bvals zpage) _ rfl ?_ Tryz.underlying111 rfl (infoPage' HAL.out)) rfl ?_
    · have := HB9.out
      rwa [over_all _ _ (by simp [HAL.out])] at this
    · refine ⟨(HF4.out.trans HC5.out (fun b hb e => by omega)).trans HC9.out (fun b hb e => by omega), ?_⟩
      rw [HQ.out]
      rfl
  | some q =>
    simp only [Option.getD, Option.isSome] at HAL ⊢
    have hzz : Blk (w3.alloc (.cells Tryz.zeroCells111 111)) w3.heap.size 111 (bvals zpage) := zeroPage ▸ Blk.newA _ _ _ rfl
    have HZZ := Lib.hid hzz
    have HZ4 := Lib.hid (HZ3.out.alloc (.cells Tryz.zeroCells111 111))
    have hne : w.heap.size + 1 ≠ w3.heap.size := by have := HZ3.out.lt; omega
    have HF4 : Hid (Fresh w (w3.alloc (.cells Tryz.zeroCells111 111))) := HF3.out.alloc _
    have hle : w.heap.size ≤ w3.heap.size := HF3.out.size
    clear hzz
    go_wp2_with (first
      | (refine wpList_storeA rfl 111 _ _ rfl w3.heap.size 0 rfl (bvals q) rfl _ _ HZZ.out (infoPage' HAL.out) (by simp [HAL.out]) bvals_one ?_; intro w5 HB5 HC5)
      | (refine wpList_loadA rfl 111 _ rfl w3.heap.size 0 rfl _ _ HB5.out 512 (bvals q) (by rw [over_all _ _ (by simp [HAL.out])]; exact take_all _ _ (by simp [HAL.out])) _ Tryz.underlying111 rfl infoPage (by rw [over_length _ _ _ (by simp [HAL.out])]; simp) ?_)
      | (refine wpList_storeA rfl 111 _ _ rfl (w.heap.size + 1) 0 rfl (bvals q) rfl _ _ (HZ4.out.chg HC5.out hne) (infoPage' HAL.out) (by simp [HAL.out]) bvals_one ?_; intro w9 HB9 HC9))
    refine bodyPost_ret (results_cell_tt Tryz.results74 _ _ (w.heap.size + 1) 111 (bvals q) _ rfl ?_ Tryz.underlying111 rfl (infoPage' HAL.out)) rfl ?_
    · have := HB9.out
      rwa [over_all _ _ (by simp [HAL.out])] at this
    · refine ⟨(HF4.out.trans HC5.out (fun b hb e => by omega)).trans HC9.out (fun b hb e => by omega), ?_⟩
      rw [HQ.out, HSL.out]
      rfl
end Go.Proofs.YtnmjkgnahhbnoaaGreat
