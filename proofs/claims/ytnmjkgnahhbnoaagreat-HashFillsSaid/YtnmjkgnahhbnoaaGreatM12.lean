/- Part 12 of the walks that the laws of package hash share (HeapFn2, HeapC). -/
import Derived.Test.YtnmjkgnahhbnoaaGreatM11
import Derived.Deep.LoopGhost
set_option linter.unusedVariables false
set_option linter.unusedSimpArgs false
/- A heap among the pages: plain laws. -/
namespace Go.Proofs.YtnmjkgnahhbnoaaGreat
set_option linter.unusedSimpArgs false

theorem vput_same (V : Nat → Option (List UInt8)) (n : Nat) (x : List UInt8) : vput V n x n = some x := by unfold vput; rw [if_pos rfl]
theorem vput_ne (V : Nat → Option (List UInt8)) (n k : Nat) (x : List UInt8) (h : k ≠ n) : vput V n x k = V k := by unfold vput; rw [if_neg h]
/-- The page behind the first i ones; 0: none. -/
def nextAt (L : List (Nat × Rs)) (i : Nat) : Nat := ((L[i]?).map (·.1)).getD 0
/-- The pages of a heap. -/
abbrev pagesL (L : List (Nat × Rs)) : List Nat := L.map (·.1)
/-- A heap lies among the pages. -/
structure HeapV (V : Nat → Option (List UInt8)) (N : Nat) (L : List (Nat × Rs)) : Prop where
  ne : 0 < L.length
  nodup : (pagesL L).Nodup
  pg : ∀ i m rs, L[i]? = some (m, rs) → V m = some (hpage (nextAt L (i + 1)) rs) ∧ HFit rs ∧ 1 ≤ m ∧ m < N
theorem pagesL_get {L : List (Nat × Rs)} {i m : Nat} {rs : Rs} (h : L[i]? = some (m, rs)) : m ∈ pagesL L := List.mem_map.2 ⟨_, List.mem_of_getElem? h, rfl⟩
theorem HeapV.inj {V : Nat → Option (List UInt8)} {N : Nat} {L : List (Nat × Rs)} (h : HeapV V N L) {i j m : Nat} {rs rs2 : Rs} (hi : L[i]? = some (m, rs)) (hj : L[j]? = some (m, rs2)) : i = j := by
  have h1 : (pagesL L)[i]? = some m := by simp [hi]
  have h2 : (pagesL L)[j]? = some m := by simp [hj]
  have hlt : i < (pagesL L).length := (List.getElem?_eq_some_iff.1 h1).1
  exact (List.getElem?_inj hlt h.nodup).1 (h1.trans h2.symm)
theorem HeapV.other {V V' : Nat → Option (List UInt8)} {N : Nat} {L : List (Nat × Rs)} (h : HeapV V N L) (hv : ∀ k, k ∈ pagesL L → V' k = V k) : HeapV V' N L :=
  ⟨h.ne, h.nodup, fun i m rs hi => by rw [hv m (pagesL_get hi)]; exact h.pg i m rs hi⟩
theorem HeapV.next_lt {V : Nat → Option (List UInt8)} {N : Nat} {L : List (Nat × Rs)} (h : HeapV V N L) (i : Nat) : nextAt L i < N ∧ (i < L.length → 1 ≤ nextAt L i) := by
  cases hi : L[i]? with
  | none =>
    have h0 := h.ne
    obtain ⟨m, rs⟩ := L[0]'h0
    have := List.getElem?_eq_getElem h0
    have h1 := h.pg 0 _ _ (show L[0]? = some ((L[0]'h0).1, (L[0]'h0).2) from this)
    have h2 : L.length ≤ i := List.getElem?_eq_none_iff.1 hi
    have : nextAt L i = 0 := by unfold nextAt; rw [hi]; rfl
    rw [this]
    exact ⟨by omega, fun h => by omega⟩
  | some x =>
    have h1 := h.pg i x.1 x.2 hi
    have : nextAt L i = x.1 := by unfold nextAt; rw [hi]; rfl
    rw [this]; exact ⟨h1.2.2.2, fun _ => h1.2.2.1⟩
theorem nextAt_set (L : List (Nat × Rs)) (i j m : Nat) (rs rs' : Rs) (h : L[i]? = some (m, rs)) : nextAt (L.set i (m, rs')) j = nextAt L j := by
  unfold nextAt
  rw [List.getElem?_set]
  split
  · rename_i he
    subst he
    have hlt : i < L.length := (List.getElem?_eq_some_iff.1 h).1
    rw [if_pos hlt, h]; rfl
  · rfl
theorem pagesL_set (L : List (Nat × Rs)) (i m : Nat) (rs rs' : Rs) (h : L[i]? = some (m, rs)) : pagesL (L.set i (m, rs')) = pagesL L := by
  unfold pagesL
  rw [List.map_set]
  have hlt : i < L.length := (List.getElem?_eq_some_iff.1 h).1
  have : (L.map (·.1))[i]? = some m := by simp [h]
  apply List.ext_getElem?
  intro k
  rw [List.getElem?_set]
  split
  · rename_i he
    subst he
    rw [if_pos (by simpa using hlt), this]
  · rfl
/-- A page's records changed. -/
theorem HeapV.set {V : Nat → Option (List UInt8)} {N : Nat} {L : List (Nat × Rs)} (h : HeapV V N L) {i m : Nat} {rs rs' : Rs} (hi : L[i]? = some (m, rs)) (hf : HFit rs') :
    HeapV (vput V m (hpage (nextAt L (i + 1)) rs')) N (L.set i (m, rs')) := by
  refine ⟨by rw [List.length_set]; exact h.ne, by rw [pagesL_set L i m rs rs' hi]; exact h.nodup, fun j k rk hj => ?_⟩
  rw [nextAt_set L i (j + 1) m rs rs' hi]
  by_cases hji : i = j
  · subst hji
    have hlt : i < L.length := (List.getElem?_eq_some_iff.1 hi).1
    rw [List.getElem?_set_self hlt] at hj
    cases hj
    have h1 := h.pg i _ rs hi
    exact ⟨vput_same _ _ _, hf, h1.2.2.1, h1.2.2.2⟩
  · rw [List.getElem?_set_ne hji] at hj
    have h1 := h.pg j k rk hj
    have hk : k ≠ m := fun e => by subst e; exact hji (h.inj hi hj)
    rw [vput_ne _ _ _ _ hk]; exact h1
theorem nextAt_append (L : List (Nat × Rs)) (x : Nat × Rs) (j : Nat) : nextAt (L ++ [x]) j = if j = L.length then x.1 else nextAt L j := by
  unfold nextAt
  by_cases h1 : j < L.length
  · rw [List.getElem?_append_left h1, if_neg (by omega)]
  · rw [List.getElem?_append_right (by omega)]
    by_cases h2 : j = L.length
    · rw [if_pos h2, h2]; simp
    · rw [if_neg h2, List.getElem?_eq_none (by simp; omega), List.getElem?_eq_none (by omega)]
/-- A page more. -/
theorem HeapV.grow {V : Nat → Option (List UInt8)} {N : Nat} {L : List (Nat × Rs)} (h : HeapV V N L) {i m n0 : Nat} {rs rs' : Rs} {x : List UInt8} (hi : L[i]? = some (m, rs)) (hl : i + 1 = L.length) (hf : HFit rs') (hn : 1 ≤ n0 ∧ n0 < N) (hnew : n0 ∉ pagesL L) :
    HeapV (vput (vput (vput V n0 x) m (hpage n0 rs)) n0 (hpage 0 rs')) N (L ++ [(n0, rs')]) := by
  refine ⟨by simp, ?_, fun j k rk hj => ?_⟩
  · show ((L ++ [(n0, rs')]).map (·.1)).Nodup
    rw [List.map_append, List.nodup_append]
    refine ⟨h.nodup, by simp, fun a ha b hb => ?_⟩
    simp only [List.map_cons, List.map_nil, List.mem_singleton] at hb
    subst hb; exact fun e => hnew (e ▸ ha)
  · rw [nextAt_append]
    by_cases h1 : j < L.length
    · rw [List.getElem?_append_left h1] at hj
      have h2 := h.pg j k rk hj
      have hk : k ≠ n0 := fun e => hnew (e ▸ pagesL_get hj)
      rw [vput_ne _ _ _ _ hk]
      by_cases hji : j = i
      · subst hji
        rw [hi] at hj; cases hj
        rw [vput_same, if_pos hl]
        exact ⟨rfl, h2.2.1, h2.2.2.1, h2.2.2.2⟩
      · rw [if_neg (by omega)]
        have hkm : k ≠ m := fun e => by subst e; exact hji (h.inj hj hi)
        rw [vput_ne _ _ _ _ hkm, vput_ne _ _ _ _ hk]
        exact h2
    · rw [List.getElem?_append_right (by omega)] at hj
      have hj0 : j = L.length := by
        rcases Nat.lt_or_ge L.length j with h2 | h2
        · rw [List.getElem?_eq_none (by simp; omega)] at hj; cases hj
        · omega
      subst hj0
      simp at hj
      obtain ⟨rfl, rfl⟩ := hj
      rw [vput_same, if_neg (by omega)]
      have : nextAt L (L.length + 1) = 0 := by unfold nextAt; rw [List.getElem?_eq_none (by omega)]; rfl
      rw [this]
      exact ⟨rfl, hf, hn.1, hn.2⟩

/-- The first page that takes a record. -/
def hidx (r : List UInt8) (L : List (Nat × Rs)) : Nat := L.findIdx fun x => (haddF x.2 r).isSome
/-- A heap with a record put in; n0: the page that is taken where none has room. -/
def hins (n0 : Nat) (r : List UInt8) (L : List (Nat × Rs)) : List (Nat × Rs) :=
  match L[hidx r L]? with
  | some x => L.set (hidx r L) (x.1, (haddF x.2 r).getD [])
  | none => L ++ [(n0, [some r])]
/-- The place of the record. -/
def hrid (n0 : Nat) (r : List UInt8) (L : List (Nat × Rs)) : Nat × Nat :=
  match L[hidx r L]? with
  | some x => (x.1, freeF (trimF x.2) + 1)
  | none => (n0, 1)
theorem hidx_none {r : List UInt8} {L : List (Nat × Rs)} {i m : Nat} {rs : Rs} (h : i < hidx r L) (hi : L[i]? = some (m, rs)) : haddF rs r = none := by
  have h1 := List.not_of_lt_findIdx h
  have hlt : i < L.length := (List.getElem?_eq_some_iff.1 hi).1
  have h2 : L[i] = (m, rs) := (List.getElem?_eq_some_iff.1 hi).2
  rw [h2] at h1
  simpa using h1
theorem hidx_some {r : List UInt8} {L : List (Nat × Rs)} {m : Nat} {rs : Rs} (hi : L[hidx r L]? = some (m, rs)) : ∃ rs', haddF rs r = some rs' := by
  have hlt : hidx r L < L.length := (List.getElem?_eq_some_iff.1 hi).1
  have h1 := List.findIdx_getElem (w := hlt)
  have h2 : L[hidx r L] = (m, rs) := (List.getElem?_eq_some_iff.1 hi).2
  unfold hidx at h2
  rw [h2] at h1
  exact Option.isSome_iff_exists.1 h1
theorem hidx_of {r : List UInt8} {L : List (Nat × Rs)} {i m : Nat} {rs rs' : Rs} (hle : i ≤ hidx r L) (hi : L[i]? = some (m, rs)) (ha : haddF rs r = some rs') : hidx r L = i := by
  rcases Nat.lt_or_ge i (hidx r L) with h | h
  · rw [hidx_none h hi] at ha; cases ha
  · omega
theorem hidx_step {r : List UInt8} {L : List (Nat × Rs)} {i m : Nat} {rs : Rs} (hle : i ≤ hidx r L) (hi : L[i]? = some (m, rs)) (ha : haddF rs r = none) : i + 1 ≤ hidx r L := by
  rcases Nat.lt_or_ge i (hidx r L) with h | h
  · exact h
  · have : i = hidx r L := by omega
    subst this
    obtain ⟨rs', h2⟩ := hidx_some hi
    rw [ha] at h2; cases h2
theorem hidx_le (r : List UInt8) (L : List (Nat × Rs)) : hidx r L ≤ L.length := List.findIdx_le_length
theorem hins_some {n0 : Nat} {r : List UInt8} {L : List (Nat × Rs)} {i m : Nat} {rs rs' : Rs} (hi : L[i]? = some (m, rs)) (ha : haddF rs r = some rs') (hx : hidx r L = i) :
    hins n0 r L = L.set i (m, rs') ∧ hrid n0 r L = (m, freeF (trimF rs) + 1) := by
  unfold hins hrid
  rw [hx, hi]
  simp [ha]
theorem hins_none {n0 : Nat} {r : List UInt8} {L : List (Nat × Rs)} (hx : hidx r L = L.length) : hins n0 r L = L ++ [(n0, [some r])] ∧ hrid n0 r L = (n0, 1) := by
  unfold hins hrid
  rw [hx, List.getElem?_eq_none (Nat.le_refl _)]
  exact ⟨rfl, rfl⟩
theorem hins_case {n0 : Nat} (r : List UInt8) (L : List (Nat × Rs)) : (hidx r L = L.length ∧ hins n0 r L = L ++ [(n0, [some r])] ∧ hrid n0 r L = (n0, 1)) ∨
    (∃ m rs rs', L[hidx r L]? = some (m, rs) ∧ haddF rs r = some rs' ∧ hins n0 r L = L.set (hidx r L) (m, rs') ∧ hrid n0 r L = (m, freeF (trimF rs) + 1)) := by
  cases h : L[hidx r L]? with
  | none =>
    have h1 := List.getElem?_eq_none_iff.1 h
    have h2 := hidx_le r L
    have h3 : hidx r L = L.length := by omega
    exact .inl ⟨h3, hins_none h3⟩
  | some x =>
    obtain ⟨m, rs⟩ := x
    obtain ⟨rs', h2⟩ := hidx_some h
    exact .inr ⟨m, rs, rs', rfl, h2, hins_some h h2 rfl⟩
theorem hins_pages (n0 : Nat) (r : List UInt8) (L : List (Nat × Rs)) : pagesL (hins n0 r L) = if hidx r L < L.length then pagesL L else pagesL L ++ [n0] := by
  rcases hins_case (n0 := n0) r L with ⟨h1, h2, _⟩ | ⟨m, rs, rs', h1, h2, h3, _⟩
  · rw [h2, if_neg (by omega)]; simp
  · have hlt : hidx r L < L.length := (List.getElem?_eq_some_iff.1 h1).1
    rw [h3, pagesL_set L _ m rs rs' h1, if_pos hlt]

theorem entsL_set {L : List (Nat × Rs)} {i m : Nat} {rs rs' : Rs} {E : List ((Nat × Nat) × List UInt8)} (hi : L[i]? = some (m, rs)) (hp : (ents m rs').Perm (E ++ ents m rs)) : (entsL (L.set i (m, rs'))).Perm (E ++ entsL L) := by
  induction L generalizing i with
  | nil => simp at hi
  | cons y L ih =>
    cases i with
    | zero =>
      simp only [List.getElem?_cons_zero, Option.some.injEq] at hi
      subst hi
      simp only [List.set_cons_zero, entsL_cons]
      rw [← List.append_assoc]
      exact hp.append_right _
    | succ i =>
      simp only [List.getElem?_cons_succ] at hi
      simp only [List.set_cons_succ, entsL_cons]
      refine ((ih hi).append_left _).trans ?_
      rw [← List.append_assoc, ← List.append_assoc]
      exact List.perm_append_comm.append_right _
theorem entsL_append (A B : List (Nat × Rs)) : entsL (A ++ B) = entsL A ++ entsL B := by simp [entsL]
/-- What is put in is there, beside what was there. -/
theorem hins_perm (n0 : Nat) (r : List UInt8) (L : List (Nat × Rs)) : (entsL (hins n0 r L)).Perm ((hrid n0 r L, r) :: entsL L) := by
  rcases hins_case (n0 := n0) r L with ⟨h1, h2, h3⟩ | ⟨m, rs, rs', h1, h2, h3, h4⟩
  · rw [h2, h3, entsL_append]
    exact List.perm_append_comm
  · rw [h3, h4]
    exact entsL_set (E := [_]) h1 (haddF_perm h2)
/-- A record taken out. -/
theorem entsL_drop {L : List (Nat × Rs)} {i m k : Nat} {rs : Rs} {x : List UInt8} (hi : L[i]? = some (m, rs)) (hx : rs[k]? = some (some x)) :
    (entsL L).Perm (((m, k + 1), x) :: entsL (L.set i (m, (trimF rs).set k none))) := by
  have hlt : i < L.length := (List.getElem?_eq_some_iff.1 hi).1
  have h1 : (L.set i (m, (trimF rs).set k none))[i]? = some (m, (trimF rs).set k none) := List.getElem?_set_self hlt
  have h2 := entsL_set (E := [((m, k + 1), x)]) h1 (ents_drop (m := m) hx)
  rw [List.set_set] at h2
  have h3 : L.set i (m, rs) = L := by
    apply List.ext_getElem?
    intro j
    rw [List.getElem?_set]
    split
    · rename_i he; subst he; exact hi.symm
    · rfl
  rwa [h3] at h2
theorem entsL_mem {L : List (Nat × Rs)} {e : (Nat × Nat) × List UInt8} (h : e ∈ entsL L) : ∃ (i : Nat) (rs : Rs) (k : Nat), L[i]? = some (e.1.1, rs) ∧ e.1.2 = k + 1 ∧ rs[k]? = some (some e.2) := by
  obtain ⟨x, hx, he⟩ := List.mem_flatMap.1 h
  obtain ⟨i, hi⟩ := List.getElem?_of_mem hx
  obtain ⟨h1, k, h2, h3⟩ := ents_mem he
  exact ⟨i, x.2, k, by rw [hi, h1], h2, h3⟩
end Go.Proofs.YtnmjkgnahhbnoaaGreat

/- Walks of package heap: Insert. -/
namespace Go.Proofs.YtnmjkgnahhbnoaaGreat
open Go.RowKit
set_option linter.unusedSimpArgs false

/-- Bytes that are nil, or lie in a block of which F does not speak. -/
def BytesO (w : World) (v : Value) (r : List UInt8) (F : Nat → Prop) : Prop := (v = .slice none 0 0 ∧ r = []) ∨ ∃ bb, SlB w v bb r ∧ ¬ F bb
theorem BytesO.toS {w : World} {v : Value} {r : List UInt8} {F : Nat → Prop} (h : BytesO w v r F) : BytesS w v r := by
  rcases h with h | ⟨bb, h, _⟩
  · exact .inl h
  · exact .inr ⟨bb, h⟩
theorem SlB.lt {w : World} {v : Value} {b : Nat} {l : List UInt8} (h : SlB w v b l) : b < w.heap.size := by
  obtain ⟨_, _, _, _, hb, _⟩ := h
  exact (Array.getElem?_eq_some_iff.1 hb).1
theorem BytesO.chg {w w' : World} {v : Value} {r : List UInt8} {F F' : Nat → Prop} (h : BytesO w v r F) (hc : Chg F w w') (hs : ∀ k, F' k → F k ∨ w.heap.size ≤ k) : BytesO w' v r F' := by
  rcases h with h | ⟨bb, h, hn⟩
  · exact .inl h
  · refine .inr ⟨bb, h.chg hc hn, fun hf => ?_⟩
    rcases hs bb hf with h1 | h1
    · exact hn h1
    · have := h.lt; omega
theorem BytesO.fresh {w w' : World} {v : Value} {r : List UInt8} {F : Nat → Prop} (h : BytesO w v r F) (hc : Fresh w w') : BytesO w' v r F := by
  rcases h with h | ⟨bb, h, hn⟩
  · exact .inl h
  · exact .inr ⟨bb, h.chg hc id, hn⟩
theorem BatchV.le {w : World} {b N : Nat} {T : Nat → Bool} {V : Nat → Option (List UInt8)} {F : Nat → Prop} (h : BatchV w b N T V F) : N ≤ 3200 := by
  obtain ⟨p, d, size, a, cap, L, _, hN, _, hmx, _⟩ := h; omega
theorem BatchV.to {w w1 : World} {b N : Nat} {T : Nat → Bool} {V : Nat → Option (List UInt8)} {F : Nat → Prop} (h : BatchV w1 b N T V F) (hf : Fresh w w1) : BatchTo w w1 b N T V F := ⟨F, h, fun _ hk => .inl hk, hf.fresh⟩

theorem infoRid : (Tryz.prog.info? 45).map (·.size) = some 2 := by kernel_rfl

/-- What heap.Insert leaves. -/
def InsPost (w : World) (b N : Nat) (T : Nat → Bool) (V : Nat → Option (List UInt8)) (F : Nat → Prop) (L : List (Nat × Rs)) (r : List UInt8) (n0 : Nat) (e : Ending) (w' : World) : Prop :=
  e = .returned (.tuple #[.agg #[.int .i64 ((hrid n0 r L).1 : Nat), .int .i64 ((hrid n0 r L).2 : Nat)], .int .i64 0]) ∧
  ∃ V', BatchTo w w' b N (if hidx r L < L.length then T else tput T n0 true) V' F ∧ HeapV V' N (hins n0 r L) ∧ ∀ k, k ∉ pagesL (hins n0 r L) → V' k = V k

/-- The page at hand, at the head of a round. -/
def InsI (w : World) (b N : Nat) (T : Nat → Bool) (V : Nat → Option (List UInt8)) (F : Nat → Prop) (L : List (Nat × Rs)) (r : List UInt8) (n0 q k : Nat) (v : Value) (wr : World) : Prop :=
  Blk wr q 45 [.int .i64 0, .int .i64 0] ∧
  ∃ (i m : Nat) (rs : Rs), L[i]? = some (m, rs) ∧ i ≤ hidx r L ∧
    ((k + i = L.length + 1 ∧ v = .int .i64 m ∧ BatchTo w wr b N T V F) ∨
     (i + 1 = L.length ∧ hidx r L = L.length ∧ k = 1 ∧ v = .int .i64 n0 ∧ BatchTo w wr b N (tput T n0 true) (vput (vput V n0 (hpage 0 [])) m (hpage n0 rs)) F))

/-- Behind a page's change. -/
def InsCut (w wx : World) (p : Nat) (pg : List UInt8) : Prop := Blk wx p 111 (bvals pg) ∧ Chg (· = p) w wx
/-- Where a page takes the record. -/
def InsAcc (w : World) (b N : Nat) (T : Nat → Bool) (V : Nat → Option (List UInt8)) (F : Nat → Prop) (L : List (Nat × Rs)) (r : List UInt8) (n0 : Nat) (v : Value) (wr : World) : Prop :=
  ∃ (T1 : Nat → Bool) (V1 : Nat → Option (List UInt8)) (m nx : Nat) (rs rs' : Rs), v = .int .i64 m ∧ BatchTo w wr b N T1 V1 F ∧ V1 m = some (hpage nx rs) ∧ HFit rs ∧ nx ≤ 65535 ∧ 1 ≤ m ∧ m < N ∧ haddF rs r = some rs' ∧
    ∀ wz w', BatchTo wz w' b N T1 (vput V1 m (hpage nx rs')) F → InsPost wz b N T V F L r n0 (.returned (.tuple #[.agg #[.int .i64 m, .int .i64 ((freeF (trimF rs) + 1 : Nat) : Int)], .int .i64 0])) w'
theorem InsI.acc {w : World} {b N : Nat} {T : Nat → Bool} {V : Nat → Option (List UInt8)} {F : Nat → Prop} {L : List (Nat × Rs)} {r : List UInt8} {n0 q k : Nat} {v : Value} {wr : World}
    (hN : N ≤ 3200) (hV : HeapV V N L) (hr : r.length ≤ 400) (hn : 1 ≤ n0 ∧ n0 < N) (hnew : n0 ∉ pagesL L) (h : InsI w b N T V F L r n0 q k v wr) :
    InsAcc w b N T V F L r n0 v wr ∨
    (∃ (i m : Nat) (rs : Rs), L[i]? = some (m, rs) ∧ i + 1 ≤ hidx r L ∧ haddF rs r = none ∧ k + i = L.length + 1 ∧ v = .int .i64 m ∧ BatchTo w wr b N T V F) := by
  obtain ⟨_, i, m, rs, hi, hle, h⟩ := h
  have hp := hV.pg i m rs hi
  have hnx := (hV.next_lt (i + 1)).1
  rcases h with ⟨hk, hv, hb⟩ | ⟨hl, hfull, hk, hv, hb⟩
  · cases ha : haddF rs r with
    | none => exact .inr ⟨i, m, rs, hi, hidx_step hle hi ha, ha, hk, hv, hb⟩
    | some rs' =>
      have hx := hidx_of hle hi ha
      have hlt : i < L.length := (List.getElem?_eq_some_iff.1 hi).1
      obtain ⟨h1, h2⟩ := hins_some (n0 := n0) hi ha hx
      refine .inl ⟨T, V, m, nextAt L (i + 1), rs, rs', hv, hb, hp.1, hp.2.1, by omega, hp.2.2.1, hp.2.2.2, ha, fun wz w' hw' => ?_⟩
      refine ⟨by rw [h2], _, by rw [hx, if_pos hlt]; exact hw', by rw [h1]; exact hV.set hi (haddF_fit ha), fun k hk => ?_⟩
      rw [h1, pagesL_set L i m rs rs' hi] at hk
      exact vput_ne _ _ _ _ (fun e => hk (e ▸ pagesL_get hi))
  · obtain ⟨h1, h2⟩ := hins_none (n0 := n0) hfull
    have hmn : n0 ≠ m := fun e => hnew (e ▸ pagesL_get hi)
    refine .inl ⟨_, _, n0, 0, [], [some r], hv, hb, by rw [vput_ne _ _ _ _ hmn, vput_same], HFit.nil, by omega, hn.1, hn.2, haddF_nil hr, fun wz w' hw' => ?_⟩
    refine ⟨by rw [h2]; rfl, _, by rw [hfull, if_neg (by omega)]; exact hw', by rw [h1]; exact hV.grow hi hl (haddF_fit (haddF_nil hr)) hn hnew, fun k hk => ?_⟩
    rw [h1] at hk
    simp only [pagesL, List.map_append, List.map_cons, List.map_nil, List.mem_append, List.mem_singleton, not_or] at hk
    rw [vput_ne _ _ _ _ hk.2, vput_ne _ _ _ _ (fun e => hk.1 (by rw [e]; exact pagesL_get hi)), vput_ne _ _ _ _ hk.2]

theorem InsPost.of {w w0 w' : World} {b N : Nat} {T : Nat → Bool} {V : Nat → Option (List UInt8)} {F : Nat → Prop} {L : List (Nat × Rs)} {r : List UInt8} {n0 : Nat} {e : Ending} (hf : Fresh w w0) (h : InsPost w0 b N T V F L r n0 e w') : InsPost w b N T V F L r n0 e w' := by
  obtain ⟨he, V', hb, h2⟩ := h
  exact ⟨he, V', BatchTo.trans (fun k hk => .inl hk) hf.fresh hb, h2⟩
/-- A call's change seen from an earlier world. -/
theorem BatchTo.step {w w1 w2 w3 : World} {b N : Nat} {T2 : Nat → Bool} {V2 : Nat → Option (List UInt8)} {F F1 : Nat → Prop} (h1 : ∀ k, F1 k → F k ∨ w.heap.size ≤ k) (hc : Chg F w w1) (hf : Fresh w1 w2) (h2 : BatchTo w2 w3 b N T2 V2 F1) : BatchTo w w3 b N T2 V2 F :=
  BatchTo.trans h1 (hc.trans hf (fun _ _ f => f.elim)) h2

set_option maxRecDepth 100000 in
set_option maxHeartbeats 1000000 in
theorem hinsert_any {b N n0 : Nat} {T : Nat → Bool} {V : Nat → Option (List UInt8)} {F : Nat → Prop} {L : List (Nat × Rs)} {v : Value} {r : List UInt8} (w : World) (h : BatchV w b N T V F) (hV : HeapV V N L) (hv : BytesO w v r F) (hr : r.length ≤ 400)
    (hn : 1 ≤ n0 ∧ n0 < N) (hfree : T n0 = false) (hlow : ∀ k, k < n0 → T k = true) (hnew : n0 ∉ pagesL L) :
    Calls Tryz.prog 40 #[.pointer (some ⟨b, 0, none⟩), .int .i64 (nextAt L 0 : Nat), v] w (InsPost w b N T V F L r n0) := by
  have H := Lib.hid h
  have HV := Lib.hid hV
  have HR := Lib.hid hv
  have HFR := Lib.hid hfree
  have HLO := Lib.hid hlow
  have HNW := Lib.hid hnew
  have hN := h.le
  obtain ⟨av, cv, rfl⟩ := hv.toS.toV.slice
  clear h hV hv hfree hlow hnew
  go_enter Tryz.func40, Tryz.ntmps40
  go_wp2_with (
    refine wpList_allocA rfl 45 rfl [.int .i64 0, .int .i64 0] Tryz.zeroValue45 ?_
    intro w0 HB0 HF0 HS0)
  have hq : ¬ F w.heap.size := fun hk => by have := H.out.lt hk; omega
  have HI0 : Hid (InsI w0 b N T V F L r n0 w.heap.size (L.length + 1) (.int .i64 (nextAt L 0 : Nat)) w0) := by
    have h0 := HV.out.ne
    have hx2 : L[0]? = some ((L[0]'h0).1, (L[0]'h0).2) := List.getElem?_eq_getElem h0
    refine ⟨HB0.out, 0, _, _, hx2, Nat.zero_le _, .inl ⟨rfl, ?_, (H.out.fresh HF0.out).to (Chg.refl _ _)⟩⟩
    unfold nextAt; rw [hx2]; rfl
  have HR0 := Lib.hid (HR.out.fresh HF0.out)
  have HQ0 : Hid (w.heap.size < w0.heap.size) := by show _ < _; have := HS0.out; omega
  clear HB0 HS0 HR
  generalize hqq : w.heap.size = q at *
  have HQQ := Lib.hid hqq
  clear hqq
  generalize nextAt L 0 = first at *
  go_loopg [8] (L.length + 1) (fun k n wr => InsI w0 b N T V F L r n0 q k n wr)
  case atStart => exact HI0.out
  case round =>
    clear HI0
    have HRID := Lib.hid hrel.1
    rcases hrel.acc hN HV.out hr hn HNW.out with ⟨T1, V1, m, nx, rs, rs', rfl, hb, hv1, hf, hnx, hm1, hm2, ha, hfin⟩ | ⟨i, m, rs, hi, hle, ha, hk, rfl, hb⟩
    · obtain ⟨F1, hbv, hs, hc⟩ := hb
      have HBV := Lib.hid hbv
      have HSS := Lib.hid hs
      have HC := Lib.hid hc
      have HV1 := Lib.hid hv1
      have HFIN := Lib.hid hfin
      have HAD : Hid (addF (hpage nx rs) r = some (hpage nx rs') ∧ freeF (slotsF (hpage nx rs)) = freeF (trimF rs) + 1) := by
        obtain ⟨h1, h2⟩ := addF_hpage (next := nx) r hf
        exact ⟨by rw [h1, ha]; rfl, h2⟩
      have HF := Lib.hid hf
      have HPL : Hid ((hpage nx rs).length = 512) := (hpage_slots hf).2.2
      have HPL2 : Hid ((hpage nx rs').length = 512) := (hpage_slots (haddF_fit ha)).2.2
      have HRR := Lib.hid (HR0.out.chg hc hs)
      have hqF : ¬ F1 q := fun hk => by rcases hs q hk with h1 | h1; exact hq h1; have := HQ0.out; omega
      clear hbv hs hc hv1 hfin hf hrel ha
      go_wp2_with fail
      refine (hread_any wr HBV.out hm1 HV1.out HF.out hnx).mono ?_
      rintro e w1 ⟨rfl, hf1⟩
      have HF1 := Lib.hid hf1
      clear hf1
      generalize hpage nx rs = pg at *
      generalize hpage nx rs' = pg2 at *
      go_wp2_with (first
        | (refine wpList_allocA rfl 111 rfl (bvals zpage) Tryz.zeroValue111 ?_
           intro w2 HB2 HF2 HS2)
        | (refine wpList_storeA rfl 111 _ _ rfl w1.heap.size 0 rfl (bvals pg) rfl _ _ HB2.out (infoPage' HPL.out) (by simp [HPL.out]) bvals_one ?_
           intro w3 HB3 HC3
           have hb3 := HB3.out
           rw [over_all _ _ (by simp [HPL.out])] at hb3
           have HP3 := Lib.hid hb3
           clear hb3)
        | (refine wpList_loadA rfl 111 _ rfl w1.heap.size 0 rfl _ _ HP3.out 512 (bvals pg) (take_all _ _ (by simp [HPL.out])) _ Tryz.underlying111 rfl infoPage (by simp [HPL.out]) ?_))
      have hf13 : Fresh w1 w3 := HF2.out.trans HC3.out (fun k hk e => by omega)
      have HF3 := Lib.hid (HF1.out.trans hf13 (fun _ _ f => f))
      clear hf13
      refine (add_any pg _ r w3 HPL.out (HRR.out.fresh HF3.out).toS (by omega)).mono ?_
      rintro e w4 ⟨hf4, he⟩
      rw [HAD.out.1, HAD.out.2] at he
      obtain rfl := he
      have HF4 := Lib.hid (HF3.out.trans hf4 (fun _ _ f => f))
      have HBV4 := Lib.hid (HBV.out.fresh HF4.out)
      have HRID4 := Lib.hid (HRID.out.chg HF4.out id)
      clear hf4 HB2 HF2 HS2 HB3 HC3 HP3 HF3 HF1 HBV HRID
      generalize freeF (trimF rs) + 1 = slot at *
      go_wp2_with (first
        | (refine wpList_allocA rfl 111 rfl (bvals zpage) Tryz.zeroValue111 ?_
           intro w5 HB5 HF5 HS5)
        | (refine wpList_storeA rfl 111 _ _ rfl w4.heap.size 0 rfl (bvals pg2) rfl _ _ HB5.out (infoPage' HPL2.out) (by simp [HPL2.out]) bvals_one ?_
           intro w6 HB6 HC6
           have hb6 := HB6.out
           rw [over_all _ _ (by simp [HPL2.out])] at hb6
           have HP6 := Lib.hid hb6
           clear hb6)
        | (refine wpList_loadA rfl 111 _ rfl w4.heap.size 0 rfl _ _ HP6.out 512 (bvals pg2) (take_all _ _ (by simp [HPL2.out])) _ Tryz.underlying111 rfl infoPage (by simp [HPL2.out]) ?_))
      have hf46 : Fresh w4 w6 := HF5.out.trans HC6.out (fun k hk e => by omega)
      have HF6 := Lib.hid (HF4.out.trans hf46 (fun _ _ f => f))
      have HBV6 := Lib.hid (HBV4.out.fresh hf46)
      have HRID6 := Lib.hid (HRID4.out.chg hf46 id)
      clear hf46 HF4 HBV4 HRID4
      refine (bv_write HBV6.out ⟨hm1, hm2⟩ HPL2.out).mono ?_
      rintro e w7 ⟨rfl, hb7⟩
      have HB7 := Lib.hid (BatchTo.step HSS.out HC.out HF6.out hb7)
      obtain ⟨_, _, _, hc7⟩ := hb7
      have HRID7 := Lib.hid (HRID6.out.chg hc7 hqF)
      clear HSS HC HF6 HBV6 HRID6
      go_wp2_with (
        refine wpList_storeA rfl 45 _ _ rfl q 0 rfl [.int .i64 m, .int .i64 slot] rfl _ _ HRID7.out infoRid (by simp) (by simp [Value.oneCell']) ?_
        intro w8 HB8 HC8)
      refine bodyPost_ret (results_cell_t Tryz.results40 _ _ q 45 [.int .i64 m, .int .i64 slot] _ rfl HB8.out Tryz.underlying45 rfl infoRid) rfl ?_
      obtain ⟨F2, hbv7, hs7, hc7'⟩ := HB7.out
      have hqF2 : ¬ F2 q := fun hk => by
        rcases hs7 q hk with h1 | h1
        · exact hq h1
        · have := HQ0.out; omega
      exact HFIN.out w w8 ⟨F2, hbv7.chg HC8.out (fun k hk e => hqF2 (by rw [← e]; exact hk)), fun k hk => by
        rcases hs7 k hk with h1 | h1
        · exact .inl h1
        · have := HF0.out.size; exact .inr (by omega), (HF0.out.fresh.trans hc7' (fun _ _ h => h)).trans HC8.out (fun k hk e => by have := HQQ.out; omega)⟩
    · obtain ⟨F1, hbv, hs, hc⟩ := hb
      have HBV := Lib.hid hbv
      have HSS := Lib.hid hs
      have HC := Lib.hid hc
      obtain ⟨hvm, hf, hm1, hm2⟩ := HV.out.pg i m rs hi
      have HVM := Lib.hid hvm
      have HAD : Hid (addF (hpage (nextAt L (i + 1)) rs) r = none) := by
        show _ = _
        rw [(addF_hpage (next := nextAt L (i + 1)) r hf).1, ha]; rfl
      have HF := Lib.hid hf
      have HPL : Hid ((hpage (nextAt L (i + 1)) rs).length = 512) := (hpage_slots hf).2.2
      have HSET : Hid (∀ k, setpF (hpage (nextAt L (i + 1)) rs) 0 (numB k) = some (hpage k rs)) := fun k => setpF_next hf
      have HRR := Lib.hid (HR0.out.chg hc hs)
      have hqF : ¬ F1 q := fun hk => by rcases hs q hk with h1 | h1; exact hq h1; have := HQ0.out; omega
      have HK := Lib.hid hk
      have HI := Lib.hid hi
      have HLE := Lib.hid hle
      have HNX := Lib.hid (HV.out.next_lt (i + 1))
      have hnx : nextAt L (i + 1) ≤ 65535 := by have := HNX.out.1; omega
      clear hbv hs hc hvm hf hrel ha hk hi hle
      go_wp2_with fail
      refine (hread_any wr HBV.out hm1 HVM.out HF.out hnx).mono ?_
      rintro e w1 ⟨rfl, hf1⟩
      have HF1 := Lib.hid hf1
      clear hf1
      generalize hpg : hpage (nextAt L (i + 1)) rs = pg at *
      generalize hnx2 : nextAt L (i + 1) = nx at *
      have HNX2 := Lib.hid hnx2
      clear hpg hnx2
      go_wp2_with (first
        | (refine wpList_allocA rfl 111 rfl (bvals zpage) Tryz.zeroValue111 ?_
           intro w2 HB2 HF2 HS2)
        | (refine wpList_storeA rfl 111 _ _ rfl w1.heap.size 0 rfl (bvals pg) rfl _ _ HB2.out (infoPage' HPL.out) (by simp [HPL.out]) bvals_one ?_
           intro w3 HB3 HC3
           have hb3 := HB3.out
           rw [over_all _ _ (by simp [HPL.out])] at hb3
           have HP3 := Lib.hid hb3
           clear hb3)
        | (refine wpList_loadA rfl 111 _ rfl w1.heap.size 0 rfl _ _ HP3.out 512 (bvals pg) (take_all _ _ (by simp [HPL.out])) _ Tryz.underlying111 rfl infoPage (by simp [HPL.out]) ?_))
      have hf13 : Fresh w1 w3 := HF2.out.trans HC3.out (fun k hk e => by omega)
      have HF3 := Lib.hid (HF1.out.trans hf13 (fun _ _ f => f))
      clear hf13
      refine (add_any pg _ r w3 HPL.out (HRR.out.fresh HF3.out).toS (by omega)).mono ?_
      rintro e w4 ⟨hf4, he⟩
      rw [HAD.out] at he
      obtain rfl := he
      have HF4 := Lib.hid (HF3.out.trans hf4 (fun _ _ f => f))
      have HBV4 := Lib.hid (HBV.out.fresh HF4.out)
      have HRID4 := Lib.hid (HRID.out.chg HF4.out id)
      have HP4 := Lib.hid (HP3.out.chg hf4 id)
      have hp9 : wr.heap.size ≤ w1.heap.size := HF1.out.size
      have hpF : ¬ F1 w1.heap.size := fun hk => by have := HBV.out.lt hk; omega
      have hpq : q ≠ w1.heap.size := by have := HRID.out.lt; omega
      clear hf4 HB2 HF2 HS2 HB3 HC3 HP3 HF3 HF1 HBV HRID
      generalize w1.heap.size = p9 at *
      have hzp : (bvals zpage).length = 512 := by simp
      rcases Nat.eq_zero_or_pos nx with hz | hz
      · subst hz
        have hll : i + 1 = L.length := by
          have h1 : i < L.length := (List.getElem?_eq_some_iff.1 HI.out).1
          rcases Nat.lt_or_ge (i + 1) L.length with h2 | h2
          · have := HNX.out.2 h2; omega
          · omega
        go_wp2_with (first
          | (refine wpList_allocA rfl 111 rfl (bvals zpage) Tryz.zeroValue111 ?_
             intro w5 HB5 HF5 HS5)
          | (refine wpList_storeA rfl 111 _ _ rfl w4.heap.size 0 rfl (bvals zpage) rfl _ _ HB5.out (infoPage' zpage_length) (by simp) bvals_one ?_
             intro w6 HB6 HC6))
        have hf46 : Fresh w4 w6 := HF5.out.trans HC6.out (fun k hk e => by omega)
        have HF6 := Lib.hid (HF4.out.trans hf46 (fun _ _ f => f))
        have HBV6 := Lib.hid (HBV4.out.fresh hf46)
        have HRID6 := Lib.hid (HRID4.out.chg hf46 id)
        have HP6 := Lib.hid (HP4.out.chg hf46 id)
        clear hf46 HB5 HF5 HS5 HB6 HC6 HF4 HBV4 HRID4 HP4
        refine (hmake_any w6 HBV6.out hn.2 HFR.out HLO.out).mono ?_
        rintro e w7 ⟨rfl, F2, hbv7, hs7, hc7⟩
        have HBV7 := Lib.hid hbv7
        have HS7 : Hid (∀ k, F2 k → F k ∨ w0.heap.size ≤ k) := fun k hk => by
          rcases hs7 k hk with h1 | h1
          · exact HSS.out k h1
          · have := HC.out.size; have := HF6.out.size; omega
        have hqF2 : ¬ F2 q := fun hk => by
          rcases HS7.out q hk with h1 | h1
          · exact hq h1
          · have := HQ0.out; omega
        have hpF2 : ¬ F2 p9 := fun hk => by
          rcases hs7 p9 hk with h1 | h1
          · exact hpF h1
          · have := HP6.out.lt; omega
        have HC7 := Lib.hid ((HC.out.trans HF6.out (fun _ _ f => f.elim)).trans hc7 (fun k hk h => by rcases HSS.out k h with h1 | h1; exact h1; omega))
        have HRID7 := Lib.hid (HRID6.out.chg hc7 hqF)
        have HP7 := Lib.hid (HP6.out.chg hc7 hpF)
        have HPL2 : Hid ((hpage n0 rs).length = 512) := (hpage_slots HF.out).2.2
        have hn65 : n0 ≤ 65535 := by omega
        clear hbv7 hs7 hc7 HF6 HBV6 HRID6 HP6
        go_wp2_with fail
        go_cut [] from 63 to 69 (fun wx => InsCut w7 wx p9 (hpage n0 rs))
        case first =>
          refine wp_region_any (by kernel_rfl) ?_
          change wpAny _ _ _ _ _ _ _ w7.drew
          have HPD := Lib.hid HP7.out.drew
          have HFD : Hid (Fresh w7 w7.drew) := (Chg.refl _ w7).drew
          generalize w7.drew = wd at *
          refine takeA 1 (.int .i64 n0) rfl (by kernel_rfl) (by kernel_rfl) (by kernel_rfl) (fun _ _ _ h => h) (Or.inl ⟨by rfl, fun w => by rfl⟩) ?_
          try simp only [Act.put, List.setIfInBounds_toArray, List.set_cons_zero, List.set_cons_succ]
          refine twoA 0 2 rfl rfl (by kernel_rfl) (by rfl) (by rfl) (fun K hK => ?_) (fun K hK => ?_)
          · refine wp_loadM 111 _ rfl p9 0 rfl _ _ HPD.out 512 (bvals pg) (take_all _ _ (by simp [HPL.out])) _ Tryz.underlying111 rfl infoPage (by simp [HPL.out]) ?_
            refine hK.out _ _ ?_
            clear hK K
            try simp only [Act.put, List.setIfInBounds_toArray, List.set_cons_zero, List.set_cons_succ]
            refine oneA 2 rfl (by kernel_rfl) (by rfl) (fun K hK => ?_)
            go_simp
            refine (hnumber_any n0 _ (by omega)).mono ?_
            rintro e w8 ⟨rfl, hb8, hf8⟩
            have HN8 := Lib.hid hb8
            have HF8 := Lib.hid (HFD.out.trans hf8 (fun _ _ f => f))
            have HP8 := Lib.hid (HPD.out.chg hf8 id)
            clear hb8 hf8
            refine hK.out _ _ ?_
            clear hK K
            try simp only [Act.put, List.setIfInBounds_toArray, List.set_cons_zero, List.set_cons_succ]
            refine oneA 3 rfl (by kernel_rfl) (by rfl) (fun K hK => ?_)
            go_simp
            refine (set_any pg 0 _ (numB n0) _ HPL.out (by omega) (HN8.out.bytesS 2 rfl 2) (by simp [numB])).mono ?_
            rintro e w9 ⟨hf9, rfl⟩
            rw [HSET.out n0]
            have HP9 := Lib.hid (HP8.out.chg hf9 id)
            have HF9 := Lib.hid (HF8.out.trans hf9 (fun _ _ f => f))
            refine hK.out _ _ ?_
            clear hK K hf9 HN8 HP8 HF8
            generalize hpage n0 rs = pg2 at *
            simp only [Option.getD_some, Option.isSome_some]
            try simp only [Act.put, List.setIfInBounds_toArray, List.set_cons_zero, List.set_cons_succ]
            refine takeA 4 (.tuple #[aggB pg2, .bool true]) rfl (by kernel_rfl) (by kernel_rfl) (by kernel_rfl) (fun _ _ _ h => h) (Or.inl ⟨by rfl, fun w => by rfl⟩) ?_
            try simp only [Act.put, List.setIfInBounds_toArray, List.set_cons_zero, List.set_cons_succ]
            refine takeA 5 (aggB pg2) rfl (by kernel_rfl) (by kernel_rfl) (by kernel_rfl) (fun _ _ _ h => h) (Or.inl ⟨by rfl, fun w => by rfl⟩) ?_
            try simp only [Act.put, List.setIfInBounds_toArray, List.set_cons_zero, List.set_cons_succ]
            refine takeA 6 (.bool true) rfl (by kernel_rfl) (by kernel_rfl) (by kernel_rfl) (fun _ _ _ h => h) (Or.inl ⟨by rfl, fun w => by rfl⟩) ?_
            try simp only [Act.put, List.setIfInBounds_toArray, List.set_cons_zero, List.set_cons_succ]
            refine oneA 7 rfl (by kernel_rfl) (by rfl) (fun K hK => ?_)
            refine wp_storeA 111 _ _ rfl p9 0 rfl (bvals pg2) rfl _ _ HP9.out (infoPage' HPL2.out) (by simp [HPL.out, HPL2.out]) bvals_one ?_
            intro w10 HB10 HC10
            refine hK.out _ _ ?_
            clear hK K
            try simp only [Act.put, List.setIfInBounds_toArray, List.set_cons_zero, List.set_cons_succ]
            refine wpAny_done (by kernel_rfl) ?_ _
            go_wp2
            go_meet
            case rel =>
              have hb10 := HB10.out
              rw [over_all _ _ (by simp [HPL.out, HPL2.out])] at hb10
              exact ⟨hb10, HF9.out.fresh.trans HC10.out (fun _ _ h => h)⟩
          · go_simp
            refine (hnumber_any n0 _ (by omega)).mono ?_
            rintro e w8 ⟨rfl, hb8, hf8⟩
            have HN8 := Lib.hid hb8
            have HF8 := Lib.hid (HFD.out.trans hf8 (fun _ _ f => f))
            have HP8 := Lib.hid (HPD.out.chg hf8 id)
            clear hb8 hf8
            refine hK.out _ _ ?_
            clear hK K
            try simp only [Act.put, List.setIfInBounds_toArray, List.set_cons_zero, List.set_cons_succ]
            refine oneA 0 rfl (by kernel_rfl) (by rfl) (fun K hK => ?_)
            refine wp_loadM 111 _ rfl p9 0 rfl _ _ HP8.out 512 (bvals pg) (take_all _ _ (by simp [HPL.out])) _ Tryz.underlying111 rfl infoPage (by simp [HPL.out]) ?_
            refine hK.out _ _ ?_
            clear hK K
            try simp only [Act.put, List.setIfInBounds_toArray, List.set_cons_zero, List.set_cons_succ]
            refine oneA 3 rfl (by kernel_rfl) (by rfl) (fun K hK => ?_)
            go_simp
            refine (set_any pg 0 _ (numB n0) _ HPL.out (by omega) (HN8.out.bytesS 2 rfl 2) (by simp [numB])).mono ?_
            rintro e w9 ⟨hf9, rfl⟩
            rw [HSET.out n0]
            have HP9 := Lib.hid (HP8.out.chg hf9 id)
            have HF9 := Lib.hid (HF8.out.trans hf9 (fun _ _ f => f))
            refine hK.out _ _ ?_
            clear hK K hf9 HN8 HP8 HF8
            generalize hpage n0 rs = pg2 at *
            simp only [Option.getD_some, Option.isSome_some]
            try simp only [Act.put, List.setIfInBounds_toArray, List.set_cons_zero, List.set_cons_succ]
            refine takeA 4 (.tuple #[aggB pg2, .bool true]) rfl (by kernel_rfl) (by kernel_rfl) (by kernel_rfl) (fun _ _ _ h => h) (Or.inl ⟨by rfl, fun w => by rfl⟩) ?_
            try simp only [Act.put, List.setIfInBounds_toArray, List.set_cons_zero, List.set_cons_succ]
            refine takeA 5 (aggB pg2) rfl (by kernel_rfl) (by kernel_rfl) (by kernel_rfl) (fun _ _ _ h => h) (Or.inl ⟨by rfl, fun w => by rfl⟩) ?_
            try simp only [Act.put, List.setIfInBounds_toArray, List.set_cons_zero, List.set_cons_succ]
            refine takeA 6 (.bool true) rfl (by kernel_rfl) (by kernel_rfl) (by kernel_rfl) (fun _ _ _ h => h) (Or.inl ⟨by rfl, fun w => by rfl⟩) ?_
            try simp only [Act.put, List.setIfInBounds_toArray, List.set_cons_zero, List.set_cons_succ]
            refine oneA 7 rfl (by kernel_rfl) (by rfl) (fun K hK => ?_)
            refine wp_storeA 111 _ _ rfl p9 0 rfl (bvals pg2) rfl _ _ HP9.out (infoPage' HPL2.out) (by simp [HPL.out, HPL2.out]) bvals_one ?_
            intro w10 HB10 HC10
            refine hK.out _ _ ?_
            clear hK K
            try simp only [Act.put, List.setIfInBounds_toArray, List.set_cons_zero, List.set_cons_succ]
            refine wpAny_done (by kernel_rfl) ?_ _
            go_wp2
            go_meet
            case rel =>
              have hb10 := HB10.out
              rw [over_all _ _ (by simp [HPL.out, HPL2.out])] at hb10
              exact ⟨hb10, HF9.out.fresh.trans HC10.out (fun _ _ h => h)⟩

        case rest =>
          obtain ⟨hpc, hcc⟩ := hcut
          have HPC := Lib.hid hpc
          have HBVC := Lib.hid (HBV7.out.chg hcc (fun k hk e => hpF2 (by rw [← e]; exact hk)))
          have HCC := Lib.hid (HC7.out.trans hcc (fun k hk e => by have := HC.out.size; omega))
          have HRIDC := Lib.hid (HRID7.out.chg hcc hpq)
          clear hpc hcc HBV7 HC7 HRID7 HP7
          generalize hpg2 : hpage n0 rs = pg2 at *
          have HPG2 := Lib.hid hpg2
          clear hpg2
          go_wp2_with (refine wpList_loadA rfl 111 _ rfl p9 0 rfl _ _ HPC.out 512 (bvals pg2) (take_all _ _ (by simp [HPL2.out])) _ Tryz.underlying111 rfl infoPage (by simp [HPL2.out]) ?_)
          refine (bv_write HBVC.out ⟨hm1, hm2⟩ HPL2.out).mono ?_
          rintro e w8 ⟨rfl, hb8⟩
          have HB8 := Lib.hid (BatchTo.trans HS7.out HCC.out hb8)
          obtain ⟨_, _, _, hc8⟩ := hb8
          have HRID8 := Lib.hid (HRIDC.out.chg hc8 hqF2)
          clear hc8 HBVC HCC HRIDC
          go_wp2
          go_roundg 1
          case rel => exact ⟨HRID8.out, i, m, rs, HI.out, by have := HLE.out; omega, .inr ⟨hll, by have := HLE.out; have := hidx_le r L; omega, rfl, rfl, by rw [HPG2.out]; exact HB8.out⟩⟩
          case measure => have := HK.out; omega
      · have hz2 : ((nx : Int) == 0) = false := by rw [beq_eq_false_iff_ne]; omega
        go_wp2_with (first
          | (refine wpList_allocA rfl 111 rfl (bvals zpage) Tryz.zeroValue111 ?_
             intro w5 HB5 HF5 HS5)
          | (refine wpList_storeA rfl 111 _ _ rfl w4.heap.size 0 rfl (bvals zpage) rfl _ _ HB5.out (infoPage' zpage_length) (by simp) bvals_one ?_
             intro w6 HB6 HC6))
        have hf46 : Fresh w4 w6 := HF5.out.trans HC6.out (fun k hk e => by omega)
        have hlt : i + 1 < L.length := by
          rcases Nat.lt_or_ge (i + 1) L.length with h1 | h1
          · exact h1
          · have h2 := HNX2.out
            unfold nextAt at h2
            rw [List.getElem?_eq_none h1] at h2
            simp at h2; omega
        go_roundg (L.length - i)
        case rel =>
          have hx2 : L[i + 1]? = some ((L[i + 1]'hlt).1, (L[i + 1]'hlt).2) := List.getElem?_eq_getElem hlt
          have hx3 : (L[i + 1]'hlt).1 = nx := by
            have := HNX2.out
            unfold nextAt at this
            rw [hx2] at this
            simpa using this
          rw [hx3] at hx2
          have := HK.out
          exact ⟨HRID4.out.chg hf46 id, i + 1, nx, _, hx2, HLE.out, .inl ⟨by omega, rfl, F1, HBV4.out.fresh hf46, HSS.out, (HC.out.trans HF4.out (fun _ _ f => f.elim)).trans hf46 (fun _ _ f => f.elim)⟩⟩
        case measure => have := HK.out; omega
end Go.Proofs.YtnmjkgnahhbnoaaGreat
