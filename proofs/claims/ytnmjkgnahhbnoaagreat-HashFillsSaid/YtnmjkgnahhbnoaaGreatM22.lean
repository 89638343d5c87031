/- Part 22 of the walks that the laws of package hash share (HashO, HashP, HashQ). -/
import Derived.Test.YtnmjkgnahhbnoaaGreatM21
import Derived.Shelf.SlSortCmp.NoneTotal
import Derived.Ground.SlsfProg
set_option linter.unusedVariables false
set_option linter.unusedSimpArgs false
/- slices.SortFunc at places: the shelf's contract at this program; the comparison that hash.Find hands over. (The first two declarations are printed by the kit's tool lay-plain.) -/
namespace Go.Proofs.YtnmjkgnahhbnoaaGreat
open Go.Shelf Go.RowKit Go.Lib Go.Sort
set_option linter.unusedSimpArgs false

def Tryz.sortRid_ren : Go.Shelf.Ren := ⟨fun | 6 => 29 | 15 => 62 | 14 => 61 | 28 => 98 | 29 => 99 | 20 => 90 | 21 => 91 | 22 => 92 | 23 => 93 | 24 => 94 | 25 => 95 | 26 => 96 | 27 => 97 | 46 => 119 | 47 => 120 | 48 => 121 | 49 => 122 | 50 => 123 | 57 => 128 | n => n, fun | 22 => 28 | 24 => 45 | 25 => 77 | 3 => 3 | 39 => 51 | 0 => 0 | 53 => 164 | 55 => 125 | 4 => 4 | 46 => 167 | 45 => 166 | 50 => 171 | 5 => 5 | 9 => 9 | 66 => 190 | 70 => 194 | 76 => 204 | 77 => 205 | n => n, fun | n => n⟩
theorem Tryz.sortRid : Go.Proofs.SlLaysF0.n6 Tryz.prog Tryz.sortRid_ren := {
  mixed := by kernel_rfl
  f6 := ⟨Tryz.f29.name, by decide, Tryz.func29.trans (congrArg some (by kernel_rfl))⟩
  f14 := ⟨Tryz.f61.name, by decide, Tryz.func61.trans (congrArg some (by kernel_rfl))⟩
  f15 := Tryz.func62.trans (congrArg some (by kernel_rfl))
  f20 := ⟨Tryz.f90.name, by decide, Tryz.func90.trans (congrArg some (by kernel_rfl))⟩
  f21 := ⟨Tryz.f91.name, by decide, Tryz.func91.trans (congrArg some (by kernel_rfl))⟩
  f22 := ⟨Tryz.f92.name, by decide, Tryz.func92.trans (congrArg some (by kernel_rfl))⟩
  f23 := ⟨Tryz.f93.name, by decide, Tryz.func93.trans (congrArg some (by kernel_rfl))⟩
  f24 := ⟨Tryz.f94.name, by decide, Tryz.func94.trans (congrArg some (by kernel_rfl))⟩
  f25 := ⟨Tryz.f95.name, by decide, Tryz.func95.trans (congrArg some (by kernel_rfl))⟩
  f26 := ⟨Tryz.f96.name, by decide, Tryz.func96.trans (congrArg some (by kernel_rfl))⟩
  f27 := ⟨Tryz.f97.name, by decide, Tryz.func97.trans (congrArg some (by kernel_rfl))⟩
  f28 := Tryz.func98.trans (congrArg some (by kernel_rfl))
  f29 := Tryz.func99.trans (congrArg some (by kernel_rfl))
  f46 := ⟨Tryz.f119.name, by decide, Tryz.func119.trans (congrArg some (by kernel_rfl))⟩
  f47 := Tryz.func120.trans (congrArg some (by kernel_rfl))
  f48 := Tryz.func121.trans (congrArg some (by kernel_rfl))
  f49 := ⟨Tryz.f122.name, by decide, Tryz.func122.trans (congrArg some (by kernel_rfl))⟩
  f50 := ⟨Tryz.f123.name, by decide, Tryz.func123.trans (congrArg some (by kernel_rfl))⟩
  f57 := ⟨Tryz.f128.name, by decide, Tryz.func128.trans (congrArg some (by kernel_rfl))⟩
  t0 := Tryz.underlying0
  a0 := Tryz.isAgg0
  z0 := Tryz.sizeOf0
  v0 := Tryz.zeroValue0
  t3 := Tryz.underlying3
  a3 := Tryz.isAgg3
  z3 := Tryz.sizeOf3
  v3 := Tryz.zeroValue3
  t4 := Tryz.underlying4
  a4 := Tryz.isAgg4
  z4 := Tryz.sizeOf4
  v4 := Tryz.zeroValue4
  t5 := Tryz.underlying5
  a5 := Tryz.isAgg5
  z5 := Tryz.sizeOf5
  v5 := Tryz.zeroValue5
  t9 := Tryz.underlying9
  a9 := Tryz.isAgg9
  z9 := Tryz.sizeOf9
  v9 := Tryz.zeroValue9
  t22 := Tryz.underlying28
  a22 := Tryz.isAgg28
  z22 := Tryz.sizeOf28
  v22 := Tryz.zeroValue28
  t25 := Tryz.underlying77
  a25 := Tryz.isAgg77
  z25 := Tryz.sizeOf77
  v25 := Tryz.zeroValue77
  t39 := Tryz.underlying51
  a39 := Tryz.isAgg51
  z39 := Tryz.sizeOf51
  v39 := Tryz.zeroValue51
  t45 := Tryz.underlying166
  a45 := Tryz.isAgg166
  z45 := Tryz.sizeOf166
  v45 := Tryz.zeroValue166
  t46 := Tryz.underlying167
  a46 := Tryz.isAgg167
  z46 := Tryz.sizeOf167
  v46 := Tryz.zeroValue167
  t50 := Tryz.underlying171
  a50 := Tryz.isAgg171
  z50 := Tryz.sizeOf171
  v50 := Tryz.zeroValue171
  t53 := Tryz.underlying164
  a53 := Tryz.isAgg164
  z53 := Tryz.sizeOf164
  v53 := Tryz.zeroValue164
  t55 := Tryz.underlying125
  a55 := Tryz.isAgg125
  z55 := Tryz.sizeOf125
  v55 := Tryz.zeroValue125
  t66 := Tryz.underlying190
  a66 := Tryz.isAgg190
  z66 := Tryz.sizeOf190
  v66 := Tryz.zeroValue190
  t70 := Tryz.underlying194
  a70 := Tryz.isAgg194
  z70 := Tryz.sizeOf194
  v70 := Tryz.zeroValue194
  t76 := Tryz.underlying204
  a76 := Tryz.isAgg204
  z76 := Tryz.sizeOf204
  v76 := Tryz.zeroValue204
  t77 := Tryz.underlying205
  a77 := Tryz.isAgg205
  z77 := Tryz.sizeOf205
  v77 := Tryz.zeroValue205 }

set_option maxHeartbeats 400000 in
theorem isNaN_any (x : Int) (w : World) : Calls Tryz.prog 63 #[.int .i64 x] w fun e w' => e = .returned (.bool false) ∧ w = w' := by
  go_enter Tryz.func63, Tryz.ntmps63
  go_wp2
  go_ret
  exact ⟨by simp, rfl⟩
set_option maxHeartbeats 400000 in
theorem compare_any (x y : Int) (w : World) : Calls Tryz.prog 32 #[.int .i64 x, .int .i64 y] w fun e w' => e = .returned (.int .i64 (compareInt x y)) ∧ w = w' := by
  have h1 : x < y → compareInt x y = -1 := fun h => by unfold compareInt; rw [if_pos h]
  have h2 : ¬ x < y → y < x → compareInt x y = 1 := fun h g => by unfold compareInt; rw [if_neg h, if_pos g]
  have h3 : ¬ x < y → ¬ y < x → compareInt x y = 0 := fun h g => by unfold compareInt; rw [if_neg h, if_neg g]
  have H1 := Lib.hid h1
  have H2 := Lib.hid h2
  have H3 := Lib.hid h3
  clear h1 h2 h3
  go_enter Tryz.func32, Tryz.ntmps32
  by_cases hxy : x < y
  · go_wp2_with (go_at_call 63; refine (isNaN_any _ _).mono ?_; rintro e w' ⟨rfl, rfl⟩)
    go_ret
    exact ⟨by rw [H1.out hxy]; rfl, rfl⟩
  · by_cases hyx : y < x
    · go_wp2_with (go_at_call 63; refine (isNaN_any _ _).mono ?_; rintro e w' ⟨rfl, rfl⟩)
      go_ret
      exact ⟨by rw [H2.out hxy hyx]; rfl, rfl⟩
    · go_wp2_with (go_at_call 63; refine (isNaN_any _ _).mono ?_; rintro e w' ⟨rfl, rfl⟩)
      go_ret
      exact ⟨by rw [H3.out hxy hyx]; rfl, rfl⟩
def orF (x y : Int) : Int := if x = 0 then y else x
set_option maxHeartbeats 400000 in
theorem or_any (g : Nat) (x y : Int) (w : World) (h0 : w.cell? ⟨g, 0, none⟩ = some (.int .i64 x)) (h1 : w.cell? ⟨g, 1, none⟩ = some (.int .i64 y)) : Calls Tryz.prog 31 #[.slice (some ⟨g, 0, none⟩) 2 2] w fun e w' => e = .returned (.int .i64 (orF x y)) ∧ w = w' := by
  go_enter Tryz.func31, Tryz.ntmps31
  go_wp2
  go_loop [8] (fun i => ∃ k : Nat, k ≤ 2 ∧ i = .int .i64 k ∧ Hid ((1 ≤ k → x = 0) ∧ (2 ≤ k → y = 0))) (fun i => 2 - (intOf i).toNat)
  case atStart => exact ⟨0, by omega, rfl, fun h => by omega, fun h => by omega⟩
  case round =>
    obtain ⟨k, hk, rfl, HZ⟩ := hrel
    have hz := HZ.out
    have HX : Hid (x = 0 → orF x y = y) := fun h => by unfold orF; rw [if_pos h]
    have HY : Hid (x ≠ 0 → orF x y = x) := fun h => by unfold orF; rw [if_neg h]
    clear hz
    match k, hk with
    | 0, _ =>
      by_cases hx : x = 0
      · have hb : (x != 0) = false := by simp [hx]
        have HXX := Lib.hid hx
        clear hx
        go_wp2
        go_round
        case rel => exact ⟨1, by omega, rfl, fun _ => HXX.out, fun h => by omega⟩
        case measure => simp [intOf]
      · have hb : (x != 0) = true := by simp [hx]
        have HXX := Lib.hid hx
        clear hx
        go_wp2
        go_ret
        exact ⟨by rw [HY.out HXX.out]; rfl, rfl⟩
    | 1, _ =>
      by_cases hy : y = 0
      · have hb : (y != 0) = false := by simp [hy]
        have HYY := Lib.hid hy
        clear hy
        go_wp2
        go_round
        case rel => exact ⟨2, by omega, rfl, fun _ => HZ.out.1 (by omega), fun _ => HYY.out⟩
        case measure => simp [intOf]
      · have hb : (y != 0) = true := by simp [hy]
        go_wp2
        go_ret
        exact ⟨by rw [HX.out (HZ.out.1 (by omega))]; rfl, rfl⟩
    | 2, _ =>
      go_wp2
      go_ret
      exact ⟨by rw [HX.out (HZ.out.1 (by omega)), HZ.out.2 (by omega)]; rfl, rfl⟩
end Go.Proofs.YtnmjkgnahhbnoaaGreat

/- The comparison of places that hash.Find hands to slices.SortFunc. -/
namespace Go.Proofs.YtnmjkgnahhbnoaaGreat
open Go.Shelf Go.RowKit Go.Lib Go.Sort
set_option linter.unusedSimpArgs false

/-- Two places compared. -/
def cmpR (x y : Nat × Nat) : Int := orF (compareInt x.1 y.1) (compareInt x.2 y.2)
def encR (x : Nat × Nat) : List Value := [.int .i64 (x.1 : Nat), .int .i64 (x.2 : Nat)]

set_option maxRecDepth 100000 in
set_option maxHeartbeats 1000000 in
theorem cmpFn_any (x y : Nat × Nat) (W : World) : Calls Tryz.prog 30 #[.agg #[.int .i64 (x.1 : Nat), .int .i64 (x.2 : Nat)], .agg #[.int .i64 (y.1 : Nat), .int .i64 (y.2 : Nat)]] W fun e w' => e = .returned (.int .i64 (cmpR x y)) ∧ ∃ q os', w' = grow (W.drewN q) os' := by
  have HPOST : Hid (orF (compareInt x.1 y.1) (compareInt x.2 y.2) = cmpR x y) := rfl
  go_enter Tryz.func30, Tryz.ntmps30
  go_wp2_with fail
  have ha : Blk ((W.alloc (.cells #[.int .i64 (x.1 : Nat), .int .i64 (x.2 : Nat)] 45)).alloc (.cells #[.int .i64 (y.1 : Nat), .int .i64 (y.2 : Nat)] 45)).drew W.heap.size 45 [.int .i64 (x.1 : Nat), .int .i64 (x.2 : Nat)] := ((Blk.newA W 45 _ rfl).alloc _).drew
  have hb : Blk ((W.alloc (.cells #[.int .i64 (x.1 : Nat), .int .i64 (x.2 : Nat)] 45)).alloc (.cells #[.int .i64 (y.1 : Nat), .int .i64 (y.2 : Nat)] 45)).drew (W.heap.size + 1) 45 [.int .i64 (y.1 : Nat), .int .i64 (y.2 : Nat)] := (Blk.newA _ 45 _ (by simp)).drew
  have hgr0 : ((W.alloc (.cells #[.int .i64 (x.1 : Nat), .int .i64 (x.2 : Nat)] 45)).alloc (.cells #[.int .i64 (y.1 : Nat), .int .i64 (y.2 : Nat)] 45)).drew = grow (W.drewN 1) #[.cells #[.int .i64 (x.1 : Nat), .int .i64 (x.2 : Nat)] 45, .cells #[.int .i64 (y.1 : Nat), .int .i64 (y.2 : Nat)] 45] := by
    rw [alloc_eq_grow, alloc_eq_grow, grow_grow]; rfl
  have HA := Lib.hid ha
  have HB := Lib.hid hb
  have HG0 := Lib.hid hgr0
  clear ha hb hgr0
  generalize hq1 : W.heap.size = q1 at *
  generalize hq2 : q1 + 1 = q2 at *
  clear hq1 hq2
  refine wp_region_held_drew (S := fun V => Fresh ((W.alloc (.cells #[.int .i64 (x.1 : Nat), .int .i64 (x.2 : Nat)] 45)).alloc (.cells #[.int .i64 (y.1 : Nat), .int .i64 (y.2 : Nat)] 45)).drew V ∧ ∃ os', V = grow ((W.alloc (.cells #[.int .i64 (x.1 : Nat), .int .i64 (x.2 : Nat)] 45)).alloc (.cells #[.int .i64 (y.1 : Nat), .int .i64 (y.2 : Nat)] 45)).drew os') (by kernel_rfl) ⟨Chg.refl _ _, #[], by rw [grow_empty]⟩ (fun hHeld => ?_)
  generalize ((W.alloc (.cells #[.int .i64 (x.1 : Nat), .int .i64 (x.2 : Nat)] 45)).alloc (.cells #[.int .i64 (y.1 : Nat), .int .i64 (y.2 : Nat)] 45)).drew = wd at *
  refine takeL 0 (.pointer (some ⟨q1, 0, none⟩)) rfl (by kernel_rfl) (by kernel_rfl) (by kernel_rfl) (fun _ _ _ h => h) (Or.inl ⟨by rfl, fun W hW => by go_simp⟩) hHeld ?_
  try simp only [Act.put, List.setIfInBounds_toArray, List.set_cons_zero, List.set_cons_succ]
  refine takeL 1 (.int .i64 x.1) rfl (by kernel_rfl) (by kernel_rfl) (by kernel_rfl) (fun _ _ _ h => h) (Or.inl ⟨by rfl, fun W hW => by have c := cells2 (HA.out.chg hW.1 id); go_simp⟩) hHeld ?_
  try simp only [Act.put, List.setIfInBounds_toArray, List.set_cons_zero, List.set_cons_succ]
  refine takeL 2 (.pointer (some ⟨q2, 0, none⟩)) rfl (by kernel_rfl) (by kernel_rfl) (by kernel_rfl) (fun _ _ _ h => h) (Or.inl ⟨by rfl, fun W hW => by go_simp⟩) hHeld ?_
  try simp only [Act.put, List.setIfInBounds_toArray, List.set_cons_zero, List.set_cons_succ]
  refine takeL 3 (.int .i64 y.1) rfl (by kernel_rfl) (by kernel_rfl) (by kernel_rfl) (fun _ _ _ h => h) (Or.inl ⟨by rfl, fun W hW => by have c := cells2 (HB.out.chg hW.1 id); go_simp⟩) hHeld ?_
  try simp only [Act.put, List.setIfInBounds_toArray, List.set_cons_zero, List.set_cons_succ]
  refine takeL 5 (.pointer (some ⟨q1, 1, none⟩)) rfl (by kernel_rfl) (by kernel_rfl) (by kernel_rfl) (fun _ _ _ h => h) (Or.inl ⟨by rfl, fun W hW => by go_simp⟩) hHeld ?_
  try simp only [Act.put, List.setIfInBounds_toArray, List.set_cons_zero, List.set_cons_succ]
  refine takeL 6 (.int .i64 x.2) rfl (by kernel_rfl) (by kernel_rfl) (by kernel_rfl) (fun _ _ _ h => h) (Or.inl ⟨by rfl, fun W hW => by have c := cells2 (HA.out.chg hW.1 id); go_simp⟩) hHeld ?_
  try simp only [Act.put, List.setIfInBounds_toArray, List.set_cons_zero, List.set_cons_succ]
  refine takeL 7 (.pointer (some ⟨q2, 1, none⟩)) rfl (by kernel_rfl) (by kernel_rfl) (by kernel_rfl) (fun _ _ _ h => h) (Or.inl ⟨by rfl, fun W hW => by go_simp⟩) hHeld ?_
  try simp only [Act.put, List.setIfInBounds_toArray, List.set_cons_zero, List.set_cons_succ]
  refine takeL 8 (.int .i64 y.2) rfl (by kernel_rfl) (by kernel_rfl) (by kernel_rfl) (fun _ _ _ h => h) (Or.inl ⟨by rfl, fun W hW => by have c := cells2 (HB.out.chg hW.1 id); go_simp⟩) hHeld ?_
  try simp only [Act.put, List.setIfInBounds_toArray, List.set_cons_zero, List.set_cons_succ]
  refine oneL 4 rfl (by kernel_rfl) (by rfl) (fun K hK => ?_)
  go_simp
  refine (compare_any x.1 y.1 _).mono ?_
  rintro e w3 ⟨rfl, rfl⟩
  refine hK.out _ _ hHeld (fun hHeld => ?_)
  clear hK K
  try simp only [Act.put, List.setIfInBounds_toArray, List.set_cons_zero, List.set_cons_succ]
  refine oneL 9 rfl (by kernel_rfl) (by rfl) (fun K hK => ?_)
  go_simp
  refine (compare_any x.2 y.2 _).mono ?_
  rintro e w3 ⟨rfl, rfl⟩
  refine hK.out _ _ hHeld (fun hHeld => ?_)
  clear hK K
  try simp only [Act.put, List.setIfInBounds_toArray, List.set_cons_zero, List.set_cons_succ]
  generalize compareInt x.1 y.1 = c1 at *
  generalize compareInt x.2 y.2 = c2 at *
  refine oneL 10 rfl (by kernel_rfl) (by rfl) (fun K hK => ?_)
  go_simp
  refine hK.out _ _ ⟨hHeld.1.alloc _, by obtain ⟨os', h⟩ := hHeld.2; exact ⟨os' ++ #[_], by rw [alloc_eq_grow]; conv => lhs; rw [h]; rw [grow_grow]⟩⟩ (fun hHeld => ?_)
  clear hK K
  try simp only [Act.put, List.setIfInBounds_toArray, List.set_cons_zero, List.set_cons_succ]
  refine oneL 11 rfl (by kernel_rfl) (by rfl) (fun K hK => ?_)
  go_simp
  refine (or_any wd.heap.size c1 c2 _ ?_ ?_).mono ?_
  · rw [(Blk.newA wd 3 #[.int .i64 c1, .int .i64 c2] rfl).cell]; rfl
  · rw [(Blk.newA wd 3 #[.int .i64 c1, .int .i64 c2] rfl).cell]; rfl
  rintro e w3 ⟨rfl, rfl⟩
  refine hK.out _ _ hHeld (fun hHeld => ?_)
  clear hK K
  try simp only [Act.put, List.setIfInBounds_toArray, List.set_cons_zero, List.set_cons_succ]
  refine takeL 12 (.int .i64 (orF c1 c2)) rfl (by kernel_rfl) (by kernel_rfl) (by kernel_rfl) (fun _ _ _ h => h) (Or.inl ⟨by rfl, fun W hW => by rfl⟩) hHeld ?_
  try simp only [Act.put, List.setIfInBounds_toArray, List.set_cons_zero, List.set_cons_succ]
  refine wpAnyH_done (by kernel_rfl) ?_ _
  obtain ⟨os', hgr⟩ := hHeld.2
  have HGR := Lib.hid hgr
  clear hHeld hgr
  go_wp2
  go_ret
  exact ⟨by rw [← HPOST.out]; rfl, 1, _, by rw [HGR.out, HG0.out, grow_grow]⟩
end Go.Proofs.YtnmjkgnahhbnoaaGreat

/- slices.SortFunc at places. -/
namespace Go.Proofs.YtnmjkgnahhbnoaaGreat
open Go.Shelf Go.RowKit Go.Lib Go.Sort
set_option linter.unusedSimpArgs false

/-- Places, as cells. -/
def ridCells (l : List (Nat × Nat)) : List Value := l.flatMap encR
theorem ridCells_len (l : List (Nat × Nat)) : (ridCells l).length = l.length * 2 := by
  induction l with
  | nil => rfl
  | cons x l ih =>
    have : ridCells (x :: l) = encR x ++ ridCells l := rfl
    rw [this, List.length_append, ih]; simp [encR]; omega
theorem ridCells_get : ∀ (l : List (Nat × Nat)) (t : Nat), t < l.length * 2 → (ridCells l)[t]? = some ((encR (l.toArray[t / 2]!))[t % 2]!)
  | [], t, h => by simp at h
  | x :: l, t, h => by
    have hc : ridCells (x :: l) = encR x ++ ridCells l := rfl
    rw [hc]
    have he : (encR x).length = 2 := rfl
    by_cases ht : t < 2
    · rw [List.getElem?_append_left (by omega)]
      match t, ht with
      | 0, _ => simp [encR]
      | 1, _ => simp [encR]
    · obtain ⟨s, rfl⟩ : ∃ s, t = s + 2 := ⟨t - 2, by omega⟩
      rw [List.getElem?_append_right (by omega), he, Nat.add_sub_cancel]
      simp only [List.length_cons] at h
      rw [ridCells_get l s (by omega), show (s + 2) / 2 = s / 2 + 1 by omega, show (s + 2) % 2 = s % 2 by omega]
      have h2 : s / 2 < l.length := by omega
      rw [getElem!_pos l.toArray (s / 2) (by simpa using h2), getElem!_pos (x :: l).toArray (s / 2 + 1) (by simpa using h2)]
      simp
theorem flatK_cells (l : List (Nat × Nat)) : (flatK encR 2 l.toArray).toList = ridCells l := by
  apply List.ext_getElem?
  intro t
  by_cases ht : t < l.length * 2
  · rw [ridCells_get l t ht]
    have h1 : t < (flatK encR 2 l.toArray).size := by simpa using ht
    rw [Array.getElem?_toList, Array.getElem?_eq_getElem h1, ← getElem!_pos _ t h1, get_flatK _ _ _ _ (by simpa using ht)]
  · rw [List.getElem?_eq_none (by simp; omega), List.getElem?_eq_none (by rw [ridCells_len]; omega)]

theorem cmpR_lt (x y : Nat × Nat) : ltOf cmpR x y = decide (x.1 < y.1 ∨ (x.1 = y.1 ∧ x.2 < y.2)) := by
  unfold ltOf cmpR orF compareInt
  obtain ⟨a, b⟩ := x
  obtain ⟨c, d⟩ := y
  simp only
  by_cases h1 : (a : Int) < c
  · rw [if_pos h1]; simp; omega
  · rw [if_neg h1]
    by_cases h2 : (a : Int) > c
    · rw [if_pos h2]; simp; omega
    · rw [if_neg h2]
      simp only [if_true]
      by_cases h3 : (b : Int) < d
      · rw [if_pos h3]; simp; omega
      · rw [if_neg h3]
        by_cases h4 : (b : Int) > d
        · rw [if_pos h4]; simp; omega
        · rw [if_neg h4]; simp; omega
theorem cmpR_swo : SWO (ltOf cmpR) where
  irrefl x := by rw [cmpR_lt]; simp
  trans x y z h1 h2 := by rw [cmpR_lt] at *; simp at *; omega
  ntrans x y z h1 h2 := by rw [cmpR_lt] at *; simp at *; omega
theorem cmpR_tot (x y : Nat × Nat) (h1 : ltOf cmpR x y = false) (h2 : ltOf cmpR y x = false) : x = y := by
  rw [cmpR_lt] at *
  obtain ⟨a, b⟩ := x
  obtain ⟨c, d⟩ := y
  simp at h1 h2
  simp; omega
/-- Places in their order. -/
def sortR (l : List (Nat × Nat)) : List (Nat × Nat) := l.mergeSort fun x y => !(ltOf cmpR) y x
theorem sortR_perm (l : List (Nat × Nat)) : (sortR l).Perm l := List.mergeSort_perm _ _
theorem sortR_eq {a b : List (Nat × Nat)} (h : a.Perm b) : sortR a = sortR b := by
  have ha := List.pairwise_mergeSort (le := fun x y => !(ltOf cmpR) y x) (fun x y z h1 h2 => by rw [cmpR_lt] at *; simp at *; omega) (fun x y => by rw [cmpR_lt, cmpR_lt]; simp; omega) a
  have hb := List.pairwise_mergeSort (le := fun x y => !(ltOf cmpR) y x) (fun x y z h1 h2 => by rw [cmpR_lt] at *; simp at *; omega) (fun x y => by rw [cmpR_lt, cmpR_lt]; simp; omega) b
  refine List.Perm.eq_of_pairwise (le := fun x y => (!(ltOf cmpR) y x) = true) ?_ ha hb ((sortR_perm a).trans (h.trans (sortR_perm b).symm))
  intro x y _ _ h1 h2
  exact cmpR_tot x y (by simpa using h2) (by simpa using h1)

theorem cmpLays_any (blk off size : Nat) (w : World) : CmpLays Tryz.prog 30 #[] encR 2 cmpR blk off size w :=
  fun _ _ _ _ x y => cmpFn_any x y _
theorem isAggRid : ∀ w, (isAgg 45).run Tryz.prog w = .ok true w := Tryz.isAgg45
theorem sizeRid : ∀ w, (Go.sizeOf 45).run Tryz.prog w = .ok 2 w := Tryz.sizeOf45

theorem owns_sorted {w : World} {base g cap n : Nat} {e : TypeId} {xs : List Value} (ho : w.ownsRow base e 2 (.slice (some ⟨g, 0, none⟩) n cap) n xs) (m : Nat) (F : Array Value) (hF : F.size = n * 2) (os : Array Obj) :
    (grow (putRow id (Sort.ahead w m) g 0 F) os).ownsRow base e 2 (.slice (some ⟨g, 0, none⟩) n cap) n F.toList ∧ Chg (· = g) w (grow (putRow id (Sort.ahead w m) g 0 F) os) := by
  have hlt := (ho.lt g rfl).2
  rcases ho.2 with ⟨hv, _⟩ | ⟨g', cap', cur, hv, hb, hg, hnc, hcm, hcs, _⟩
  · cases hv
  · simp only [Value.slice.injEq, Option.some.injEq, Addr.mk.injEq, and_true, true_and] at hv
    obtain ⟨rfl, rfl⟩ := hv
    have hheap : (putRow id (Sort.ahead w m) g 0 F).heap = w.heap.modify g (onCells (putCells id 0 F)) := rfl
    have hg2 : (grow (putRow id (Sort.ahead w m) g 0 F) os).heap[g]? = some (.cells (putCells id 0 F cur) e (0, 0)) := by
      show ((putRow id (Sort.ahead w m) g 0 F).heap ++ os)[g]? = _
      rw [hheap, Array.getElem?_append_left (by simpa using hlt), Array.getElem?_modify, if_pos rfl, hg]; rfl
    refine ⟨⟨by simp [hF], .inr ⟨g, cap, putCells id 0 F cur, rfl, hb, hg2, hnc, hcm, by simp [putCells, hcs], ?_⟩⟩, ?_⟩
    · apply List.ext_getElem?
      intro t
      rw [List.getElem?_take]
      by_cases ht : t < n * 2
      · have hcl : n * 2 ≤ cur.size := by rw [hcs]; exact Nat.mul_le_mul_right _ hnc
        rw [if_pos ht, Array.getElem?_toList, Array.getElem?_toList]
        unfold putCells
        rw [Array.getElem?_mapIdx, Array.getElem?_eq_getElem (show t < cur.size by omega)]
        simp only [Option.map_some]
        rw [if_pos (by omega), Array.getElem?_eq_getElem (show t < F.size by omega)]
        simp only [Nat.sub_zero, id_eq]
        rw [getElem!_pos F t (by omega)]
      · rw [if_neg ht, List.getElem?_eq_none (by simp [hF]; omega)]
    · refine ⟨rfl, rfl, rfl, ?_, fun k hk hne => ?_⟩
      · show w.heap.size ≤ ((putRow id (Sort.ahead w m) g 0 F).heap ++ os).size
        rw [hheap]; simp
      · show ((putRow id (Sort.ahead w m) g 0 F).heap ++ os)[k]? = _
        rw [hheap, Array.getElem?_append_left (by simpa using hk), Array.getElem?_modify, if_neg (fun e => hne e.symm)]

set_option maxHeartbeats 1000000 in
/-- The sort, at places. -/
theorem sortRids_any (g cap base : Nat) (l : List (Nat × Nat)) (w : World) (ho : w.ownsRow base 45 2 (.slice (some ⟨g, 0, none⟩) l.length cap) l.length (ridCells l)) (hl : l.length ≤ 1000000) :
    Calls Tryz.prog 29 #[.slice (some ⟨g, 0, none⟩) l.length cap, .func (.func 30) #[] #[]] w fun e w' => e = .returned (.tuple #[]) ∧ w'.ownsRow base 45 2 (.slice (some ⟨g, 0, none⟩) l.length cap) l.length (ridCells (sortR l)) ∧ Chg (· = g) w w' := by
  have eg : ∀ args w, (callFunc 30 args).run Tryz.prog w = .ok (.enter 30 args) w := enters_of Tryz.func30 (by kernel_rfl) rfl
  have hH : HoldsK encR 2 w g 0 l.toArray := by
    intro j hj
    rw [size_flatK] at hj
    have h1 : j < l.length * 2 := by simpa using hj
    refine ⟨?_, ho.frozenAt _⟩
    rw [Nat.zero_add, ho.cellAt j (by omega), ridCells_get l j h1, get_flatK _ _ _ _ (by simpa using h1)]; rfl
  have hcon := AnyQ.slices_SortFunc_total Tryz.sortRid 2 isAggRid sizeRid encR (fun _ => rfl) (fun x v hv => by simp [encR] at hv; rcases hv with rfl | rfl <;> rfl) cmpR cmpR_swo 30 #[] g 0 cap l.toArray w eg (cmpLays_any g 0 _ w) hH (ho.lt g rfl).2 (by simp; omega) cmpR_tot
  change Calls Tryz.prog 29 _ _ _ at hcon
  have hsz : l.toArray.size = l.length := by simp
  rw [hsz] at hcon
  refine hcon.mono ?_
  rintro e w' ⟨rfl, n, os, rfl⟩
  have h2 := owns_sorted ho n (flatK encR 2 (sortR l).toArray) (by simp [(sortR_perm l).length_eq]) os
  rw [flatK_cells] at h2
  exact ⟨rfl, h2.1, h2.2⟩
theorem sortNil_any (w : World) : Calls Tryz.prog 29 #[.slice none 0 0, .func (.func 30) #[] #[]] w fun e w' => e = .returned (.tuple #[]) ∧ w = w' := by
  have h := AnyF.slices_SortFunc_none Tryz.sortRid none 0 (.func (.func 30) #[] #[]) w
  change Calls Tryz.prog 29 _ _ _ at h
  exact h.mono fun _ _ h => ⟨h.1, h.2.symm⟩
end Go.Proofs.YtnmjkgnahhbnoaaGreat
