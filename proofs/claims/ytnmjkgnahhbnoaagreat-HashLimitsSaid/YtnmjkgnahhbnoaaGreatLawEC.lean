/- The laws: HashLimits. -/
import Derived.Test.YtnmjkgnahhbnoaaGreatM24
set_option linter.unusedVariables false
set_option linter.unusedSimpArgs false
namespace Go.Proofs.YtnmjkgnahhbnoaaGreat
open Go.RowKit
set_option linter.unusedSimpArgs false

theorem keysBytes {w : World} {b n : Nat} {l : List UInt8} (h : Blk w b 5 (bvals l)) (hn : n = l.length) : BytesV w (.slice (some ⟨b, 0, none⟩) n n) l := by
  subst hn; exact bytesV_blk h
theorem RidsS.block {w : World} {base g n c : Nat} {l : List (Nat × Nat)} (h : RidsS w base (.slice (some ⟨g, 0, none⟩) n c) l) : base ≤ g ∧ g < w.heap.size := by
  obtain ⟨hl, ⟨h1, h0⟩ | ⟨g', cap, cur, h1, hb, hg, hc1, hc2, hc3, hc4⟩⟩ := h
  · cases h1
  · cases h1
    refine ⟨hb, ?_⟩
    rcases Nat.lt_or_ge g w.heap.size with h2 | h2
    · exact h2
    · rw [Array.getElem?_eq_none h2] at hg; cases hg
theorem Chg.rangeAt {F : Nat → Prop} {w w1 : World} {b o : Nat} {cs : List Value} (hc : Chg F w w1) (h : w.rangeAt b o cs) (hf : ¬ F b) : w1.rangeAt b o cs := fun j v hj => hc.cell (h j v hj) hf
theorem ix_nil {K : Nat → Prop} {w : World} {b root : Nat} (h : Ix K w b 600 root (idxC [] false (min ([] : List (List UInt8)).length 60) (min ([] : List (List UInt8)).length 60)) (min ([] : List (List UInt8)).length 60)) : Ix K w b 600 root [] 0 := h

set_option maxRecDepth 100000 in
set_option maxHeartbeats 8000000 in
theorem limits_long (a p s : Int) (m : Nat) (w : World) (ha : 0 ≤ a ∧ a ≤ 255) (hm : (m : Int) = 138 + a % 5) (hl : 140 < m) :
    Calls Tryz.prog 5 #[.int .u8 a, .int .i64 p, .int .i64 s] w fun e w' => e = .returned (.bool true) ∧ Fresh w w' := by
  go_enter Tryz.func5, Tryz.ntmps5
  go_wp2_with fail
  refine (awake_any _).mono ?_
  rintro e w1 ⟨rfl, f1⟩
  go_wp2_with fail
  refine (index_any _ [] false _ (KeysV.nil _)).mono ?_
  rintro e w2 ⟨b, root, rfl, hi2, f2⟩
  have HI2 := Lib.hid (ix_nil hi2)
  have HF2 : Hid (Fresh w w2) := f1.trans f2 (fun _ _ h => h)
  have z1 := f1.size
  clear hi2 f1 f2
  go_wp2_with (first
    | (refine wpList_makeB rfl _ _ rfl m (congrArg (Value.int .i64) (by omega)) (congrArg (Value.int .i64) (by omega)) (by omega) ?_
       intro w3 HB3 HF3)
    | fail)
  all_goals
    refine (hhinsert_long b _ _ m m p s w3 hl).mono ?_
    rintro e w4 ⟨rfl, f4⟩
    go_wp2_with fail
    refine (hhdelete_long b _ _ m m 0 0 w4 hl).mono ?_
    rintro e w5 ⟨rfl, f5⟩
    go_wp2
    go_ret
    exact ⟨rfl, ((HF2.out.trans HF3.out (fun _ _ h => h)).trans f4 (fun _ _ h => h)).trans f5 (fun _ _ h => h)⟩

set_option maxRecDepth 100000 in
set_option maxHeartbeats 8000000 in
theorem limits_bad (a p s : Int) (m : Nat) (w : World) (ha : 0 ≤ a ∧ a ≤ 255) (hm : (m : Int) = 138 + a % 5) (hl : m ≤ 140) (hbad : ¬ (0 ≤ p ∧ p ≤ 65535 ∧ 0 ≤ s ∧ s ≤ 65535)) :
    Calls Tryz.prog 5 #[.int .u8 a, .int .i64 p, .int .i64 s] w fun e w' => e = .returned (.bool true) ∧ Fresh w w' := by
  have HBAD := Lib.hid hbad
  have hcase : p < 0 ∨ (0 ≤ p ∧ 65535 < p) ∨ ((0 ≤ p ∧ p ≤ 65535) ∧ s < 0) ∨ ((0 ≤ p ∧ p ≤ 65535) ∧ 0 ≤ s ∧ 65535 < s) := by omega
  clear hbad
  go_enter Tryz.func5, Tryz.ntmps5
  go_wp2_with fail
  refine (awake_any _).mono ?_
  rintro e w1 ⟨rfl, f1⟩
  go_wp2_with fail
  refine (index_any _ [] false _ (KeysV.nil _)).mono ?_
  rintro e w2 ⟨b, root, rfl, hi2, f2⟩
  have HI2 := Lib.hid (ix_nil hi2)
  have HF2 : Hid (Fresh w w2) := f1.trans f2 (fun _ _ h => h)
  have z1 := f1.size
  clear hi2 f1 f2
  rcases hcase with hc | hc | hc | hc
  case' inr.inr.inr => have hd : decide (s ≤ 65535) = false := by simp; omega
  all_goals go_wp2_with (first
    | (refine wpList_makeB rfl _ _ rfl m (congrArg (Value.int .i64) (by omega)) (congrArg (Value.int .i64) (by omega)) (by omega) ?_
       intro w3 HB3 HF3)
    | fail)
  all_goals
    refine (hhinsert_bad b _ _ m m p s w3 hl HBAD.out).mono ?_
    rintro e w4 ⟨rfl, f4⟩
    go_wp2
    go_ret
    exact ⟨rfl, (HF2.out.trans HF3.out (fun _ _ h => h)).trans f4 (fun _ _ h => h)⟩

set_option maxRecDepth 100000 in
set_option maxHeartbeats 8000000 in
theorem limits_ok (a : Int) (p s m : Nat) (w : World) (ha : 0 ≤ a ∧ a ≤ 255) (hm : (m : Int) = 138 + a % 5) (hl : m ≤ 140) (hp : p < 65536) (hs : s < 65536) :
    Calls Tryz.prog 5 #[.int .u8 a, .int .i64 p, .int .i64 s] w fun e w' => e = .returned (.bool true) ∧ Fresh w w' := by
  have hd : decide ((s : Int) ≤ 65535) = true := by simp; omega
  go_enter Tryz.func5, Tryz.ntmps5
  go_wp2_with fail
  refine (awake_any _).mono ?_
  rintro e w1 ⟨rfl, f1⟩
  go_wp2_with fail
  refine (index_any _ [] false _ (KeysV.nil _)).mono ?_
  rintro e w2 ⟨b, root, rfl, hi2, f2⟩
  have HI2 := Lib.hid (ix_nil hi2)
  have HF2 : Hid (Fresh w w2) := f1.trans f2 (fun _ _ h => h)
  have z1 := f1.size
  clear hi2 f1 f2
  go_wp2_with (first
    | (refine wpList_makeB rfl _ _ rfl m (congrArg (Value.int .i64) (by omega)) (congrArg (Value.int .i64) (by omega)) (by omega) ?_
       intro w3 HB3 HF3)
    | fail)
  have hK := HI2.out.keep HF3.out (Nat.le_refl _) (kb := w2.heap.size) HB3.out.lt
  have HKL : Hid ((List.replicate m (0 : UInt8)).length ≤ 140) := by show _ ≤ _; simp; omega
  refine (ix_insert hK (keysBytes (n := m) HB3.out (by simp)) HKL.out ⟨hp, hs⟩ List.not_mem_nil (room_of (m := 0) (by decide) (by decide))).mono ?_
  rintro e w4 ⟨rfl, hi4, hc4⟩
  have HI4 := Lib.hid hi4
  have HB4 := Lib.hid (HB3.out.chg hc4 (fun h => h (.inr rfl)))
  have HF4 : Hid (Fresh w w4) := (HF2.out.trans HF3.out (fun _ _ h => h)).trans hc4 (fun k hk hF => absurd (Or.inl (Nat.lt_of_lt_of_le hk z1)) hF)
  clear hK hi4 hc4 HI2 HB3 HF2 HF3
  go_wp2_with fail
  refine (ix_find HI4.out (keysBytes (n := m) HB4.out (by simp)) (by have := HKL.out; omega)).mono ?_
  rintro e w5 ⟨sv, rfl, hs5, f5⟩
  have hfd : findF [(List.replicate m (0 : UInt8), (p, s))] (List.replicate m 0) = [(p, s)] := by
    unfold findF
    simp [sortR]
  rw [hfd] at hs5
  obtain ⟨a5, c5, rfl, hr⟩ := hs5.read
  obtain ⟨g, rfl, hr5⟩ := hr 0 _ rfl
  have hc0 : w5.cell? ⟨g, 0, none⟩ = some (.int .i64 p) := hr5 0 _ rfl
  have hc1 : w5.cell? ⟨g, 1, none⟩ = some (.int .i64 s) := hr5 1 _ rfl
  have hgb := hs5.block
  have HI5 := Lib.hid (HI4.out.keep f5 hgb.1 hgb.2)
  have HB5 := Lib.hid (HB4.out.chg f5 id)
  have HF5 : Hid (Fresh w w5) := HF4.out.trans f5 (fun _ _ h => h)
  have HR5 := Lib.hid hr5
  clear hgb hfd hs5 hr f5 HI4 HB4 HF4 hr5
  go_wp2_with fail
  refine (ix_dup HI5.out (keysBytes (n := m) HB5.out (by simp)) HKL.out ⟨hp, hs⟩ (by simp)).mono ?_
  rintro e w6 ⟨rfl, f6⟩
  have HI6 := Lib.hid (HI5.out.fresh f6)
  have HB6 := Lib.hid (HB5.out.chg f6 id)
  have HF6 : Hid (Fresh w w6) := HF5.out.trans f6 (fun _ _ h => h)
  have HR6 := Lib.hid (Chg.rangeAt f6 HR5.out id)
  have hc0 : w6.cell? ⟨g, 0, none⟩ = some (.int .i64 p) := HR6.out 0 _ rfl
  have hc1 : w6.cell? ⟨g, 1, none⟩ = some (.int .i64 s) := HR6.out 1 _ rfl
  clear f6 HI5 HB5 HF5 HR5
  go_wp2_with fail
  refine (ix_delete HI6.out (keysBytes (n := m) HB6.out (by simp)) HKL.out ⟨hp, hs⟩ (by simp)).mono ?_
  rintro e w7 ⟨rfl, hi7, hc7⟩
  have HI7 := Lib.hid hi7
  have HB7 := Lib.hid (HB6.out.chg hc7 (fun h => h (.inl (.inr rfl))))
  have HF7 : Hid (Fresh w w7) := HF6.out.trans hc7 (fun k hk hF => absurd (Or.inl (Or.inl (Nat.lt_of_lt_of_le hk z1))) hF)
  have HR7 := Lib.hid (Chg.rangeAt hc7 HR6.out (fun h => h (.inr rfl)))
  have hc0 : w7.cell? ⟨g, 0, none⟩ = some (.int .i64 p) := HR7.out 0 _ rfl
  have hc1 : w7.cell? ⟨g, 1, none⟩ = some (.int .i64 s) := HR7.out 1 _ rfl
  clear hi7 hc7 HI6 HB6 HF6 HR6
  go_wp2_with fail
  refine (ix_nodelete HI7.out (keysBytes (n := m) HB7.out (by simp)) HKL.out ⟨hp, hs⟩ (by simp)).mono ?_
  rintro e w8 ⟨rfl, f8⟩
  have HF8 : Hid (Fresh w w8) := HF7.out.trans f8 (fun _ _ h => h)
  clear HI7 HB7 HF7 HR7
  go_wp2_with fail
  refine (hhfree_nil _ w8).mono ?_
  rintro e w9 ⟨rfl, f9⟩
  go_wp2
  go_ret
  exact ⟨rfl, HF8.out.trans f9 (fun _ _ h => h)⟩
end Go.Proofs.YtnmjkgnahhbnoaaGreat
