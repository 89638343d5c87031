/- The laws: HashFills. -/
import Derived.Test.YtnmjkgnahhbnoaaGreatM24
set_option linter.unusedVariables false
set_option linter.unusedSimpArgs false
namespace Go.Proofs.YtnmjkgnahhbnoaaGreat
open Go.RowKit
set_option linter.unusedSimpArgs false

theorem fkey_new (w : World) (i : Nat) (hi : i < 256) : BytesV (w.alloc (.cells #[.int .u8 107, .int .u8 i] 5)) (.slice (some ⟨w.heap.size, 0, none⟩) 2 2) (fkey i) :=
  bytesV_new w (fkey i) (0, 0) _ 2 (by
    have h1 : (UInt8.ofNat i).toNat = i := by simp; omega
    unfold fkey bvals
    simp [h1]) rfl
/-- The pages up to j are taken. -/
def BatU (K : Nat → Prop) (w : World) (b j : Nat) : Prop :=
  ∃ (T : Nat → Bool) (V : Nat → Option (List UInt8)) (F : Nat → Prop), BatchV w b 1100 T V F ∧ (∀ m, m < 1100 → (T m = true ↔ m ≤ j)) ∧ (∀ k, F k → ¬ K k) ∧ ∀ k, K k → k < w.heap.size
theorem batU_alloc {K : Nat → Prop} {w : World} {b j : Nat} (h : BatU K w b j) (hj : j + 1 < 1100) :
    Calls Tryz.prog 19 #[.pointer (some ⟨b, 0, none⟩), .int .i64 1] w fun e w' => e = .returned (.tuple #[.int .i64 ((j + 1 : Nat) : Int), .int .i64 0]) ∧ BatU K w' b (j + 1) ∧ Chg (fun k => ¬ K k) w w' := by
  obtain ⟨T, V, F, hb, ht, hk, hl⟩ := h
  refine (bv_alloc (kind := 1) hb (by decide) hj (by
    cases h1 : T (j + 1) with
    | false => rfl
    | true => have := (ht _ hj).1 h1; omega) (fun k hk => (ht k (by omega)).2 (by omega))).mono ?_
  rintro e w' ⟨rfl, hb2, -⟩
  obtain ⟨F2, hb3, hk3, hl3, hc3⟩ := Ix.step hk hl hb2
  refine ⟨rfl, ⟨_, _, F2, hb3, fun m hm => ?_, hk3, hl3⟩, hc3⟩
  rw [tput_true, ht m hm]
  constructor
  · rintro (h1 | h1)
    · omega
    · have : m = j + 1 := by simpa using h1
      omega
  · intro h1
    by_cases h2 : m ≤ j
    · exact .inl h2
    · exact .inr (by simp; omega)
theorem batU_full {K : Nat → Prop} {w : World} {b : Nat} (h : BatU K w b 1099) :
    Calls Tryz.prog 19 #[.pointer (some ⟨b, 0, none⟩), .int .i64 1] w fun e w' => e = .returned (.tuple #[.int .i64 0, .int .i64 20]) ∧ Fresh w w' := by
  obtain ⟨T, V, F, hb, ht, hk, hl⟩ := h
  exact bv_full (kind := 1) hb (fun k hk => (ht k hk).2 (by omega))

theorem fill_insert {w0 wr : World} {b root i : Nat} (h : Ix (fun k => k < w0.heap.size) wr b 1100 root (fillC (fun _ => true) i) i ∧ Fresh w0 wr) (hi : i < 119) :
    Calls Tryz.prog 16 #[.pointer (some ⟨b, 0, none⟩), .int .i64 root, .slice (some ⟨wr.heap.size, 0, none⟩) 2 2, .agg #[.int .i64 i, .int .i64 (2 * (i : Int))]] (wr.alloc (.cells #[.int .u8 107, .int .u8 i] 5)) fun e w' => e = .returned (.int .i64 0) ∧ Hid (Ix (fun k => k < w0.heap.size) w' b 1100 root (fillC (fun _ => true) (i + 1)) (i + 1) ∧ Fresh w0 w') := by
  have hf : Fresh wr (wr.alloc (.cells #[.int .u8 107, .int .u8 i] 5)) := (Chg.refl _ _).alloc _
  have h2 : (2 * (i : Int)) = ((2 * i : Nat) : Int) := by omega
  rw [h2]
  refine (ix_insert (h.1.fresh hf) (fkey_new wr i (by omega)) (by simp [fkey]) ⟨by omega, by omega⟩ (fun hm => ?_) (room_of (m := 14) (by omega) (by omega))).mono ?_
  · obtain ⟨j, hj, _, he⟩ := fillC_mem.1 hm
    have := fent_inj (i := j) (j := i) he
    omega
  · rintro e w' ⟨rfl, h1, hc⟩
    rw [fillC_succ]
    exact ⟨rfl, h1, (h.2.trans hf (fun _ _ h => h)).keepF hc⟩
theorem fill_find {w0 wr : World} {b root i m n : Nat} {p : Nat → Bool} (h : Ix (fun k => k < w0.heap.size) wr b 1100 root (fillC p n) m ∧ Fresh w0 wr) (hi : i < 256) (hn : n ≤ 256) :
    Calls Tryz.prog 9 #[.pointer (some ⟨b, 0, none⟩), .int .i64 root, .slice (some ⟨wr.heap.size, 0, none⟩) 2 2] (wr.alloc (.cells #[.int .u8 107, .int .u8 i] 5)) fun e w' => ∃ sv, e = .returned (.tuple #[sv, .int .i64 0]) ∧ RidsW w' sv (if i < n ∧ p i = true then [(i, 2 * i)] else []) ∧ Hid (Ix (fun k => k < w0.heap.size) w' b 1100 root (fillC p n) m ∧ Fresh w0 w') := by
  have hf : Fresh wr (wr.alloc (.cells #[.int .u8 107, .int .u8 i] 5)) := (Chg.refl _ _).alloc _
  refine (ix_find (h.1.fresh hf) (fkey_new wr i hi) (by simp [fkey])).mono ?_
  rintro e w' ⟨sv, rfl, h1, hc⟩
  rw [fillC_find hn hi] at h1
  exact ⟨sv, rfl, h1.read, (h.1.fresh hf).fresh hc, (h.2.trans hf (fun _ _ h => h)).trans hc (fun _ _ h => h)⟩
theorem fill_delete {w0 wr : World} {b root i m n k : Nat} (h : Ix (fun k => k < w0.heap.size) wr b 1100 root (fillC (leftP k i) n) m ∧ Fresh w0 wr) (hi : i < n) (hn : n ≤ 119) (hk : i % k ≠ 0) :
    Calls Tryz.prog 17 #[.pointer (some ⟨b, 0, none⟩), .int .i64 root, .slice (some ⟨wr.heap.size, 0, none⟩) 2 2, .agg #[.int .i64 i, .int .i64 (2 * (i : Int))]] (wr.alloc (.cells #[.int .u8 107, .int .u8 i] 5)) fun e w' => e = .returned (.int .i64 0) ∧ Hid (Ix (fun k => k < w0.heap.size) w' b 1100 root (fillC (leftP k (i + 1)) n) m ∧ Fresh w0 w') := by
  have hf : Fresh wr (wr.alloc (.cells #[.int .u8 107, .int .u8 i] 5)) := (Chg.refl _ _).alloc _
  have h2 : (2 * (i : Int)) = ((2 * i : Nat) : Int) := by omega
  rw [h2]
  refine (ix_delete (h.1.fresh hf) (fkey_new wr i (by omega)) (by simp [fkey]) ⟨by omega, by omega⟩ (fillC_mem.2 ⟨i, hi, by simp [leftP], rfl⟩)).mono ?_
  rintro e w' ⟨rfl, h1, hc⟩
  rw [← fillC_erase hi hk]
  exact ⟨rfl, h1, (h.2.trans hf (fun _ _ h => h)).keepF hc⟩

set_option maxRecDepth 100000 in
set_option maxHeartbeats 8000000 in
theorem fills_any (n left : Int) (cnt k : Nat) (w : World) (hn : 0 ≤ n ∧ n ≤ 255) (hl : 0 ≤ left ∧ left ≤ 255) (hc : (cnt : Int) = n % 120) (hk : (k : Int) = left % 7 + 1) :
    Calls Tryz.prog 4 #[.int .u8 n, .int .u8 left] w fun e w' => e = .returned (.bool true) ∧ Fresh w w' := by
  have hcn : cnt ≤ 119 := by omega
  have hk7 : 1 ≤ k ∧ k ≤ 7 := by omega
  go_enter Tryz.func4, Tryz.ntmps4
  go_wp2_with fail
  refine (awake_any _).mono ?_
  rintro e w0 ⟨rfl, f0⟩
  go_wp2_with fail
  refine (diskNew_any 8800 _ (by decide)).mono ?_
  rintro e w1 ⟨d, mN, mK, rfl, hd, s1, s2, s3, f1⟩
  go_wp2_with fail
  refine (diskNew_any 30000 _ (by decide)).mono ?_
  rintro e w2 ⟨d2, mN2, mK2, rfl, hd2, s4, s5, s6, f2⟩
  go_wp2_with fail
  refine (poolOpen_any d mN mK d2 mN2 mK2 8800 30000 8 _ (hd.fresh f2) hd2 (by decide) (by decide) (by decide)).mono ?_
  rintro e w3 ⟨p, l, mH, rfl, hp, f3, s7, s8⟩
  go_wp2_with fail
  refine (poolBatch_any p _).mono ?_
  rintro e w4 ⟨b, rfl, hb, f4, s9⟩
  have z1 := f1.size
  have z2 := f2.size
  have z3 := f3.size
  have z0 := f0.size
  have hmk := ix_make (N := 1100) (w0 := w) hp hb f4 ((((f0.trans f1 (fun _ _ h => h)).trans f2 (fun _ _ h => h)).trans f3 (fun _ _ h => h)).trans f4 (fun _ _ h => h)) (by decide) (by decide) ⟨by omega, by omega, by omega, by omega, by omega, by omega⟩
  have HMK := Lib.hid hmk
  clear hmk hd hd2 hp hb f0 f1 f2 f3 f4 s1 s2 s3 s4 s5 s6 s7 s8 s9 z0 z1 z2 z3
  go_wp2_with fail
  refine HMK.out.mono ?_
  rintro e w5 ⟨root, rfl, hi, f5⟩
  have HI5 := Lib.hid hi
  have HF5 := Lib.hid f5
  clear HMK hi f5
  go_wp2_with fail
  rw [← hc]
  have HC := Lib.hid hc
  have HK := Lib.hid hk
  clear hc hk
  go_loopw [11] (fun v wr => ∃ i : Nat, i ≤ cnt ∧ v = .int .i64 i ∧ Hid (Ix (fun k => k < w.heap.size) wr b 1100 root (fillC (fun _ => true) i) i ∧ Fresh w wr)) (fun v _ => 120 - (intOf v).toNat)
  case atStart => exact ⟨0, by omega, rfl, HI5.out, HF5.out⟩
  case round =>
    obtain ⟨i, hi, rfl, HR⟩ := hrel
    clear HI5 HF5
    by_cases hlt : i < cnt
    · go_wp2_with fail
      refine (fill_insert HR.out (by omega)).mono ?_
      rintro e w6 ⟨rfl, HR6⟩
      clear HR
      go_wp2_with fail
      go_roundw
      case rel => exact ⟨i + 1, by omega, by go_num, HR6⟩
      case measure => simp [intOf]; omega
    · have hic : i = cnt := by omega
      rw [hic] at HR
      clear hi hlt
      rw [hic]
      clear hic
      go_wp2_with fail
      go_loopw [12, 13, 14] (fun v _ _ wx => ∃ j : Nat, j ≤ 130 ∧ v = .int .i64 j ∧ Hid (Ix (fun k => k < w.heap.size) wx b 1100 root (fillC (fun _ => true) cnt) cnt ∧ Fresh w wx)) (fun v _ _ _ => 131 - (intOf v).toNat)
      case atStart => exact ⟨0, by omega, rfl, HR⟩
      case round =>
        obtain ⟨j, hj, rfl, HX⟩ := hrel
        clear HR
        by_cases hlt : j < 130
        · go_wp2_with fail
          refine (fill_find HX.out (by omega) (by omega)).mono ?_
          rintro e w6 ⟨sv, rfl, hr, HX6⟩
          clear HX
          by_cases hjc : j < cnt
          · rw [if_pos ⟨hjc, rfl⟩] at hr
            obtain ⟨a, c, rfl, hq⟩ := hr
            obtain ⟨g, rfl, hr⟩ := hq 0 _ rfl
            have hc0 : w6.cell? ⟨g, 0, none⟩ = some (.int .i64 j) := hr 0 _ rfl
            have hc1 : w6.cell? ⟨g, 1, none⟩ = some (.int .i64 (2 * (j : Int))) := by
              have := hr 1 _ rfl
              have h2 : ((2 * j : Nat) : Int) = 2 * (j : Int) := by omega
              simp only [h2] at this
              exact this
            clear hr hq
            go_wp2_with fail
            go_roundw
            case rel => exact ⟨j + 1, by omega, by go_num, HX6⟩
            case measure => simp [intOf]; omega
          · rw [if_neg (fun h => hjc h.1)] at hr
            obtain ⟨a, c, rfl, -⟩ := hr
            go_wp2_with fail
            go_roundw
            case rel => exact ⟨j + 1, by omega, by go_num, HX6⟩
            case measure => simp [intOf]; omega
        · go_wp2_with fail
          rw [← HK.out]
          clear hj hlt
          go_loopw [16] (fun v wx => ∃ j : Nat, j ≤ cnt ∧ v = .int .i64 j ∧ Hid (Ix (fun k => k < w.heap.size) wx b 1100 root (fillC (leftP k j) cnt) cnt ∧ Fresh w wx)) (fun v _ => 120 - (intOf v).toNat)
          case atStart => exact ⟨0, by omega, rfl, by rw [← leftP_zero]; exact HX⟩
          case round =>
            obtain ⟨j, hj2, rfl, HY⟩ := hrel
            clear HX
            by_cases hlt2 : j < cnt
            · have hem : (j : Int) % (k : Int) = ((j % k : Nat) : Int) := (Int.natCast_emod j k).symm
              have htm : Int.tmod (j : Int) (k : Int) = ((j % k : Nat) : Int) := Int.ofNat_tmod j k
              have hrk : j % k < k := Nat.mod_lt _ (by omega)
              obtain ⟨r, hr⟩ : ∃ r, r = j % k := ⟨_, rfl⟩
              rw [← hr] at hem htm hrk
              by_cases hm : r = 0
              · have HS := Lib.hid (leftP_skip (n := cnt) (hr.symm.trans hm))
                clear hr
                subst hm
                go_wp2_with fail
                go_roundw
                case rel => exact ⟨j + 1, by omega, by go_num, by rw [← HS.out]; exact HY⟩
                case measure => simp [intOf]; omega
              · have HM : Hid (j % k ≠ 0) := fun h => hm (hr.trans h)
                clear hr
                go_wp2_with fail
                refine (fill_delete HY.out hlt2 hcn HM.out).mono ?_
                rintro e w6 ⟨rfl, HY6⟩
                clear HY
                go_wp2_with fail
                go_roundw
                case rel => exact ⟨j + 1, by omega, by go_num, HY6⟩
                case measure => simp [intOf]; omega
            · have hje2 : j = cnt := by omega
              rw [hje2] at HY
              clear hj2 hlt2
              rw [hje2]
              clear hje2
              go_wp2_with fail
              go_loopw [17, 18, 19] (fun v _ _ wx => ∃ j : Nat, j ≤ cnt ∧ v = .int .i64 j ∧ Hid (Ix (fun k => k < w.heap.size) wx b 1100 root (fillC (leftP k cnt) cnt) cnt ∧ Fresh w wx)) (fun v _ _ _ => 120 - (intOf v).toNat)
              case atStart => exact ⟨0, by omega, rfl, HY⟩
              case round =>
                obtain ⟨j, hj3, rfl, HZ⟩ := hrel
                clear HY
                by_cases hlt3 : j < cnt
                · have hem : (j : Int) % (k : Int) = ((j % k : Nat) : Int) := (Int.natCast_emod j k).symm
                  have htm : Int.tmod (j : Int) (k : Int) = ((j % k : Nat) : Int) := Int.ofNat_tmod j k
                  have hrk : j % k < k := Nat.mod_lt _ (by omega)
                  have HE := Lib.hid (leftP_end (k := k) hlt3)
                  generalize j % k = r at *
                  go_wp2_with fail
                  refine (fill_find HZ.out (by omega) (by omega)).mono ?_
                  rintro e w6 ⟨sv, rfl, hr, HZ6⟩
                  clear HZ
                  rw [HE.out] at hr
                  by_cases hm : r = 0
                  · rw [if_pos ⟨hlt3, by simp [hm]⟩] at hr
                    obtain ⟨a, c, rfl, -⟩ := hr
                    subst hm
                    go_wp2_with fail
                    go_roundw
                    case rel => exact ⟨j + 1, by omega, by go_num, HZ6⟩
                    case measure => simp [intOf]; omega
                  · rw [if_neg (fun h => by simp [hm] at h)] at hr
                    obtain ⟨a, c, rfl, -⟩ := hr
                    go_wp2_with fail
                    go_roundw
                    case rel => exact ⟨j + 1, by omega, by go_num, HZ6⟩
                    case measure => simp [intOf]; omega
                · go_wp2_with fail
                  clear hj3 hlt3
                  refine (ix_free HZ.out.1).mono ?_
                  rintro e w6 ⟨rfl, ⟨T6, V6, F6, hb6, ht6, hk6, hl6⟩, hc6⟩
                  have HU : Hid (BatU (fun k => k < w.heap.size) w6 b 0 ∧ Fresh w w6) := ⟨⟨T6, V6, F6, hb6, fun m hm => by rw [ht6 m hm]; omega, hk6, hl6⟩, HZ.out.2.keepF hc6⟩
                  clear hb6 ht6 hk6 hl6 hc6 HZ
                  go_wp2_with fail
                  go_loopw [6, 20] (fun v6 v20 wx => ∃ q : Nat, q ≤ 1100 ∧ v20 = .int .i64 q ∧ Hid (Fresh w wx) ∧ ((q < 1100 ∧ v6 = .int .i64 0 ∧ Hid (BatU (fun k => k < w.heap.size) wx b q)) ∨ (q = 1100 ∧ v6 = .int .i64 20))) (fun _ v20 _ => 1101 - (intOf v20).toNat)
                  case atStart => exact ⟨0, by omega, rfl, HU.out.2, .inl ⟨by omega, rfl, HU.out.1⟩⟩
                  case round =>
                    obtain ⟨q, hq, rfl, HF, hor⟩ := hrel
                    clear HU
                    rcases hor with ⟨hq2, rfl, HB⟩ | ⟨hq2, rfl⟩
                    · by_cases hq3 : q + 1 < 1100
                      · go_wp2_with fail
                        refine (batU_alloc HB.out hq3).mono ?_
                        rintro e w7 ⟨rfl, hb7, hc7⟩
                        have HB7 := Lib.hid hb7
                        have HF7 : Hid (Fresh w w7) := HF.out.keepF hc7
                        clear hb7 hc7 HB HF
                        go_wp2_with fail
                        go_roundw
                        case rel => exact ⟨q + 1, by omega, by go_num, HF7, .inl ⟨by omega, rfl, HB7⟩⟩
                        case measure => simp [intOf]; omega
                      · have hqe : q = 1099 := by omega
                        subst hqe
                        go_wp2_with fail
                        refine (batU_full HB.out).mono ?_
                        rintro e w7 ⟨rfl, hf7⟩
                        have HF7 : Hid (Fresh w w7) := HF.out.trans hf7 (fun _ _ h => h)
                        clear hf7 HB HF
                        go_wp2_with fail
                        go_roundw
                        case rel => exact ⟨1100, by omega, by go_num, HF7, .inr ⟨rfl, rfl⟩⟩
                        case measure => simp [intOf]
                    · subst hq2
                      go_wp2_with fail
                      refine (hhmake_nil wr).mono ?_
                      rintro e w7 ⟨rfl, f7⟩
                      have HF7 : Hid (Fresh w w7) := HF.out.trans f7 (fun _ _ h => h)
                      clear f7 HF
                      go_wp2_with fail
                      refine (hhinsert_nil _ _ 0 0 w7).mono ?_
                      rintro e w8 ⟨rfl, f8⟩
                      go_wp2
                      go_ret
                      exact ⟨rfl, HF7.out.trans f8 (fun _ _ h => h)⟩
end Go.Proofs.YtnmjkgnahhbnoaaGreat
