/- Part 23 of the walks that the laws of package hash share (HashR). -/
import Derived.Test.YtnmjkgnahhbnoaaGreatM22
set_option linter.unusedVariables false
set_option linter.unusedSimpArgs false
/- Walks of package hash: Find. -/
namespace Go.Proofs.YtnmjkgnahhbnoaaGreat
open Go.RowKit
set_option linter.unusedSimpArgs false

theorem execToStr {o : Oper} {ev : Operand → Value} {w : World} {v : Value} {x : Operand} {l : List UInt8} (ho : o.op = .convert 23 9 x) (hx : ev x = v) (hb : BytesV w v l) : (execOp ev o).run Tryz.prog w = .ok (.value (.string ⟨l.toArray⟩)) w := by
  unfold execOp
  simp only [ho, hx, Sem.run_bind, run_toStr hb, Sem.run_pure, Result.andThen_ok]
theorem infoRid3 : (Tryz.prog.info? 45).map (fun i => (i.zero, i.size, i.bytes)) = some (some (.agg #[.int .i64 0, .int .i64 0]), 2, 16) := by kernel_rfl
theorem ridZero : (Value.agg #[.int .i64 0, .int .i64 0]).cells.size = 2 := by kernel_rfl
/-- A slice of places; its block is from base on. -/
def RidsS (w : World) (base : Nat) (sv : Value) (l : List (Nat × Nat)) : Prop := w.ownsRow base 45 2 sv l.length (ridCells l)
/-- A record's place. -/
def ridOf (x : List UInt8) : Nat × Nat := ((x.getD 0 0).toNat + 256 * (x.getD 1 0).toNat, (x.getD 2 0).toNat + 256 * (x.getD 3 0).toNat)
/-- The places under a key. -/
def ridsOf (key : List UInt8) (E : List Ent) : List (Nat × Nat) := (E.filter fun e => e.2.drop 4 == key).map fun e => ridOf e.2
theorem ridsOf_take {key : List UInt8} {E : List Ent} {k : Nat} {x : Ent} (h : E[k]? = some x) : ridsOf key (E.take (k + 1)) = ridsOf key (E.take k) ++ (if x.2.drop 4 == key then [ridOf x.2] else []) := by
  have hlt : k < E.length := (List.getElem?_eq_some_iff.1 h).1
  unfold ridsOf
  rw [List.take_succ_eq_append_getElem hlt, (List.getElem?_eq_some_iff.1 h).2, List.filter_append, List.map_append]
  congr 1
  cases hx : (x.2.drop 4 == key) <;> simp [List.filter_cons, hx]
theorem ridOf_ent {e : HE} (h : okE e) : ridOf (entE e) = e.2 := by
  obtain ⟨k, p, s⟩ := e
  obtain ⟨_, h1, h2⟩ := h
  simp only at h1 h2
  unfold ridOf entE entB
  simp only [List.cons_append, List.nil_append, List.getD_cons_zero, List.getD_cons_succ, lowB_toNat, Prod.mk.injEq]
  constructor <;> omega
/-- What an index finds under a key. -/
def findF (C : List HE) (key : List UInt8) : List (Nat × Nat) := sortR ((C.filter fun e => e.1 == key).map (·.2))
theorem HashV.finds {O : List Nat} {V : Nat → Option (List UInt8)} {T : Nat → Bool} {N root : Nat} {B : List (List (Nat × Rs))} {C : List HE} {L : List (Nat × Rs)} (h : HashV O V T N root B C) (key : List UInt8) (hk : B[bucketF key B.length]? = some L) : sortR (ridsOf key (entsL L)) = findF C key := by
  refine sortR_eq ?_
  have e1 : ridsOf key (entsL L) = (((entsL L).map (·.2)).filter fun x => x.drop 4 == key).map ridOf := by
    unfold ridsOf
    rw [List.filter_map, List.map_map]; rfl
  rw [e1]
  have h1 := ((h.ct _ L hk).filter (fun x => x.drop 4 == key)).map ridOf
  refine h1.trans (List.Perm.of_eq ?_)
  rw [List.filter_map, List.filter_filter, List.map_map]
  have e2 : (C.filter fun a => ((fun x : List UInt8 => x.drop 4 == key) ∘ entE) a && (bucketF a.1 B.length == bucketF key B.length)) = C.filter fun e => e.1 == key := by
    apply List.filter_congr
    intro e _
    show ((entE e).drop 4 == key && _) = _
    rw [entE_drop]
    by_cases hek : e.1 = key
    · simp [hek]
    · simp [hek]
  rw [e2]
  apply List.map_congr_left
  intro e he
  exact ridOf_ent (h.ok e (List.mem_filter.1 he).1)
theorem wp_sliceOne {Pr : Program} {o : Oper} {a : Act} {w : World} {Q : Exit → Act → World → Prop} {K : Act → World → Prop} (t e : TypeId) (k : Nat) (x : Operand) (ho : o.op = .buildSlice t 1 #[(0, x)]) (cs : List Value) (hx : a.eval x = .agg cs.toArray) (hl : cs.length = k) (hk : 0 < k ∧ k ≤ 1000) (z : Value) (bytes : Nat)
    (hu : Pr.underlying t = some (.slice e)) (hi : (Pr.info? e).map (fun i => (i.zero, i.size, i.bytes)) = some (some z, k, bytes))
    (h : ∀ w', Hid (Blk w' w.heap.size e cs) → Hid (Fresh w w') → Hid (w'.heap.size = w.heap.size + 1) → K (a.put o.dst (.slice (some ⟨w.heap.size, 0, none⟩) 1 1)) w') : o.wp Pr a w K Q := by
  obtain ⟨i0, hi, hz0, hz1, hz2⟩ := info_parts hi
  refine wp_buildSlice t e 1 _ ho cs.toArray i0 z hu hi hz0 (by rw [hz1]; omega) (by rw [hz1]; omega) ?_ (h _ (Blk.new w e cs) ((Chg.refl _ w).alloc _) (World.size_alloc _ _))
  rw [hz1]
  have := fill_one k hk.1 cs hl z.cells
  simpa [hx] using this

theorem ridCells_snoc (l : List (Nat × Nat)) (x : Nat × Nat) : ridCells (l ++ [x]) = ridCells l ++ encR x := by simp [ridCells]
theorem ridsOf_len (key : List UInt8) (E : List Ent) (k : Nat) : (ridsOf key (E.take k)).length ≤ E.length := by
  unfold ridsOf
  rw [List.length_map]
  exact Nat.le_trans (List.length_filter_le _ _) (List.length_take_le' _ _)
/-- What hash.Find leaves. -/
def FindTo (w : World) (l : List (Nat × Nat)) (e : Ending) (w' : World) : Prop := ∃ sv, e = .returned (.tuple #[sv, .int .i64 0]) ∧ RidsS w' w.heap.size sv l ∧ Fresh w w'

set_option maxRecDepth 100000 in
set_option maxHeartbeats 4000000 in
theorem hhfind_any {b N root : Nat} {O : List Nat} {T : Nat → Bool} {V : Nat → Option (List UInt8)} {F : Nat → Prop} {B : List (List (Nat × Rs))} {C : List HE} {vk : Value} {key : List UInt8} (w : World) (h : BatchV w b N T V F) (hH : HashV O V T N root B C) (hk : BytesV w vk key) (hkl : key.length ≤ 4611686018427387904) :
    Calls Tryz.prog 9 #[.pointer (some ⟨b, 0, none⟩), .int .i64 root, vk] w (FindTo w (findF C key)) := by
  obtain ⟨L, hbk⟩ := hH.get key
  obtain ⟨n, hBn⟩ : ∃ n, n = B.length := ⟨_, rfl⟩
  have HFIN : Hid (sortR (ridsOf key (entsL L)) = findF C key) := hH.finds key hbk
  have HREC : Hid (∀ e ∈ entsL L, 4 ≤ e.2.length ∧ e.2.length ≤ 144) := hH.recs hbk
  rw [← hBn] at hbk
  have HB := Lib.hid h
  have hn : 1 ≤ n ∧ n ≤ 40 := ⟨by have := hH.nb.1; omega, by have := hH.nb.2; omega⟩
  obtain ⟨ak, ck, rfl⟩ := hk.slice
  have HK : Hid (KeyV w (.slice ak key.length ck) key) := hk
  have hN := h.le
  have HVL : Hid (HeapV V N L) := hH.st.bks _ L hbk
  have hnl : 1 ≤ nextAt L 0 ∧ nextAt L 0 < N := ⟨(HVL.out.next_lt 0).2 HVL.out.ne, (HVL.out.next_lt 0).1⟩
  have HLL : Hid ((entsL L).length ≤ 416000) := by
    show _ ≤ _
    have h1 := HVL.out.ents_le L.length
    rw [List.take_length] at h1; omega
  have HDE : Hid ((entsL (dirL root C.length B)).length = n + 1) := by show _ = _; rw [dir_len, hBn]
  have HD0 : Hid (HeapV V N (dirL root C.length B)) := hH.st.dir
  have HEK : Hid ((entsL (dirL root C.length B))[bucketF key n + 1]? = some ((root, bucketF key n + 2), num3 (nextAt L 0))) := dir_page root C.length B _ L hbk
  have HE0 : Hid ((entsL (dirL root C.length B))[0]? = some ((root, 1), num3 C.length)) := dir_cnt root C.length B
  clear h hH hbk hBn hk
  go_enter Tryz.func9, Tryz.ntmps9
  go_wp2_with fail
  have hop := hopen_any (L := dirL root C.length B) w HB.out HD0.out (by rw [HDE.out]; omega)
  rw [(dir_next root C.length B).1] at hop
  refine hop.mono ?_
  rintro e w2 ⟨sv, rfl, hes, hf2⟩
  clear hop
  generalize hEE : entsL (dirL root C.length B) = E at *
  clear hEE
  obtain ⟨g, cap, _, _, rfl, hbg, _, _, _, _, _⟩ := hes.cells HE0.out
  have hes2 := hes
  rw [HDE.out] at hes2 ⊢
  have HES := Lib.hid hes2
  have HF2 := Lib.hid hf2
  clear hes hes2 hf2
  go_wp2_with (first
    | (refine wpList_allocA rfl 65 rfl [.pointer none, .slice none 0 0] Tryz.zeroValue65 ?_
       intro w3 HB3 HF3 HS3)
    | (refine wpList_storeA rfl 65 _ _ rfl w2.heap.size 0 rfl [.pointer (some ⟨b, 0, none⟩), .slice (some ⟨g, 0, none⟩) (n + 1) cap] rfl _ _ HB3.out infoIdx (by simp) (by simp [Value.oneCell']) ?_
       intro w4 HB4 HC4
       have hb4 := HB4.out
       rw [over_all _ _ (by simp)] at hb4
       have HX4' := Lib.hid hb4
       clear hb4
       have HF24 : Hid (Fresh w2 w4) := HF3.out.trans HC4.out (fun k hk e => by omega)))
  have HX4 := Lib.hid HX4'.out.drew
  have HES4 := Lib.hid ((HES.out.fresh HF24.out).fresh ((Chg.refl (fun _ => False) w4).drew))
  have HF4 := Lib.hid (HF2.out.trans HF24.out (fun _ _ f => f)).drew
  have HK4 := Lib.hid (HK.out.fresh HF4.out)
  have hnw : IntKind.i64.wrap (n : Int) = n := IntWalk.i64_in _ (by omega)
  clear HX4' HES HF24 HB4 HC4 HB3 HF3 HS3 HF2
  generalize hbb : w.heap.size = base at *
  have HBB := Lib.hid hbb
  clear hbb
  generalize w2.heap.size = q at *
  refine wp_region_held_drew (S := fun W => Fresh w4.drew W) (by kernel_rfl) (Chg.refl _ _) (fun hHeld => ?_)
  generalize w4.drew = w4' at *
  refine takeL 0 (.pointer (some ⟨b, 0, none⟩)) rfl (by kernel_rfl) (by kernel_rfl) (by kernel_rfl) (fun _ _ _ h => h) (Or.inl ⟨by rfl, fun W hW => by rfl⟩) hHeld ?_
  try simp only [Act.put, List.setIfInBounds_toArray, List.set_cons_zero, List.set_cons_succ]
  refine takeL 1 (.agg ([.pointer (some ⟨b, 0, none⟩), .slice (some ⟨g, 0, none⟩) (n + 1) cap]).toArray) rfl (by kernel_rfl) (by kernel_rfl) (by kernel_rfl) (fun _ _ _ h => h) (yieldsIf_load_mid (by rfl) _ _ rfl _ _ rfl _ _ (fun W hW => (HX4.out.chg hW id).range 0 2 rfl) Tryz.underlying65 rfl infoIdx) hHeld ?_
  try simp only [Act.put, List.setIfInBounds_toArray, List.set_cons_zero, List.set_cons_succ]
  refine takeL 2 (.slice ak key.length ck) rfl (by kernel_rfl) (by kernel_rfl) (by kernel_rfl) (fun _ _ _ h => h) (Or.inl ⟨by rfl, fun W hW => by rfl⟩) hHeld ?_
  try simp only [Act.put, List.setIfInBounds_toArray, List.set_cons_zero, List.set_cons_succ]
  refine takeL 3 (.pointer (some ⟨q, 1, none⟩)) rfl (by kernel_rfl) (by kernel_rfl) (by kernel_rfl) (fun _ _ _ h => h) (Or.inl ⟨by rfl, fun W hW => by go_simp⟩) hHeld ?_
  try simp only [Act.put, List.setIfInBounds_toArray, List.set_cons_zero, List.set_cons_succ]
  refine takeL 4 (.slice (some ⟨g, 0, none⟩) (n + 1) cap) rfl (by kernel_rfl) (by kernel_rfl) (by kernel_rfl) (fun _ _ _ h => h) (Or.inl ⟨by rfl, fun W hW => by have c := cells2 (HX4.out.chg hW id); go_simp⟩) hHeld ?_
  try simp only [Act.put, List.setIfInBounds_toArray, List.set_cons_zero, List.set_cons_succ]
  refine takeL 5 (.int .i64 ((n : Int) + 1)) rfl (by kernel_rfl) (by kernel_rfl) (by kernel_rfl) (fun _ _ _ h => h) (Or.inl ⟨by rfl, fun W hW => by go_simp⟩) hHeld ?_
  try simp only [Act.put, List.setIfInBounds_toArray, List.set_cons_zero, List.set_cons_succ]
  refine takeL 6 (.int .i64 (n : Int)) rfl (by kernel_rfl) (by kernel_rfl) (by kernel_rfl) (fun _ _ _ h => h) (Or.inl ⟨by rfl, fun W hW => by go_simp⟩) hHeld ?_
  try simp only [Act.put, List.setIfInBounds_toArray, List.set_cons_zero, List.set_cons_succ]
  refine oneL 7 rfl (by kernel_rfl) (by rfl) (fun K hK => ?_)
  go_simp
  refine (hbucket_any _ key n _ (HK4.out.fresh hHeld) (by omega) (by omega)).mono ?_
  rintro e w5 ⟨rfl, rfl⟩
  refine hK.out _ _ hHeld (fun hHeld => ?_)
  clear hK K
  try simp only [Act.put, List.setIfInBounds_toArray, List.set_cons_zero, List.set_cons_succ]
  refine oneL 8 rfl (by kernel_rfl) (by rfl) (fun K hK => ?_)
  go_simp
  refine (hpage_any b base (bucketF key n) (nextAt L 0) _ E _ _ (HES4.out.fresh hHeld) HEK.out (by omega) (by rw [HDE.out]; omega)).mono ?_
  rintro e w5 ⟨rfl, hf5⟩
  refine hK.out _ _ (hHeld.trans hf5 (fun _ _ f => f)) (fun hHeld => ?_)
  clear hK K
  try simp only [Act.put, List.setIfInBounds_toArray, List.set_cons_zero, List.set_cons_succ]
  clear hf5
  refine oneL 9 rfl (by kernel_rfl) (by rfl) (fun K hK => ?_)
  go_simp
  refine (hscan_any w5 (HB.out.fresh (HF4.out.trans hHeld (fun _ _ f => f))) HVL.out).mono ?_
  rintro e w6 ⟨sv6, rfl, he6, hf6⟩
  obtain ⟨a6, cap6, rfl⟩ := he6.slice
  have HE6 := Lib.hid (he6.base_le (show base ≤ w5.heap.size by have := HF4.out.size; have := hHeld.size; have := HBB.out; omega))
  refine hK.out _ _ (hHeld.trans hf6 (fun _ _ f => f)) (fun hHeld => ?_)
  clear hK K
  try simp only [Act.put, List.setIfInBounds_toArray, List.set_cons_zero, List.set_cons_succ]
  clear he6 hf6
  generalize hEE : entsL L = E6 at *
  have HEE := Lib.hid hEE
  clear hEE
  refine takeL 10 (.tuple #[.slice a6 E6.length cap6, .int .i64 0]) rfl (by kernel_rfl) (by kernel_rfl) (by kernel_rfl) (fun _ _ _ h => h) (Or.inl ⟨by rfl, fun W hW => by rfl⟩) hHeld ?_
  try simp only [Act.put, List.setIfInBounds_toArray, List.set_cons_zero, List.set_cons_succ]
  refine takeL 11 (.slice a6 E6.length cap6) rfl (by kernel_rfl) (by kernel_rfl) (by kernel_rfl) (fun _ _ _ h => h) (Or.inl ⟨by rfl, fun W hW => by rfl⟩) hHeld ?_
  try simp only [Act.put, List.setIfInBounds_toArray, List.set_cons_zero, List.set_cons_succ]
  refine takeL 12 (.int .i64 0) rfl (by kernel_rfl) (by kernel_rfl) (by kernel_rfl) (fun _ _ _ h => h) (Or.inl ⟨by rfl, fun W hW => by rfl⟩) hHeld ?_
  try simp only [Act.put, List.setIfInBounds_toArray, List.set_cons_zero, List.set_cons_succ]
  refine takeL 13 (.slice a6 E6.length cap6) rfl (by kernel_rfl) (by kernel_rfl) (by kernel_rfl) (fun _ _ _ h => h) (Or.inl ⟨by rfl, fun W hW => by rfl⟩) hHeld ?_
  try simp only [Act.put, List.setIfInBounds_toArray, List.set_cons_zero, List.set_cons_succ]
  refine takeL 14 (.int .i64 0) rfl (by kernel_rfl) (by kernel_rfl) (by kernel_rfl) (fun _ _ _ h => h) (Or.inl ⟨by rfl, fun W hW => by rfl⟩) hHeld ?_
  try simp only [Act.put, List.setIfInBounds_toArray, List.set_cons_zero, List.set_cons_succ]
  refine wpAnyH_done (by kernel_rfl) ?_ _
  have HF6 : Hid (Fresh w w6) := HF4.out.trans hHeld (fun _ _ f => f)
  clear hHeld HX4 HES4 HF4 HK4
  clear hnw
  go_wp2_with fail
  have hB2 : base ≤ w6.heap.size := by have := HF6.out.size; have := HBB.out; omega
  go_loopw [11, 43] (fun v11 i wr => ∃ k : Nat, k ≤ E6.length ∧ i = .int .i64 k ∧ Hid (RidsS wr w6.heap.size v11 (ridsOf key (E6.take k))) ∧ Hid (Fresh w6 wr)) (fun _ i _ => E6.length - (intOf i).toNat)
  case atStart => exact ⟨0, Nat.zero_le _, rfl, by show RidsS _ _ _ _; simp [RidsS, ridsOf, ridCells]; exact World.ownsRow_nil _ _ _ _, Chg.refl _ _⟩
  case round =>
    obtain ⟨k, hk, rfl, HRS, HFR⟩ := hrel
    have hln := HLL.out
    by_cases hlt : k < E6.length
    · have hx := List.getElem?_eq_getElem hlt
      have hmem := List.getElem_mem hlt
      generalize E6[k] = x at *
      obtain ⟨⟨xm, xs⟩, xr⟩ := x
      have HX := Lib.hid hx
      have HR4 : Hid (4 ≤ xr.length) := (HREC.out _ hmem).1
      obtain ⟨g5, c5, cs5, vx5, bx5, he1, hg5, hb5, hcs5, hcl5, hsl5, hbx5, hcap⟩ := (HE6.out.fresh HFR.out).at_ hx
      simp only [Value.slice.injEq, true_and] at he1
      obtain ⟨rfl, rfl⟩ := he1
      obtain ⟨ox5, cx5, rfl⟩ := hsl5.shape
      have HCP : Hid (xr.length ≤ cx5) := hcap _ _ _ rfl
      obtain ⟨so, hso, hsl⟩ := run_sliceFrom bx5 ox5 xr.length cx5 4 .i64 HR4.out HCP.out 4 rfl
      have HSO := Lib.hid hso
      have HB5 := Lib.hid hb5
      have HCS5 := Lib.hid hcs5
      have HCL5 := Lib.hid hcl5
      have HSL5 := Lib.hid hsl5
      have HTK := Lib.hid (ridsOf_take (key := key) hx)
      simp only at HTK
      clear hx hmem hb5 hcs5 hcl5 hsl5 hcap hso
      go_wp2_with (first
        | (refine wpList_loadA rfl 73 _ rfl g5 (k * 3) rfl _ _ HB5.out 3 _ HCS5.out _ Tryz.underlying73 rfl infoEnt HCL5.out ?_)
        | (refine wpList_allocA rfl 73 rfl [.int .i64 0, .int .i64 0, .slice none 0 0] Tryz.zeroValue73 ?_
           intro w7 HB7 HF7 HS7)
        | (refine wpList_storeA rfl 73 _ _ rfl wr.heap.size 0 rfl [.int .i64 xm, .int .i64 xs, .slice (some ⟨bx5, ox5, none⟩) xr.length cx5] rfl _ _ HB7.out infoEnt (by simp) (by simp [Value.oneCell']) ?_
           intro w8 HB8 HC8
           have HF8 : Hid (Fresh wr w8) := HF7.out.trans HC8.out (fun k hk e => by omega)))
      have c8 : w8.drew.cell? ⟨wr.heap.size, 2, none⟩ = some (.slice (some ⟨bx5, ox5, none⟩) xr.length cx5) := (by rw [HB8.out.drew.cell]; rfl)
      have HQB := Lib.hid HB8.out.drew
      have HF8d := Lib.hid HF8.out.drew
      have HSL8 := Lib.hid (HSL5.out.chg HF8d.out id)
      have HK8 : Hid (BytesV w8.drew (.slice ak key.length ck) key) := HK.out.fresh ((HF6.out.trans HFR.out (fun _ _ f => f)).trans HF8d.out (fun _ _ f => f))
      have HRS8 := Lib.hid (HF8d.out.owns HRS.out (fun _ _ f => f))
      have HF9 := Lib.hid (HFR.out.trans HF8d.out (fun _ _ f => f))
      have hqq : w6.heap.size ≤ wr.heap.size ∧ g5 < wr.heap.size ∧ bx5 < wr.heap.size := ⟨HFR.out.size, HB5.out.lt, HSL5.out.lt⟩
      clear HB7 HF7 HS7 HB8 HC8 HF8 HB5 HCS5 HCL5 HRS
      generalize hqr : wr.heap.size = qr at *
      have HQR := Lib.hid hqr
      clear hqr
      cases hky : (xr.drop 4 == key) with
      | false =>
        rw [hky] at HTK
        refine wp_region_held_drew (S := fun W => Fresh w8.drew W) (by kernel_rfl) (Chg.refl _ _) (fun hHeld => ?_)
        generalize w8.drew = w9 at *
        refine takeL 0 (.pointer (some ⟨qr, 2, none⟩)) rfl (by kernel_rfl) (by kernel_rfl) (by kernel_rfl) (fun _ _ _ h => h) (Or.inl ⟨by rfl, fun W hW => by go_simp⟩) hHeld ?_
        try simp only [Act.put, List.setIfInBounds_toArray, List.set_cons_zero, List.set_cons_succ]
        refine takeL 1 (.slice (some ⟨bx5, ox5, none⟩) xr.length cx5) rfl (by kernel_rfl) (by kernel_rfl) (by kernel_rfl) (fun _ _ _ h => h) (Or.inl ⟨by rfl, fun W hW => by have c := hW.cell c8 id; go_simp⟩) hHeld ?_
        try simp only [Act.put, List.setIfInBounds_toArray, List.set_cons_zero, List.set_cons_succ]
        refine takeL 2 (.slice (some ⟨bx5, so, none⟩) (xr.length - 4) (cx5 - 4)) rfl (by kernel_rfl) (by kernel_rfl) (by kernel_rfl) (fun _ _ _ h => h) (Or.inl ⟨by rfl, fun W hW => by go_simp⟩) hHeld ?_
        try simp only [Act.put, List.setIfInBounds_toArray, List.set_cons_zero, List.set_cons_succ]
        refine takeL 3 (.string ⟨(xr.drop 4).toArray⟩) rfl (by kernel_rfl) (by kernel_rfl) (by kernel_rfl) (fun _ _ _ h => h) (Or.inl ⟨by rfl, fun W hW => by exact execToStr rfl rfl ((HSL8.out.chg hW id).cut HR4.out HCP.out HSO.out)⟩) hHeld ?_
        try simp only [Act.put, List.setIfInBounds_toArray, List.set_cons_zero, List.set_cons_succ]
        refine takeL 4 (.slice ak key.length ck) rfl (by kernel_rfl) (by kernel_rfl) (by kernel_rfl) (fun _ _ _ h => h) (Or.inl ⟨by rfl, fun W hW => by rfl⟩) hHeld ?_
        try simp only [Act.put, List.setIfInBounds_toArray, List.set_cons_zero, List.set_cons_succ]
        refine takeL 5 (.string ⟨key.toArray⟩) rfl (by kernel_rfl) (by kernel_rfl) (by kernel_rfl) (fun _ _ _ h => h) (Or.inl ⟨by rfl, fun W hW => by exact execToStr rfl rfl (HK8.out.fresh hW)⟩) hHeld ?_
        try simp only [Act.put, List.setIfInBounds_toArray, List.set_cons_zero, List.set_cons_succ]
        refine takeL 6 (.bool false) rfl (by kernel_rfl) (by kernel_rfl) (by kernel_rfl) (fun _ _ _ h => h) (Or.inl ⟨by rfl, fun W hW => by go_simp⟩) hHeld ?_
        try simp only [Act.put, List.setIfInBounds_toArray, List.set_cons_zero, List.set_cons_succ]
        refine wpAnyH_done (by kernel_rfl) ?_ _
        clear hHeld
        have HTK2 : Hid (ridsOf key (E6.take (k + 1)) = ridsOf key (E6.take k)) := by show _ = _; rw [HTK.out]; simp
        clear hky
        go_wp2
        go_roundw
        case rel => exact ⟨k + 1, by omega, by go_num, by show RidsS _ _ _ _; rw [HTK2.out]; exact HRS8.out, HF9.out⟩
        case measure => simp [intOf]; omega
      | true =>
        rw [hky] at HTK
        have hrowq : ¬ u11.ownBlock = some qr := owns_other HRS8.out HQB.out (by decide)
        have hrowb : ¬ u11.ownBlock = some bx5 := by
          obtain ⟨_, _, cur, _, hh, _⟩ := HSL8.out
          exact owns_other HRS8.out hh (by decide)
        refine wp_region_held_drew (S := fun W => Fresh w8.drew W) (by kernel_rfl) (Chg.refl _ _) (fun hHeld => ?_)
        generalize w8.drew = w9 at *
        refine takeL 0 (.pointer (some ⟨qr, 2, none⟩)) rfl (by kernel_rfl) (by kernel_rfl) (by kernel_rfl) (fun _ _ _ h => h) (Or.inl ⟨by rfl, fun W hW => by go_simp⟩) hHeld ?_
        try simp only [Act.put, List.setIfInBounds_toArray, List.set_cons_zero, List.set_cons_succ]
        refine takeL 1 (.slice (some ⟨bx5, ox5, none⟩) xr.length cx5) rfl (by kernel_rfl) (by kernel_rfl) (by kernel_rfl) (fun _ _ _ h => h) (Or.inl ⟨by rfl, fun W hW => by have c := hW.cell c8 id; go_simp⟩) hHeld ?_
        try simp only [Act.put, List.setIfInBounds_toArray, List.set_cons_zero, List.set_cons_succ]
        refine takeL 2 (.slice (some ⟨bx5, so, none⟩) (xr.length - 4) (cx5 - 4)) rfl (by kernel_rfl) (by kernel_rfl) (by kernel_rfl) (fun _ _ _ h => h) (Or.inl ⟨by rfl, fun W hW => by go_simp⟩) hHeld ?_
        try simp only [Act.put, List.setIfInBounds_toArray, List.set_cons_zero, List.set_cons_succ]
        refine takeL 3 (.string ⟨(xr.drop 4).toArray⟩) rfl (by kernel_rfl) (by kernel_rfl) (by kernel_rfl) (fun _ _ _ h => h) (Or.inl ⟨by rfl, fun W hW => by exact execToStr rfl rfl ((HSL8.out.chg hW id).cut HR4.out HCP.out HSO.out)⟩) hHeld ?_
        try simp only [Act.put, List.setIfInBounds_toArray, List.set_cons_zero, List.set_cons_succ]
        refine takeL 4 (.slice ak key.length ck) rfl (by kernel_rfl) (by kernel_rfl) (by kernel_rfl) (fun _ _ _ h => h) (Or.inl ⟨by rfl, fun W hW => by rfl⟩) hHeld ?_
        try simp only [Act.put, List.setIfInBounds_toArray, List.set_cons_zero, List.set_cons_succ]
        refine takeL 5 (.string ⟨key.toArray⟩) rfl (by kernel_rfl) (by kernel_rfl) (by kernel_rfl) (fun _ _ _ h => h) (Or.inl ⟨by rfl, fun W hW => by exact execToStr rfl rfl (HK8.out.fresh hW)⟩) hHeld ?_
        try simp only [Act.put, List.setIfInBounds_toArray, List.set_cons_zero, List.set_cons_succ]
        refine takeL 6 (.bool true) rfl (by kernel_rfl) (by kernel_rfl) (by kernel_rfl) (fun _ _ _ h => h) (Or.inl ⟨by rfl, fun W hW => by go_simp⟩) hHeld ?_
        try simp only [Act.put, List.setIfInBounds_toArray, List.set_cons_zero, List.set_cons_succ]
        refine wpAnyH_done (by kernel_rfl) ?_ _
        clear hHeld
        clear hky
        go_wp2_with fail
        obtain ⟨x0, x1, x2, x3, xt, rfl⟩ : ∃ x0 x1 x2 x3 xt, xr = x0 :: x1 :: x2 :: x3 :: xt := by
          match xr, HR4.out with
          | x0 :: x1 :: x2 :: x3 :: xt, _ => exact ⟨x0, x1, x2, x3, xt, rfl⟩
        have hby := HSL8.out.bytes.2.2
        have hb0 : w9.drew.cell? ⟨bx5, ox5, none⟩ = some (.int .u8 (x0.toNat : Int)) := hby 0 x0 rfl
        have hb1 : w9.drew.cell? ⟨bx5, ox5 + 1, none⟩ = some (.int .u8 (x1.toNat : Int)) := hby 1 x1 rfl
        have hb2 : w9.drew.cell? ⟨bx5, ox5 + 2, none⟩ = some (.int .u8 (x2.toNat : Int)) := hby 2 x2 rfl
        have hb3 : w9.drew.cell? ⟨bx5, ox5 + 3, none⟩ = some (.int .u8 (x3.toNat : Int)) := hby 3 x3 rfl
        have c9 : w9.drew.cell? ⟨qr, 2, none⟩ = some (.slice (some ⟨bx5, ox5, none⟩) (x0 :: x1 :: x2 :: x3 :: xt).length cx5) := c8
        have hlx : 4 ≤ (x0 :: x1 :: x2 :: x3 :: xt).length := by simp
        have HRD := Lib.hid ((((Chg.refl (fun _ => False) w9).drew)).owns HRS8.out (fun _ _ f => f))
        have HFD := Lib.hid HF9.out.drew
        have hRl := ridsOf_len key E6 k
        have HTK2 : Hid (ridsOf key (E6.take (k + 1)) = ridsOf key (E6.take k) ++ [(x0.toNat + 256 * x1.toNat, x2.toNat + 256 * x3.toNat)]) := by show _ = _; rw [HTK.out]; rfl
        clear hby HTK HRS8 HF9 c8 HSL8 HQB HK8 hsl
        generalize (x0 :: x1 :: x2 :: x3 :: xt).length = xl at *
        have hz0 : ¬ xl = 0 := by omega
        have hz1 : ¬ (xl : Int) ≤ 1 := by omega
        have hz2 : ¬ (xl : Int) ≤ 2 := by omega
        have hz3 : ¬ (xl : Int) ≤ 3 := by omega
        generalize ridsOf key (E6.take k) = R at *
        have hor := or_bytes x0.toNat x1.toNat x0.toNat_lt (by have := x1.toNat_lt; omega)
        have hor2 := or_bytes x2.toNat x3.toNat x2.toNat_lt (by have := x3.toNat_lt; omega)
        generalize x0.toNat + 256 * x1.toNat = m1 at *
        generalize x2.toNat + 256 * x3.toNat = m2 at *
        have hx0w : IntKind.i64.wrap (x0.toNat : Int) = x0.toNat := IntWalk.i64_in _ (by have := x0.toNat_lt; omega)
        have hx1w : IntKind.i64.wrap (x1.toNat : Int) = x1.toNat := IntWalk.i64_in _ (by have := x1.toNat_lt; omega)
        have hx2w : IntKind.i64.wrap (x2.toNat : Int) = x2.toNat := IntWalk.i64_in _ (by have := x2.toNat_lt; omega)
        have hx3w : IntKind.i64.wrap (x3.toNat : Int) = x3.toNat := IntWalk.i64_in _ (by have := x3.toNat_lt; omega)
        have hx1m : IntKind.i64.wrap ((x1.toNat : Int) * 256) = (x1.toNat : Int) * 256 := IntWalk.i64_in _ (by have := x1.toNat_lt; omega)
        have hx3m : IntKind.i64.wrap ((x3.toNat : Int) * 256) = (x3.toNat : Int) * 256 := IntWalk.i64_in _ (by have := x3.toNat_lt; omega)
        generalize hb6' : w6.heap.size = b6 at *
        have HB6' := Lib.hid hb6'
        clear hb6'
        have hb6d : b6 ≤ w9.drew.heap.size := by have := HFD.out.size; have := HB6'.out; omega
        refine wp_region_held_drew (S := fun W => Chg (fun j => u11.ownBlock = some j) w9.drew W) (by kernel_rfl) (Chg.refl _ _) (fun hHeld => ?_)
        generalize w9.drew = wd at *
        refine takeL 0 (u11) rfl (by kernel_rfl) (by kernel_rfl) (by kernel_rfl) (fun _ _ _ h => h) (Or.inl ⟨by rfl, fun W hW => by rfl⟩) hHeld ?_
        try simp only [Act.put, List.setIfInBounds_toArray, List.set_cons_zero, List.set_cons_succ]
        refine takeL 1 (.pointer (some ⟨qr, 2, none⟩)) rfl (by kernel_rfl) (by kernel_rfl) (by kernel_rfl) (fun _ _ _ h => h) (Or.inl ⟨by rfl, fun W hW => by go_simp⟩) hHeld ?_
        try simp only [Act.put, List.setIfInBounds_toArray, List.set_cons_zero, List.set_cons_succ]
        refine takeL 2 (.slice (some ⟨bx5, ox5, none⟩) xl cx5) rfl (by kernel_rfl) (by kernel_rfl) (by kernel_rfl) (fun _ _ _ h => h) (Or.inl ⟨by rfl, fun W hW => by have c := hW.cell c9 hrowq; go_simp⟩) hHeld ?_
        try simp only [Act.put, List.setIfInBounds_toArray, List.set_cons_zero, List.set_cons_succ]
        refine takeL 3 (.pointer (some ⟨bx5, ox5, none⟩)) rfl (by kernel_rfl) (by kernel_rfl) (by kernel_rfl) (fun _ _ _ h => h) (Or.inl ⟨by rfl, fun W hW => by go_simp⟩) hHeld ?_
        try simp only [Act.put, List.setIfInBounds_toArray, List.set_cons_zero, List.set_cons_succ]
        refine takeL 4 (.int .u8 (x0.toNat : Int)) rfl (by kernel_rfl) (by kernel_rfl) (by kernel_rfl) (fun _ _ _ h => h) (Or.inl ⟨by rfl, fun W hW => by have c := hW.cell hb0 hrowb; go_simp⟩) hHeld ?_
        try simp only [Act.put, List.setIfInBounds_toArray, List.set_cons_zero, List.set_cons_succ]
        refine takeL 5 (.int .i64 (x0.toNat : Int)) rfl (by kernel_rfl) (by kernel_rfl) (by kernel_rfl) (fun _ _ _ h => h) (Or.inl ⟨by rfl, fun W hW => by go_simp⟩) hHeld ?_
        try simp only [Act.put, List.setIfInBounds_toArray, List.set_cons_zero, List.set_cons_succ]
        refine takeL 6 (.pointer (some ⟨qr, 2, none⟩)) rfl (by kernel_rfl) (by kernel_rfl) (by kernel_rfl) (fun _ _ _ h => h) (Or.inl ⟨by rfl, fun W hW => by go_simp⟩) hHeld ?_
        try simp only [Act.put, List.setIfInBounds_toArray, List.set_cons_zero, List.set_cons_succ]
        refine takeL 7 (.slice (some ⟨bx5, ox5, none⟩) xl cx5) rfl (by kernel_rfl) (by kernel_rfl) (by kernel_rfl) (fun _ _ _ h => h) (Or.inl ⟨by rfl, fun W hW => by have c := hW.cell c9 hrowq; go_simp⟩) hHeld ?_
        try simp only [Act.put, List.setIfInBounds_toArray, List.set_cons_zero, List.set_cons_succ]
        refine takeL 8 (.pointer (some ⟨bx5, ox5 + 1, none⟩)) rfl (by kernel_rfl) (by kernel_rfl) (by kernel_rfl) (fun _ _ _ h => h) (Or.inl ⟨by rfl, fun W hW => by go_simp⟩) hHeld ?_
        try simp only [Act.put, List.setIfInBounds_toArray, List.set_cons_zero, List.set_cons_succ]
        refine takeL 9 (.int .u8 (x1.toNat : Int)) rfl (by kernel_rfl) (by kernel_rfl) (by kernel_rfl) (fun _ _ _ h => h) (Or.inl ⟨by rfl, fun W hW => by have c := hW.cell hb1 hrowb; go_simp⟩) hHeld ?_
        try simp only [Act.put, List.setIfInBounds_toArray, List.set_cons_zero, List.set_cons_succ]
        refine takeL 10 (.int .i64 (x1.toNat : Int)) rfl (by kernel_rfl) (by kernel_rfl) (by kernel_rfl) (fun _ _ _ h => h) (Or.inl ⟨by rfl, fun W hW => by go_simp⟩) hHeld ?_
        try simp only [Act.put, List.setIfInBounds_toArray, List.set_cons_zero, List.set_cons_succ]
        refine takeL 11 (.int .i64 ((x1.toNat : Int) * 256)) rfl (by kernel_rfl) (by kernel_rfl) (by kernel_rfl) (fun _ _ _ h => h) (Or.inl ⟨by rfl, fun W hW => by go_simp⟩) hHeld ?_
        try simp only [Act.put, List.setIfInBounds_toArray, List.set_cons_zero, List.set_cons_succ]
        refine takeL 12 (.int .i64 (m1 : Int)) rfl (by kernel_rfl) (by kernel_rfl) (by kernel_rfl) (fun _ _ _ h => h) (Or.inl ⟨by rfl, fun W hW => by go_simp⟩) hHeld ?_
        try simp only [Act.put, List.setIfInBounds_toArray, List.set_cons_zero, List.set_cons_succ]
        refine takeL 13 (.pointer (some ⟨qr, 2, none⟩)) rfl (by kernel_rfl) (by kernel_rfl) (by kernel_rfl) (fun _ _ _ h => h) (Or.inl ⟨by rfl, fun W hW => by go_simp⟩) hHeld ?_
        try simp only [Act.put, List.setIfInBounds_toArray, List.set_cons_zero, List.set_cons_succ]
        refine takeL 14 (.slice (some ⟨bx5, ox5, none⟩) xl cx5) rfl (by kernel_rfl) (by kernel_rfl) (by kernel_rfl) (fun _ _ _ h => h) (Or.inl ⟨by rfl, fun W hW => by have c := hW.cell c9 hrowq; go_simp⟩) hHeld ?_
        try simp only [Act.put, List.setIfInBounds_toArray, List.set_cons_zero, List.set_cons_succ]
        refine takeL 15 (.pointer (some ⟨bx5, ox5 + 2, none⟩)) rfl (by kernel_rfl) (by kernel_rfl) (by kernel_rfl) (fun _ _ _ h => h) (Or.inl ⟨by rfl, fun W hW => by go_simp⟩) hHeld ?_
        try simp only [Act.put, List.setIfInBounds_toArray, List.set_cons_zero, List.set_cons_succ]
        refine takeL 16 (.int .u8 (x2.toNat : Int)) rfl (by kernel_rfl) (by kernel_rfl) (by kernel_rfl) (fun _ _ _ h => h) (Or.inl ⟨by rfl, fun W hW => by have c := hW.cell hb2 hrowb; go_simp⟩) hHeld ?_
        try simp only [Act.put, List.setIfInBounds_toArray, List.set_cons_zero, List.set_cons_succ]
        refine takeL 17 (.int .i64 (x2.toNat : Int)) rfl (by kernel_rfl) (by kernel_rfl) (by kernel_rfl) (fun _ _ _ h => h) (Or.inl ⟨by rfl, fun W hW => by go_simp⟩) hHeld ?_
        try simp only [Act.put, List.setIfInBounds_toArray, List.set_cons_zero, List.set_cons_succ]
        refine takeL 18 (.pointer (some ⟨qr, 2, none⟩)) rfl (by kernel_rfl) (by kernel_rfl) (by kernel_rfl) (fun _ _ _ h => h) (Or.inl ⟨by rfl, fun W hW => by go_simp⟩) hHeld ?_
        try simp only [Act.put, List.setIfInBounds_toArray, List.set_cons_zero, List.set_cons_succ]
        refine takeL 19 (.slice (some ⟨bx5, ox5, none⟩) xl cx5) rfl (by kernel_rfl) (by kernel_rfl) (by kernel_rfl) (fun _ _ _ h => h) (Or.inl ⟨by rfl, fun W hW => by have c := hW.cell c9 hrowq; go_simp⟩) hHeld ?_
        try simp only [Act.put, List.setIfInBounds_toArray, List.set_cons_zero, List.set_cons_succ]
        refine takeL 20 (.pointer (some ⟨bx5, ox5 + 3, none⟩)) rfl (by kernel_rfl) (by kernel_rfl) (by kernel_rfl) (fun _ _ _ h => h) (Or.inl ⟨by rfl, fun W hW => by go_simp⟩) hHeld ?_
        try simp only [Act.put, List.setIfInBounds_toArray, List.set_cons_zero, List.set_cons_succ]
        refine takeL 21 (.int .u8 (x3.toNat : Int)) rfl (by kernel_rfl) (by kernel_rfl) (by kernel_rfl) (fun _ _ _ h => h) (Or.inl ⟨by rfl, fun W hW => by have c := hW.cell hb3 hrowb; go_simp⟩) hHeld ?_
        try simp only [Act.put, List.setIfInBounds_toArray, List.set_cons_zero, List.set_cons_succ]
        refine takeL 22 (.int .i64 (x3.toNat : Int)) rfl (by kernel_rfl) (by kernel_rfl) (by kernel_rfl) (fun _ _ _ h => h) (Or.inl ⟨by rfl, fun W hW => by go_simp⟩) hHeld ?_
        try simp only [Act.put, List.setIfInBounds_toArray, List.set_cons_zero, List.set_cons_succ]
        refine takeL 23 (.int .i64 ((x3.toNat : Int) * 256)) rfl (by kernel_rfl) (by kernel_rfl) (by kernel_rfl) (fun _ _ _ h => h) (Or.inl ⟨by rfl, fun W hW => by go_simp⟩) hHeld ?_
        try simp only [Act.put, List.setIfInBounds_toArray, List.set_cons_zero, List.set_cons_succ]
        refine takeL 24 (.int .i64 (m2 : Int)) rfl (by kernel_rfl) (by kernel_rfl) (by kernel_rfl) (fun _ _ _ h => h) (Or.inl ⟨by rfl, fun W hW => by go_simp⟩) hHeld ?_
        try simp only [Act.put, List.setIfInBounds_toArray, List.set_cons_zero, List.set_cons_succ]
        refine takeL 25 (.agg #[.int .i64 (m1 : Int), .int .i64 (m2 : Int)]) rfl (by kernel_rfl) (by kernel_rfl) (by kernel_rfl) (fun _ _ _ h => h) (Or.inl ⟨by rfl, fun W hW => by go_simp⟩) hHeld ?_
        try simp only [Act.put, List.setIfInBounds_toArray, List.set_cons_zero, List.set_cons_succ]
        refine oneL 26 rfl (by kernel_rfl) (by rfl) (fun K hK => ?_)
        refine wp_sliceOne 28 45 2 _ rfl [.int .i64 m1, .int .i64 m2] rfl rfl (by omega) (.agg #[.int .i64 0, .int .i64 0]) 16 Tryz.underlying28 infoRid3 ?_
        intro wa HBA HFA HSA
        refine hK.out _ _ (hHeld.trans HFA.out (fun _ _ f => f.elim)) (fun hHeld => ?_)
        clear hK K
        try simp only [Act.put, List.setIfInBounds_toArray, List.set_cons_zero, List.set_cons_succ]
        refine oneL 27 rfl (by kernel_rfl) (by rfl) (fun K hK => ?_)
        refine wp_app _ _ 28 rfl 45 (.agg #[.int .i64 0, .int .i64 0]) 2 16 Tryz.underlying28 infoRid3 ridZero (by omega) b6 u11 R.length (ridCells R) rfl (HFA.out.owns HRD.out (fun _ _ f => f)) ⟨wd.heap.size, 0, none⟩ 1 1 [.int .i64 m1, .int .i64 m2] rfl rfl HBA.out.cells (by simp [Value.oneCell']) (by unfold maxLen; omega) (by omega) (by have := HFA.out.size; omega) (.inr (by omega)) ?_
        intro g' cap' wb HOB HCB HGB
        refine hK.out _ _ (hHeld.trans HCB.out (fun _ _ h => h)) (fun hHeld => ?_)
        clear hK K
        try simp only [Act.put, List.setIfInBounds_toArray, List.set_cons_zero, List.set_cons_succ]
        refine takeL 28 (.slice (some ⟨g', 0, none⟩) (R.length + 1) cap') rfl (by kernel_rfl) (by kernel_rfl) (by kernel_rfl) (fun _ _ _ h => h) (Or.inl ⟨by rfl, fun W hW => by rfl⟩) hHeld ?_
        try simp only [Act.put, List.setIfInBounds_toArray, List.set_cons_zero, List.set_cons_succ]
        refine wpAnyH_done (by kernel_rfl) ?_ _
        have HWB := Lib.hid hHeld
        clear hHeld
        go_wp2
        go_roundw
        case rel =>
          refine ⟨k + 1, by omega, by go_num, ?_, HFD.out.trans HWB.out (fun j hj hO => by have := (HRD.out.lt j hO).1; have := HB6'.out; omega)⟩
          show RidsS _ _ _ _
          rw [HTK2.out, HB6'.out]
          unfold RidsS
          rw [List.length_append, ridCells_snoc]
          exact HOB.out
        case measure => simp [intOf]; omega
    · obtain rfl : k = E6.length := by omega
      have hrs : RidsS wr w6.heap.size u11 (ridsOf key E6) := by have := HRS.out; rwa [List.take_length] at this
      have hRl : (ridsOf key E6).length ≤ E6.length := by have := ridsOf_len key E6 E6.length; rwa [List.take_length] at this
      have HF7 := Lib.hid (HF6.out.trans HFR.out (fun _ _ f => f))
      generalize ridsOf key E6 = R at *
      rcases hrs.2 with ⟨hv, h0⟩ | ⟨g7, cap7, cur7, hv, hg7, _⟩
      · have HR0 : Hid (R = []) := List.eq_nil_of_length_eq_zero h0
        subst hv
        clear hrs h0
        go_wp2_with fail
        refine (sortNil_any wr).mono ?_
        rintro e w7 ⟨rfl, rfl⟩
        go_wp2
        go_ret2
        refine ⟨.slice none 0 0, rfl, ?_, HF7.out⟩
        rw [← HFIN.out, HR0.out, show sortR [] = [] by simp [sortR]]
        exact World.ownsRow_nil _ _ _ _
      · subst hv
        have HRW := Lib.hid hrs
        clear hrs
        go_wp2_with fail
        refine (sortRids_any g7 cap7 w6.heap.size R wr HRW.out (by omega)).mono ?_
        rintro e w7 ⟨rfl, ho7, hc7⟩
        have HO7 := Lib.hid ho7
        have HC7 := Lib.hid hc7
        clear ho7 hc7
        go_wp2
        go_ret2
        refine ⟨_, rfl, ?_, HF7.out.trans HC7.out (fun j hj e => by have := HBB.out; omega)⟩
        rw [← HFIN.out]
        unfold RidsS
        rw [(sortR_perm R).length_eq]
        exact owns_base HO7.out (by have := HBB.out; omega)
end Go.Proofs.YtnmjkgnahhbnoaaGreat
