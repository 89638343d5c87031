/- Part 6 of the walks that the laws of package hash share (Pool1). -/
import Derived.Test.YtnmjkgnahhbnoaaGreatM02
import Derived.Test.YtnmjkgnahhbnoaaGreatM05
import Derived.Great.BuildSlice
set_option linter.unusedVariables false
set_option linter.unusedSimpArgs false
/- Walks of package pool: a batch's list of changes. -/
namespace Go.Proofs.YtnmjkgnahhbnoaaGreat
open Go.RowKit
set_option linter.unusedSimpArgs false

/-- The cells of images. -/
def imgCells : List (Nat × List UInt8) → List Value
  | [] => []
  | x :: l => (.int .i64 x.1 :: bvals x.2) ++ imgCells l
def ImgOk (L : List (Nat × List UInt8)) : Prop := ∀ x ∈ L, x.2.length = 512
theorem imgCells_len {L : List (Nat × List UInt8)} (h : ImgOk L) : (imgCells L).length = L.length * 513 := by
  induction L with
  | nil => rfl
  | cons x L ih =>
    have h1 := h x (by simp)
    have h2 := ih (fun y hy => h y (by simp [hy]))
    simp [imgCells, h1, h2]; omega
theorem imgCells_append (L M : List (Nat × List UInt8)) : imgCells (L ++ M) = imgCells L ++ imgCells M := by
  induction L with
  | nil => rfl
  | cons x L ih => simp [imgCells, ih]
theorem imgCells_split {L : List (Nat × List UInt8)} {i : Nat} {x : Nat × List UInt8} (hi : L[i]? = some x) : imgCells L = imgCells (L.take i) ++ ((.int .i64 x.1 :: bvals x.2) ++ imgCells (L.drop (i + 1))) := by
  have h1 : L = L.take i ++ (x :: L.drop (i + 1)) := by
    have hlt := (List.getElem?_eq_some_iff.1 hi).1
    rw [← (List.getElem?_eq_some_iff.1 hi).2, ← List.drop_eq_getElem_cons hlt, List.take_append_drop]
  have h2 := congrArg imgCells h1
  rw [imgCells_append] at h2
  exact h2
theorem ImgOk.take {L : List (Nat × List UInt8)} (h : ImgOk L) (i : Nat) : ImgOk (L.take i) := fun x hx => h x (List.mem_of_mem_take hx)
theorem imgCells_at {L : List (Nat × List UInt8)} (h : ImgOk L) {i : Nat} {x : Nat × List UInt8} (hi : L[i]? = some x) : ((imgCells L).drop (i * 513)).take 513 = .int .i64 x.1 :: bvals x.2 := by
  have hlt := (List.getElem?_eq_some_iff.1 hi).1
  have hx := h x (List.mem_of_getElem? hi)
  have hl : (imgCells (L.take i)).length = i * 513 := by rw [imgCells_len (h.take i), List.length_take, Nat.min_eq_left (by omega)]
  rw [imgCells_split hi, List.drop_left' hl, List.take_left' (by simp [hx])]
theorem imgCells_page {L : List (Nat × List UInt8)} (h : ImgOk L) {i : Nat} {x : Nat × List UInt8} (hi : L[i]? = some x) : ((imgCells L).drop (i * 513 + 1)).take 512 = bvals x.2 := by
  have h1 := congrArg (List.drop 1) (imgCells_at h hi)
  rw [List.drop_take, List.drop_drop] at h1
  exact h1
theorem imgCells_over {L : List (Nat × List UInt8)} (h : ImgOk L) {i : Nat} {x : Nat × List UInt8} (hi : L[i]? = some x) (p : List UInt8) (hp : p.length = 512) :
    over (imgCells L) (i * 513 + 1) (bvals p) = imgCells (L.set i (x.1, p)) := by
  have hlt := (List.getElem?_eq_some_iff.1 hi).1
  have hx := h x (List.mem_of_getElem? hi)
  have hl : (imgCells (L.take i)).length = i * 513 := by rw [imgCells_len (h.take i), List.length_take, Nat.min_eq_left (by omega)]
  have hi2 : (L.set i (x.1, p))[i]? = some (x.1, p) := by simp [hlt]
  have ht : (L.set i (x.1, p)).take i = L.take i := by rw [List.take_set_of_le (Nat.le_refl _)]
  have hd : (L.set i (x.1, p)).drop (i + 1) = L.drop (i + 1) := by rw [List.drop_set_of_lt (by omega)]
  rw [imgCells_split hi2, ht, hd, imgCells_split hi, over]
  have e1 : (imgCells (L.take i) ++ ((.int .i64 x.1 :: bvals x.2) ++ imgCells (L.drop (i + 1)))).take (i * 513 + 1) = imgCells (L.take i) ++ [.int .i64 x.1] := by
    rw [show i * 513 + 1 = (imgCells (L.take i)).length + 1 by omega, List.take_length_add_append]; rfl
  have e2 : (imgCells (L.take i) ++ ((.int .i64 x.1 :: bvals x.2) ++ imgCells (L.drop (i + 1)))).drop (i * 513 + 1 + (bvals p).length) = imgCells (L.drop (i + 1)) := by
    rw [show i * 513 + 1 + (bvals p).length = (imgCells (L.take i)).length + 513 by simp [hp]; omega, List.drop_length_add_append, List.drop_left' (by simp [hx])]
  rw [e1, e2]; simp

/-- Where a page's image stands. -/
def imgIdx (n : Nat) (L : List (Nat × List UInt8)) : Nat := L.findIdx fun x => x.1 == n
/-- The same, as the program tells it. -/
def imgRes (n : Nat) (L : List (Nat × List UInt8)) : Int := if imgIdx n L < L.length then (imgIdx n L : Int) else -1
/-- A page among the images. -/
def imgGet (n : Nat) (L : List (Nat × List UInt8)) : Option (List UInt8) := (L[imgIdx n L]?).map (·.2)
/-- A page laid among the images. -/
def imgPut (n : Nat) (p : List UInt8) (L : List (Nat × List UInt8)) : List (Nat × List UInt8) :=
  if imgIdx n L < L.length then L.set (imgIdx n L) (n, p) else L ++ [(n, p)]
theorem imgIdx_le (n : Nat) (L : List (Nat × List UInt8)) : imgIdx n L ≤ L.length := List.findIdx_le_length
theorem imgIdx_no {n : Nat} {L : List (Nat × List UInt8)} {x : Nat × List UInt8} (h : L[imgIdx n L]? = some x) : x.1 = n := by
  obtain ⟨h1, h2⟩ := List.getElem?_eq_some_iff.1 h
  have := List.findIdx_getElem (p := fun x : Nat × List UInt8 => x.1 == n) (xs := L) (w := h1)
  unfold imgIdx at h2
  rw [h2] at this
  simpa using this
theorem imgIdx_before {n : Nat} {L : List (Nat × List UInt8)} {i : Nat} (h : i < imgIdx n L) {x : Nat × List UInt8} (hx : L[i]? = some x) : (x.1 == n) = false := by
  obtain ⟨h1, rfl⟩ := List.getElem?_eq_some_iff.1 hx
  simpa using List.not_of_lt_findIdx h

theorem infoImage : (Tryz.prog.info? 138).map (·.size) = some 513 := by kernel_rfl
theorem infoImage3 : (Tryz.prog.info? 138).map (fun i => (i.zero, i.size, i.bytes)) = some (some (.agg Tryz.zeroCells138), 513, 520) := by kernel_rfl
theorem one_img (n : Nat) (p : List UInt8) : ∀ u ∈ (.int .i64 (n : Int) :: bvals p), u.oneCell' = true := by
  intro u hu
  rcases List.mem_cons.1 hu with rfl | h
  · rfl
  · exact bvals_one u h

/-- 'append(s, x...)' as an operation that comes up. -/
theorem wp_app {Pr : Program} {o : Oper} {a : Act} {w : World} {Q : Exit → Act → World → Prop} {K : Act → World → Prop} (s x : Operand) (t : TypeId) (ho : o.op = .call { callee := .builtin .append, args := #[s, x], argTypes := #[t, t] })
    (e : TypeId) (z : Value) (size bytes : Nat) (ht : Pr.underlying t = some (.slice e)) (hinfo : (Pr.info? e).map (fun i => (i.zero, i.size, i.bytes)) = some (some z, size, bytes))
    (hzs : z.cells.size = size) (hsz : 0 < size) (base : Nat) (v : Value) (n : Nat) (xs : List Value) (hs : a.eval s = v) (hown : w.ownsRow base e size v n xs)
    (ad : Addr) (m c : Nat) (news : List Value) (hx : a.eval x = .slice (some ad) m c) (hl : news.length = m * size) (hnews : ∀ j u, news[j]? = some u → w.cell? (ad.add j) = some u)
    (h1 : ∀ u ∈ news, u.oneCell' = true) (h63 : n + m ≤ maxLen) (hbytes : (n + m) * bytes ≤ 140737488355328) (hbase : base ≤ w.heap.size) (hnn : v ≠ .slice none 0 0 ∨ 0 < m)
    (h : ∀ g' cap' w', Hid (w'.ownsRow base e size (.slice (some ⟨g', 0, none⟩) (n + m) cap') (n + m) (xs ++ news)) → Hid (Chg (fun b => v.ownBlock = some b) w w') →
      Hid (v.ownBlock = some g' ∨ w.heap.size ≤ g') → K (a.put o.dst (.slice (some ⟨g', 0, none⟩) (n + m) cap')) w') : o.wp Pr a w K Q := by
  obtain ⟨i0, hi, hz0, hz1, hz2⟩ := info_parts hinfo
  obtain ⟨v', w', hr, h2, h3, h4⟩ := run_append_own (P := Pr) w base t o.type e i0 z size bytes ht hi hz0 hz1 hz2 hzs hsz v n xs hown ad m c news hl hnews h1 h63 hbytes hbase
  have hv' : v' ≠ .slice none 0 0 := fun e => by
    have := h4.1 e
    rcases hnn with hn | hn
    · exact hn this.1
    · omega
  have hchg : Chg (fun b => v.ownBlock = some b) w w' := (Chg.refl _ w).grown h3 fun k hk => .inl hk
  obtain ⟨g', cap', rfl⟩ : ∃ g' cap', v' = .slice (some ⟨g', 0, none⟩) (n + m) cap' := by
    rcases h2.2 with ⟨hn, _⟩ | ⟨g, cap, cur, rfl, _⟩
    · exact absurd hn hv'
    · exact ⟨g, cap, rfl⟩
  have hg' : v.ownBlock = some g' ∨ w.heap.size ≤ g' := by
    by_cases hlt : g' < w.heap.size
    · rcases hown.2 with ⟨hv, hn0⟩ | ⟨g, cap, cur, hv, _, hgg, hnc, hcm, hcs, htake⟩
      · exfalso
        subst hv; subst hn0
        have hm : 0 < m := hnn.resolve_left (fun h => h rfl)
        have := run_append_nil (P := Pr) w t o.type e i0 z ht hi hz0 ad m c news (by rw [hz1]; exact hl) hnews (by omega) (by unfold maxLen at h63; omega) (by rw [hz2]; simp only [Nat.zero_add] at hbytes; omega)
        rw [this] at hr
        simp at hr
      · subst hv
        by_cases hroom : n + m ≤ cap
        · have hr2 := run_append_room (P := Pr) w t o.type e i0 ht hi g n cap cur hgg ad m c news (by rw [hz1]; exact hl) hnews h1 hroom (by rw [hz1, hl, hcs, ← Nat.add_mul]; exact Nat.mul_le_mul_right _ hroom)
          rw [hr2] at hr
          simp at hr
          exact .inl (by simp [Value.ownBlock, hr.1])
        · have holds : ∀ j u, xs[j]? = some u → w.cell? ((⟨g, 0, none⟩ : Addr).add j) = some u := hown.cells (g := g) rfl
          have hr2 := run_append_grow (P := Pr) w t o.type e i0 z ht hi hz0 ⟨g, 0, none⟩ n cap xs (by rw [hz1]; exact hown.1) holds ad m c news (by rw [hz1]; exact hl) hnews (by omega) (by unfold maxLen at h63; omega) (by rw [hz2]; exact growslice_fits (by omega) hbytes)
          rw [hr2] at hr
          simp at hr
    · exact .inr (by omega)
  unfold Oper.wp execOp
  simp only [ho, resolve, invoke, builtin, Sem.run_bind, Sem.run_pure, Result.andThen_ok, List.map_toArray, List.map_cons, List.map_nil, hs, hx, hr]
  exact h g' cap' w' h2 hchg hg'

theorem wp_loadA {Pr : Program} {o : Oper} {a : Act} {w : World} {Q : Exit → Act → World → Prop} {K : Act → World → Prop} (ty : TypeId) (x : Operand) (ho : o.op = .load ty x)
    (b off : Nat) (hx : a.eval x = .pointer (some ⟨b, off, none⟩)) (e : TypeId) (cs : List Value) (hb : Blk w b e cs) (n : Nat) (vs : List Value) (hv : (cs.drop off).take n = vs)
    (d : TypeDesc) (hu : Pr.underlying ty = some d) (hd : d.isRow = true) (hi : (Pr.info? ty).map (·.size) = some n) (hn : off + n ≤ cs.length)
    (h : K (a.put o.dst (.agg vs.toArray)) w) : o.wp Pr a w K Q := by
  unfold Oper.wp execOp
  simp only [ho, hx, Instr.loadAt, Instr.sureAddr, Sem.run_bind, Sem.run_pure, Result.andThen_ok, run_loadVar_mid (P := Pr) w b off ty vs d (hb.range off n hv) hu hd (by rw [hi, ← hv]; congr 1; simp; omega)]
  exact h

theorem foldl_over (off : Nat) (l : List Value) (cs : Array Value) (h : off + l.length ≤ cs.size) :
    (l.zipIdx.foldl (fun cs (x : Value × Nat) => cs.setIfInBounds (off + x.2) x.1) cs) = (over cs.toList off l).toArray := by
  obtain ⟨h1, h2⟩ := Great.foldl_set off l 0 cs
  apply Array.ext_getElem?
  intro k
  have e1 : (over cs.toList off l).toArray[k]? = (over cs.toList off l)[k]? := by simp
  have e2 : cs[k]? = cs.toList[k]? := by simp
  rw [h2 k, e1, e2]
  by_cases hk : off ≤ k ∧ k < off + l.length
  · rw [if_pos (by omega), over_get_in _ _ _ _ (by rw [Array.length_toList]; omega) hk.1 hk.2]; rfl
  · rw [if_neg (by omega), over_get_out _ _ _ _ (by rw [Array.length_toList]; omega) (by omega)]
theorem fill_step (place : Nat → Option (Nat × Nat)) (cells : Array Value) (i : Nat) (v : Value) (rest : List (Nat × Value)) (off size : Nat) (hp : place i = some (off, size)) (hv : v.cells.size = size) (hle : off + size ≤ cells.size) :
    Instr.fill place cells ((i, v) :: rest) = Instr.fill place (over cells.toList off v.cells.toList).toArray rest := by
  conv => lhs; unfold Instr.fill
  simp only [hp]
  rw [if_neg (by simp; omega), ← foldl_over off v.cells.toList cells (by simp; omega), ← Array.foldl_toList, Array.toList_zipIdx]
theorem builtImg (parts : List (Nat × Value)) : Tryz.prog.built 138 parts = Instr.fill (#[(0, 1), (1, 512)][·]?) (.int .i64 0 :: bvals zpage).toArray parts := by kernel_rfl
theorem imgBuild (w : World) (n : Int) (pg : List UInt8) (h : pg.length = 512) : (Instr.build 138 #[(0, .int .i64 n), (1, aggB pg)]).run Tryz.prog w = .ok (.agg (.int .i64 n :: bvals pg).toArray) w := by
  refine run_build w _ _ _ ?_
  have e1 : over (.int .i64 0 :: bvals zpage) 0 [.int .i64 n] = .int .i64 n :: bvals zpage := rfl
  have e2 : over (.int .i64 n :: bvals zpage) 1 (bvals pg) = .int .i64 n :: bvals pg := by
    have hd : (bvals zpage).drop 512 = [] := List.drop_eq_nil_of_le (by simp)
    simp [over, h, hd]
  rw [builtImg, fill_step _ _ _ _ _ 0 1 rfl rfl (by simp), fill_step _ _ _ _ _ 1 512 rfl (by simpa [Value.cells] using h) (by rw [List.size_toArray, over_length _ _ _ (by simp [Value.cells])]; simp)]
  show some _ = _
  simp only [Value.cells]
  rw [e1, e2]
theorem execBuild2 {Pr : Program} {o : Oper} (ev : Operand → Value) (w : World) (t : TypeId) (i j : Nat) (x y : Operand) (v : Value) (ho : o.op = .build t #[(i, x), (j, y)])
    (h : (Instr.build t #[(i, ev x), (j, ev y)]).run Pr w = .ok v w) : (execOp ev o).run Pr w = .ok (.value v) w := by
  unfold execOp
  have e : (#[(i, x), (j, y)] : Array (Nat × Operand)).map (fun (i, x) => (i, ev x)) = #[(i, ev x), (j, ev y)] := by simp
  simp only [ho, e, Sem.run_bind, h, Result.andThen_ok, Sem.run_pure]
theorem imgZero : (Value.agg Tryz.zeroCells138).cells.size = 513 := by kernel_rfl
theorem imgSlice (cs : List Value) (h : cs.length = 513) (z : Array Value) : Instr.fill (fun i => some (i * 513, 513)) ((Array.range (1 * 513)).map (z[· % z.size]!)) [(0, .agg cs.toArray)] = some cs.toArray := by
  have := Great.fill_whole (s := 513) (by omega) [.agg cs.toArray] ((Array.range (1 * 513)).map (z[· % z.size]!)) (by intro v hv; simp at hv; subst hv; simpa [Value.cells] using h) (by simp)
  simpa [Value.cells] using this
theorem wp_imgSlice {o : Oper} {a : Act} {w : World} {Q : Exit → Act → World → Prop} {K : Act → World → Prop} (x : Operand) (ho : o.op = .buildSlice 87 1 #[(0, x)]) (cs : List Value) (hx : a.eval x = .agg cs.toArray) (hl : cs.length = 513)
    (h : K (a.put o.dst (.slice (some ⟨w.heap.size, 0, none⟩) 1 1)) (w.alloc (.cells cs.toArray 138))) : o.wp Tryz.prog a w K Q := by
  obtain ⟨i0, hi, hz0, hz1, hz2⟩ := info_parts infoImage3
  refine wp_buildSlice 87 138 1 _ ho cs.toArray i0 _ Tryz.underlying87 hi hz0 (by rw [hz1]; decide) (by rw [hz1]; decide) ?_ h
  rw [hz1]
  have := imgSlice cs hl (Value.agg Tryz.zeroCells138).cells
  simpa [hx] using this

set_option maxHeartbeats 400000 in
theorem findFn_any (n : Nat) (x : Nat × List UInt8) (c : Addr) (w : World) (hx : x.2.length = 512) (hc : w.cell? c = some (.int .i64 n)) :
    Calls Tryz.prog 117 #[.agg (.int .i64 x.1 :: bvals x.2).toArray, .pointer (some c)] w fun e w' => e = .returned (.bool (x.1 == n)) ∧ Fresh w w' := by
  go_enter Tryz.func117, Tryz.ntmps117
  go_wp2_with (
    refine wpList_boxA rfl 138 _ rfl (.int .i64 x.1 :: bvals x.2) rfl ?_
    intro w1 HB1 HF1 HS1
    have c1 := HB1.out.cell 0
    have c2 := HF1.out.cell hc id
    simp only [List.getElem?_cons_zero] at c1)
  go_ret
  refine ⟨?_, HF1.out⟩
  have he : (((x.1 : Nat) : Int) == ((n : Nat) : Int)) = (x.1 == n) := by rw [Bool.eq_iff_iff]; simp; omega
  rw [← he]; rfl

/-- The block that images lie in. -/
theorem img_blk {w : World} {base : Nat} {a : Option Addr} {n cap : Nat} {L : List (Nat × List UInt8)} (hL : ImgOk L) (h : w.ownsRow base 138 513 (.slice a n cap) n (imgCells L)) (hn : 0 < n) :
    ∃ g cs, a = some ⟨g, 0, none⟩ ∧ Blk w g 138 cs ∧ n = L.length ∧ n * 513 ≤ cs.length ∧ ∀ o k, o + k ≤ n * 513 → (cs.drop o).take k = ((imgCells L).drop o).take k := by
  rcases h.2 with ⟨_, h0⟩ | ⟨g, cap', cur, hv, hb, hg, hnc, hcm, hcs, ht⟩
  · omega
  · simp only [Value.slice.injEq] at hv
    obtain ⟨rfl, _, rfl⟩ := hv
    have h1 := h.1
    rw [imgCells_len hL] at h1
    refine ⟨g, cur.toList, rfl, hg, by omega, ?_, fun o k hok => ?_⟩
    · rw [Array.length_toList, hcs]; exact Nat.mul_le_mul_right _ hnc
    · rw [← ht, List.drop_take, List.take_take, Nat.min_eq_left (by omega)]

set_option maxRecDepth 100000 in
set_option maxHeartbeats 400000 in
theorem idxFn_any (n : Nat) (L : List (Nat × List UInt8)) (a : Option Addr) (cap base : Nat) (c : Addr) (w : World) (hL : ImgOk L) (hn : L.length ≤ 1000000) (hr : w.ownsRow base 138 513 (.slice a L.length cap) L.length (imgCells L)) (hc : w.cell? c = some (.int .i64 n)) :
    Calls Tryz.prog 116 #[.slice a L.length cap, .func (.func 117) #[] #[.pointer (some c)]] w fun e w' => e = .returned (.int .i64 (imgRes n L)) ∧ Fresh w w' := by
  have HR := Lib.hid hr
  have HO := Lib.hid hL
  have HC := Lib.hid hc
  clear hr hL hc
  go_enter Tryz.func116, Tryz.ntmps116
  go_wp2
  go_loopw [8] (fun i wr => ∃ k : Nat, k ≤ imgIdx n L ∧ i = .int .i64 k ∧ Fresh w wr) (fun i _ => L.length - (intOf i).toNat)
  case atStart => exact ⟨0, by omega, rfl, Chg.refl _ _⟩
  case round =>
    obtain ⟨k, hk, rfl, hf⟩ := hrel
    have HF := Lib.hid hf
    have hle := imgIdx_le n L
    clear hf
    by_cases hlt : k < L.length
    · have hx := List.getElem?_eq_getElem hlt
      generalize L[k] = x at *
      obtain ⟨g, cs, rfl, hb, _, hcl, hcs⟩ := img_blk HO.out HR.out (by omega)
      have hxl := HO.out x (List.mem_of_getElem? hx)
      have h1 := imgCells_at HO.out hx
      rw [← hcs (k * 513) 513 (by omega)] at h1
      have HB := Lib.hid (hb.chg HF.out id)
      have HX := Lib.hid hx
      have HCS := Lib.hid h1
      have HCL : Hid (k * 513 + 513 ≤ cs.length) := by show _ ≤ _; omega
      clear hb h1 hcs hx hcl
      go_wp2_with (first
        | (refine wpList_loadA rfl 138 _ rfl g (k * 513) ?_ _ _ HB.out 513 _ HCS.out _ Tryz.underlying138 rfl infoImage HCL.out ?_)
        | fail)
      refine (findFn_any n x c _ hxl (HF.out.cell HC.out id)).mono ?_
      rintro e w2 ⟨rfl, hf2⟩
      have HF2 := Lib.hid (HF.out.trans hf2 (fun _ _ f => f))
      clear hf2
      cases hq : (x.1 == n) with
      | true =>
        have hk2 : imgIdx n L = k := by
          rcases Nat.lt_or_ge k (imgIdx n L) with h | h
          · rw [imgIdx_before h HX.out] at hq; cases hq
          · omega
        have HK := Lib.hid hk2
        clear hq hk2 hle hk
        go_wp2
        go_ret
        exact ⟨by rw [imgRes, HK.out, if_pos hlt]; rfl, HF2.out⟩
      | false =>
        have hk2 : k + 1 ≤ imgIdx n L := by
          rcases Nat.lt_or_ge k (imgIdx n L) with h | h
          · omega
          · obtain rfl : k = imgIdx n L := by omega
            have := imgIdx_no HX.out
            simp [this] at hq
        clear hq
        go_wp2
        go_roundw
        case rel => exact ⟨k + 1, hk2, by go_num, HF2.out⟩
        case measure => simp [intOf]; omega
    · have hk2 : ¬ imgIdx n L < L.length := by omega
      have HK := Lib.hid hk2
      clear hk2 hle hk
      go_wp2
      go_ret
      exact ⟨by rw [imgRes, if_neg HK.out]; rfl, HF.out⟩

/-- A batch: its pool, its changes. -/
structure BatchAt (w : World) (b p : Nat) (a : Option Addr) (cap : Nat) (L : List (Nat × List UInt8)) : Prop where
  blk : Blk w b 96 [.pointer (some ⟨p, 0, none⟩), .slice a L.length cap]
  row : w.ownsRow 0 138 513 (.slice a L.length cap) L.length (imgCells L)
  ok : ImgOk L
  short : L.length ≤ 100000

theorem BatchAt.chg {w w1 : World} {b p : Nat} {a : Option Addr} {cap : Nat} {L : List (Nat × List UInt8)} {F : Nat → Prop} (h : BatchAt w b p a cap L) (hc : Chg F w w1) (h1 : ¬ F b) (h2 : ∀ k, a.map (·.block) = some k → ¬ F k) : BatchAt w1 b p a cap L :=
  ⟨h.blk.chg hc h1, hc.owns h.row (fun k hk => h2 k (by rwa [ownBlock_slice] at hk)), h.ok, h.short⟩
theorem BatchAt.fresh {w w1 : World} {b p : Nat} {a : Option Addr} {cap : Nat} {L : List (Nat × List UInt8)} (h : BatchAt w b p a cap L) (hc : Fresh w w1) : BatchAt w1 b p a cap L := h.chg hc id (fun _ _ => id)

set_option maxHeartbeats 400000 in
theorem bfind_any (b p : Nat) (a : Option Addr) (cap : Nat) (L : List (Nat × List UInt8)) (n : Nat) (w : World) (h : BatchAt w b p a cap L) :
    Calls Tryz.prog 86 #[.pointer (some ⟨b, 0, none⟩), .int .i64 n] w fun e w' => e = .returned (.int .i64 (imgRes n L)) ∧ Fresh w w' := by
  have H := Lib.hid h
  clear h
  go_enter Tryz.func86, Tryz.ntmps86
  have c1 := (H.out.blk.alloc (.cells #[.int .i64 n] 3)).cell 1
  simp only [List.getElem?_cons_zero, List.getElem?_cons_succ] at c1
  go_wp2_with fail
  have H1 := Lib.hid (H.out.fresh ((Chg.refl (fun _ => False) w).alloc (.cells #[.int .i64 n] 3)))
  have HF1 := Lib.hid ((Chg.refl (fun _ => False) w).alloc (.cells #[.int .i64 n] 3))
  have cn : (w.alloc (.cells #[.int .i64 n] 3)).cell? ⟨w.heap.size, 0, none⟩ = some (.int .i64 n) := (Blk.newA w 3 #[.int .i64 n] rfl).cell 0
  clear H
  refine (idxFn_any n L a cap 0 ⟨w.heap.size, 0, none⟩ _ H1.out.ok (by have := H1.out.short; omega) H1.out.row cn).mono ?_
  rintro e w2 ⟨rfl, hf2⟩
  have HF2 := Lib.hid (HF1.out.trans hf2 (fun _ _ f => f))
  clear hf2
  go_wp2
  go_ret
  exact ⟨rfl, HF2.out⟩

theorem imgGet_some {n : Nat} {L : List (Nat × List UInt8)} {pg : List UInt8} (h : imgGet n L = some pg) : L[imgIdx n L]? = some (n, pg) ∧ imgIdx n L < L.length := by
  unfold imgGet at h
  cases hx : L[imgIdx n L]? with
  | none => rw [hx] at h; cases h
  | some x =>
    rw [hx] at h
    have h1 := imgIdx_no hx
    simp only [Option.map_some, Option.some.injEq] at h
    refine ⟨?_, (List.getElem?_eq_some_iff.1 hx).1⟩
    rw [← h, ← h1]

set_option maxRecDepth 100000 in
set_option maxHeartbeats 400000 in
theorem bread_hit (b p : Nat) (a : Option Addr) (cap : Nat) (L : List (Nat × List UInt8)) (n : Nat) (pg : List UInt8) (w : World) (h : BatchAt w b p a cap L) (hg : imgGet n L = some pg) :
    Calls Tryz.prog 84 #[.pointer (some ⟨b, 0, none⟩), .int .i64 n] w fun e w' => e = .returned (.tuple #[aggB pg, .int .i64 0]) ∧ Fresh w w' := by
  obtain ⟨hx, hi⟩ := imgGet_some hg
  have hsh := h.short
  have hpl := h.ok _ (List.mem_of_getElem? hx)
  have HPL : Hid (pg.length = 512) := hpl
  obtain ⟨g, cs, rfl, hb, _, hcl, hcs⟩ := img_blk h.ok h.row (by omega)
  have h1 := imgCells_page h.ok hx
  rw [← hcs (imgIdx n L * 513 + 1) 512 (by omega)] at h1
  have HB := Lib.hid hb
  have HCS : Hid (List.take 512 (List.drop (imgIdx n L * 513 + 1) cs) = bvals pg) := h1
  have HCL : Hid (imgIdx n L * 513 + 1 + 512 ≤ cs.length) := by show _ ≤ _; omega
  have HX := Lib.hid hx
  have hres : imgRes n L = (imgIdx n L : Int) := by rw [imgRes, if_pos hi]
  have HRES := Lib.hid hres
  have H := Lib.hid h
  clear hb h1 hcs hx hcl hg h hpl hres
  go_enter Tryz.func84, Tryz.ntmps84
  go_wp2_with (
    refine wpList_allocA rfl 111 rfl (bvals zpage) Tryz.zeroValue111 ?_
    intro w1 HB1 HF1 HS1)
  refine (bfind_any b p _ cap L n _ (H.out.fresh HF1.out)).mono ?_
  rintro e w2 ⟨rfl, hf2⟩
  rw [HRES.out]
  have HF2 := Lib.hid (HF1.out.trans hf2 (fun _ _ f => f))
  have HB2 := Lib.hid (HB1.out.chg hf2 id)
  have HG2 := Lib.hid (HB.out.chg HF2.out id)
  have c1 := (H.out.fresh HF2.out).blk.cell 1
  simp only [List.getElem?_cons_zero, List.getElem?_cons_succ] at c1
  clear hf2 HB1 HF1 HB H HX
  generalize hk : imgIdx n L = k at *
  go_wp2_with (first
    | (refine wpList_loadA rfl 111 _ rfl g (k * 513 + 1) rfl _ _ HG2.out 512 (bvals pg) HCS.out _ Tryz.underlying111 rfl infoPage HCL.out ?_)
    | (refine wpList_storeA rfl 111 _ _ rfl w.heap.size 0 rfl (bvals pg) rfl _ _ HB2.out (infoPage' HPL.out) (by simp [HPL.out]) bvals_one ?_
       intro w4 HB4 HC4))
  refine bodyPost_ret (results_cell_t Tryz.results84 _ _ w.heap.size 111 (bvals pg) _ rfl ?_ Tryz.underlying111 rfl (infoPage' HPL.out)) rfl ?_
  · have := HB4.out
    rwa [over_all _ _ (by simp [HPL.out])] at this
  · exact ⟨rfl, HF2.out.trans HC4.out (fun b hb e => by omega)⟩

/-- A pool's size. -/
structure PoolSz (w : World) (p d size : Nat) : Prop where
  data : w.cell? ⟨p, 0, none⟩ = some (.pointer (some ⟨d, 0, none⟩))
  sz : w.cell? ⟨d, 0, none⟩ = some (.int .i64 size)
  small : size ≤ 30720
theorem cell_lt {w : World} {a : Addr} {v : Value} (h : w.cell? a = some v) : a.block < w.heap.size := by
  rcases Nat.lt_or_ge a.block w.heap.size with h1 | h1
  · exact h1
  · exfalso
    unfold World.cell? at h
    rw [Array.getElem?_eq_none h1] at h
    cases h
theorem PoolSz.chg {w w1 : World} {p d size : Nat} {F : Nat → Prop} (h : PoolSz w p d size) (hc : Chg F w w1) (h1 : ¬ F p) (h2 : ¬ F d) : PoolSz w1 p d size :=
  ⟨hc.cell h.data h1, hc.cell h.sz h2, h.small⟩
theorem PoolSz.fresh {w w1 : World} {p d size : Nat} (h : PoolSz w p d size) (hc : Fresh w w1) : PoolSz w1 p d size := h.chg hc id id

set_option maxHeartbeats 400000 in
theorem size_cell (d size : Nat) (w : World) (c0 : w.cell? ⟨d, 0, none⟩ = some (.int .i64 size)) :
    Calls Tryz.prog 33 #[.pointer (some ⟨d, 0, none⟩)] w fun e w' => e = .returned (.int .i64 size) ∧ w = w' := by
  go_enter Tryz.func33, Tryz.ntmps33
  go_wp2
  go_ret
  exact ⟨rfl, rfl⟩

set_option maxHeartbeats 400000 in
theorem pages_any (p d size : Nat) (w : World) (h : PoolSz w p d size) :
    Calls Tryz.prog 36 #[.pointer (some ⟨p, 0, none⟩)] w fun e w' => e = .returned (.int .i64 (size / 8 : Nat)) ∧ w = w' := by
  have c0 := h.data
  have c1 := h.sz
  have h8 := h.small
  have hmin : min ((size : Int) / 8) 3840 = ((size / 8 : Nat) : Int) := by omega
  go_enter Tryz.func36, Tryz.ntmps36
  go_wp2_with fail
  refine (size_cell d size w c1).mono ?_
  rintro e w2 ⟨rfl, rfl⟩
  go_wp2
  go_ret
  exact ⟨ret_int (by omega), rfl⟩

theorem over_take {α : Type} (L : List α) (o n : Nat) (v : List α) (h : o + v.length ≤ n) (hn : n ≤ L.length) : (over L o v).take n = over (L.take n) o v := by
  apply List.ext_getElem?
  intro k
  rw [List.getElem?_take]
  by_cases hk : o ≤ k ∧ k < o + v.length
  · rw [if_pos (by omega), over_get_in _ _ _ _ (by omega) hk.1 hk.2, over_get_in _ _ _ _ (by simp; omega) hk.1 hk.2]
  · by_cases hkn : k < n
    · rw [if_pos hkn, over_get_out _ _ _ _ (by omega) (by omega), over_get_out _ _ _ _ (by simp; omega) (by omega), List.getElem?_take, if_pos hkn]
    · rw [if_neg hkn, over_get_out _ _ _ _ (by simp; omega) (by omega), List.getElem?_take, if_neg hkn]
set_option maxRecDepth 100000 in
theorem img_over {w w' : World} {g cap k : Nat} {L : List (Nat × List UInt8)} {cs : List Value} {x : Nat × List UInt8} {pg : List UInt8} (hL : ImgOk L) (h : w.ownsRow 0 138 513 (.slice (some ⟨g, 0, none⟩) L.length cap) L.length (imgCells L))
    (hb : Blk w g 138 cs) (hb' : Blk w' g 138 (over cs (k * 513 + 1) (bvals pg))) (hk : L[k]? = some x) (hp : pg.length = 512) :
    w'.ownsRow 0 138 513 (.slice (some ⟨g, 0, none⟩) L.length cap) L.length (imgCells (L.set k (x.1, pg))) := by
  have hlt : k < L.length := (List.getElem?_eq_some_iff.1 hk).1
  have hok2 : ImgOk (L.set k (x.1, pg)) := by
    intro y hy
    rcases List.mem_or_eq_of_mem_set hy with h1 | rfl
    · exact hL y h1
    · exact hp
  refine ⟨by rw [imgCells_len hok2, List.length_set], .inr ?_⟩
  rcases h.2 with ⟨h0, _⟩ | ⟨g', cap', cur, hv, hbs, hg, hnc, hcm, hcs, ht⟩
  · cases h0
  · simp only [Value.slice.injEq, Option.some.injEq, Addr.mk.injEq, and_true] at hv
    obtain ⟨rfl, _, rfl⟩ := hv
    have hcur : cur.toList = cs := by
      unfold Blk at hb
      rw [hb] at hg
      simp only [Option.some.injEq, Obj.cells.injEq, and_true] at hg
      rw [← hg]
    have hlen : cs.length = cap * 513 := by rw [← hcur, Array.length_toList, hcs]
    have hle : L.length * 513 ≤ cap * 513 := Nat.mul_le_mul_right _ hnc
    refine ⟨g, cap, _, rfl, hbs, hb', hnc, hcm, ?_, ?_⟩
    · rw [List.size_toArray, over_length _ _ _ (by simp [hp]; omega), hlen]
    · show List.take (L.length * 513) (over cs (k * 513 + 1) (bvals pg)) = _
      rw [over_take _ _ _ _ (by simp [hp]; omega) (by omega), ← hcur, ht, imgCells_over hL hk pg hp]

/-- What a batch's write lays down. -/
def BWrites (w : World) (b p cap : Nat) (a : Option Addr) (L : List (Nat × List UInt8)) (n : Nat) (pg : List UInt8) (e : Ending) (w' : World) : Prop :=
  e = .returned (.tuple #[]) ∧ ∃ a' cap', BatchAt w' b p a' cap' (imgPut n pg L) ∧ Chg (fun k => k = b ∨ a.map (·.block) = some k) w w' ∧ (∀ k, a'.map (·.block) = some k → a.map (·.block) = some k ∨ w.heap.size ≤ k)

theorem imgPut_ok {n : Nat} {pg : List UInt8} {L : List (Nat × List UInt8)} (h : ImgOk L) (hp : pg.length = 512) : ImgOk (imgPut n pg L) := by
  unfold imgPut
  intro x hx
  split at hx
  · rcases List.mem_or_eq_of_mem_set hx with h1 | rfl
    · exact h x h1
    · exact hp
  · rcases List.mem_append.1 hx with h1 | h1
    · exact h x h1
    · simp only [List.mem_singleton] at h1; subst h1; exact hp
theorem imgPut_len (n : Nat) (pg : List UInt8) (L : List (Nat × List UInt8)) : (imgPut n pg L).length ≤ L.length + 1 := by
  unfold imgPut; split <;> simp

theorem bwrite_fin {w w3 w4 : World} {b p : Nat} {a : Option Addr} {cap : Nat} {L : List (Nat × List UInt8)} {n : Nat} {pg : List UInt8} {g' cap' : Nat} {o : Obj} (hf : Fresh w w3) (h : BatchAt w3 b p a cap L) (hi : ¬ imgIdx n L < L.length) (hp : pg.length = 512) (hs : L.length ≤ 90000)
    (ho : w4.ownsRow 0 138 513 (.slice (some ⟨g', 0, none⟩) (L.length + 1) cap') (L.length + 1) (imgCells L ++ (.int .i64 n :: bvals pg)))
    (hc : Chg (fun k => (Value.slice a L.length cap).ownBlock = some k) (w3.alloc o) w4) (hg : (Value.slice a L.length cap).ownBlock = some g' ∨ (w3.alloc o).heap.size ≤ g') :
    BWrites w b p cap a L n pg (.returned (.tuple #[])) (w4.setCell ⟨b, 1, none⟩ (.slice (some ⟨g', 0, none⟩) (L.length + 1) cap')) ∧ w4.cell? ⟨b, 1, none⟩ = some (.slice a L.length cap) ∧ w4.frozen? ⟨b, 1, none⟩ = false := by
  have hput : imgPut n pg L = L ++ [(n, pg)] := by rw [imgPut, if_neg hi]
  have hc3 : Chg (fun k => a.map (·.block) = some k) w3 w4 := ((Chg.refl (fun _ => False) w3).alloc o).fresh.trans hc (fun k _ hk => by rwa [ownBlock_slice] at hk)
  have hnb : ¬ a.map (·.block) = some b := by
    have := owns_other h.row h.blk (by decide)
    rwa [ownBlock_slice] at this
  have hb4 := h.blk.chg hc3 hnb
  have hbg : b ≠ g' := by
    have := owns_other ho hb4 (by decide)
    rw [ownBlock_slice] at this
    exact fun e => this (by rw [e]; rfl)
  have hset : Chg (· = b) w4 (w4.setCell ⟨b, 1, none⟩ (.slice (some ⟨g', 0, none⟩) (L.length + 1) cap')) := (Chg.refl (fun x => x = b) w4).setCell (.inl rfl) _
  have hsz := hf.size
  refine ⟨⟨rfl, some ⟨g', 0, none⟩, cap', ⟨?_, ?_, imgPut_ok h.ok hp, ?_⟩, ?_, ?_⟩, ?_, hb4.frozen 1⟩
  · have := hb4.set 1 (.slice (some ⟨g', 0, none⟩) (L.length + 1) cap')
    rw [hput, List.length_append]; exact this
  · have : imgCells (imgPut n pg L) = imgCells L ++ (.int .i64 n :: bvals pg) := by
      rw [hput, imgCells_append]; simp [imgCells]
    rw [this, hput, List.length_append]
    exact hset.owns ho (fun k hk => by rw [ownBlock_slice] at hk; simp only [Option.map_some, Option.some.injEq] at hk; omega)
  · have := imgPut_len n pg L; omega
  · refine (hf.fresh.trans hc3 (fun k _ hk => .inr hk)).trans hset (fun k _ hk => .inl hk)
  · intro k hk
    simp only [Option.map_some, Option.some.injEq] at hk
    subst hk
    rcases hg with h1 | h1
    · exact .inl (by rwa [ownBlock_slice] at h1)
    · refine .inr ?_
      rw [World.size_alloc] at h1
      omega
  · rw [hb4.cell]; rfl

set_option maxRecDepth 100000 in
set_option maxHeartbeats 4000000 in
theorem bwrite_any (b p : Nat) (a : Option Addr) (cap : Nat) (L : List (Nat × List UInt8)) (n : Nat) (pg : List UInt8) (w : World) (h : BatchAt w b p a cap L) (hp : pg.length = 512) (hs : L.length ≤ 90000) :
    Calls Tryz.prog 50 #[.pointer (some ⟨b, 0, none⟩), .int .i64 n, aggB pg] w (BWrites w b p cap a L n pg) := by
  have H := Lib.hid h
  have HPL := Lib.hid hp
  clear h hp
  go_enter Tryz.func50, Tryz.ntmps50
  go_wp2_with (
    refine wpList_boxA rfl 111 _ rfl (bvals pg) rfl ?_
    intro w1 HB1 HF1 HS1)
  refine (bfind_any b p _ cap L n _ (H.out.fresh HF1.out)).mono ?_
  rintro e w2 ⟨rfl, hf2⟩
  have HF2 := Lib.hid (HF1.out.trans hf2 (fun _ _ f => f))
  have HB2 := Lib.hid (HB1.out.chg hf2 id)
  have H2 := Lib.hid (H.out.fresh HF2.out)
  clear hf2 HB1 HF1 H
  by_cases hi : imgIdx n L < L.length
  · have hres : imgRes n L = (imgIdx n L : Int) := by rw [imgRes, if_pos hi]
    rw [hres]
    obtain ⟨g, cs, hga, hb, _, hcl, hcs⟩ := img_blk H2.out.ok H2.out.row (by omega)
    have HNI : Hid (imgIdx n L < L.length) := hi
    have hx := List.getElem?_eq_getElem hi
    have hxn := imgIdx_no hx
    generalize L[imgIdx n L] = x at *
    obtain ⟨x1, x2⟩ := x
    simp only at hxn
    subst hxn
    have c1 := H2.out.blk.cell 1
    simp only [List.getElem?_cons_zero, List.getElem?_cons_succ] at c1
    subst hga
    have hi' : (imgIdx x1 L : Int) < L.length := by omega
    have HB := Lib.hid hb
    have HX := Lib.hid hx
    clear hb hx hcs
    generalize hk : imgIdx x1 L = k at *
    go_wp2_with fail
    refine wp_region_still_tail 8 (by kernel_rfl) (by kernel_rfl) ?_
    simp only [List.take_succ_cons, List.take_zero, List.drop_succ_cons, List.drop_zero]
    still_step
    still_step
    still_step
    still_step
    still_step
    refine wpStill_loadA rfl 111 _ rfl w.heap.size 0 rfl _ _ HB2.out.drew 512 (bvals pg) (take_all _ _ (by simp [HPL.out])) _ Tryz.underlying111 rfl infoPage (by simp [HPL.out]) ?_
    still_step
    still_step
    refine wpStill_nil ?_
    change wpList _ _ _ _ _ w2.drew
    have hne : w.heap.size ≠ g := by
      rintro rfl
      have := HB2.out
      rw [Blk, HB.out] at this; simp at this
    have hbg : b ≠ g := by
      rintro rfl
      have := H2.out.blk
      rw [Blk, HB.out] at this; simp at this
    go_wp2_with (refine wpList_storeA rfl 111 _ _ rfl g (k * 513 + 1) rfl (bvals pg) rfl _ _ HB.out.drew (infoPage' HPL.out) (by simp [HPL.out]; omega) bvals_one ?_
                 intro w4 HB4 HC4)
    go_end0
    have hc4 : Chg (· = g) w2 w4 := (Chg.refl (fun _ => False) w2).drew.fresh.trans HC4.out (fun _ _ h => h)
    refine ⟨rfl, some ⟨g, 0, none⟩, cap, ⟨?_, ?_, imgPut_ok H2.out.ok HPL.out, ?_⟩, ?_, fun q hq => .inl hq⟩
    · have := H2.out.blk.chg hc4 (by omega)
      rw [imgPut, if_pos (by omega), List.length_set]
      exact this
    · rw [imgPut, if_pos (by omega), List.length_set, hk]
      exact img_over H2.out.ok H2.out.row HB.out HB4.out HX.out HPL.out
    · have := imgPut_len x1 pg L; omega
    · exact HF2.out.fresh.trans hc4 (fun q hq e => .inr (by rw [e]; rfl))
  · have hres : imgRes n L = -1 := by rw [imgRes, if_neg hi]
    rw [hres]
    go_wp2_with fail
    have H3 : Hid (BatchAt w2.drew b p a cap L) := H2.out.fresh (Chg.refl _ _).drew
    have HB3 : Hid (Blk w2.drew w.heap.size 111 (bvals pg)) := HB2.out.drew
    have HF3 : Hid (Fresh w w2.drew) := HF2.out.drew
    have c1 := H3.out.blk.cell 1
    have c1' := (H3.out.blk.alloc (.cells (.int .i64 n :: bvals pg).toArray 138)).cell 1
    simp only [List.getElem?_cons_zero, List.getElem?_cons_succ] at c1 c1'
    refine wp_region_any (by kernel_rfl) ?_
    change wpAny _ _ _ _ _ _ _ w2.drew
    clear H2 HB2 HF2
    generalize w2.drew = w3 at *
    refine wpAny_take (i := 0) (v := .pointer (some ⟨b, 0, none⟩)) rfl (by kernel_rfl) (by kernel_rfl) (by kernel_rfl) (fun _ _ _ h => h) (Or.inl ⟨by rfl, fun w => by rfl⟩) ?_
    try simp only [Act.put, List.setIfInBounds_toArray, List.set_cons_zero, List.set_cons_succ]
    refine wpAny_take (i := 1) (v := .pointer (some ⟨b, 0, none⟩)) rfl (by kernel_rfl) (by kernel_rfl) (by kernel_rfl) (fun _ _ _ h => h) (Or.inl ⟨by rfl, fun w => by rfl⟩) ?_
    try simp only [Act.put, List.setIfInBounds_toArray, List.set_cons_zero, List.set_cons_succ]
    refine wpAny_take (i := 2) (v := .pointer (some ⟨b, 0, none⟩)) rfl (by kernel_rfl) (by kernel_rfl) (by kernel_rfl) (fun _ _ _ h => h) (Or.inl ⟨by rfl, fun w => by go_simp⟩) ?_
    try simp only [Act.put, List.setIfInBounds_toArray, List.set_cons_zero, List.set_cons_succ]
    refine wpAny_take (i := 3) (v := .pointer (some ⟨b, 1, none⟩)) rfl (by kernel_rfl) (by kernel_rfl) (by kernel_rfl) (fun _ _ _ h => h) (Or.inl ⟨by rfl, fun w => by go_simp⟩) ?_
    try simp only [Act.put, List.setIfInBounds_toArray, List.set_cons_zero, List.set_cons_succ]
    refine wpAny_take (i := 5) (v := .int .i64 n) rfl (by kernel_rfl) (by kernel_rfl) (by kernel_rfl) (fun _ _ _ h => h) (Or.inl ⟨by rfl, fun w => by rfl⟩) ?_
    try simp only [Act.put, List.setIfInBounds_toArray, List.set_cons_zero, List.set_cons_succ]
    refine wpAny_ready (rs := [4, 6]) (by kernel_rfl) (by simp) ?_
    refine AllReady.cons (o := _) rfl (fun K hK0 => ?_) (AllReady.cons (o := _) rfl (fun K hK0 => ?_) AllReady.nil)
    all_goals (have hK := Lib.hid hK0; clear hK0; rw [if_pos (by rfl)]; try simp only [List.getElem_toArray, List.getElem_cons_succ, List.getElem_cons_zero])
    · go_simp
      refine hK.out _ _ ?_
      clear hK K
      try simp only [Act.put, List.setIfInBounds_toArray, List.set_cons_zero, List.set_cons_succ]
      refine wpAny_ready (rs := [6]) (by kernel_rfl) (by simp) ?_
      refine AllReady.cons (o := _) rfl (fun K hK0 => ?_) AllReady.nil
      have hK := Lib.hid hK0
      clear hK0
      rw [if_pos (by rfl)]
      try simp only [List.getElem_toArray, List.getElem_cons_succ, List.getElem_cons_zero]
      refine wp_loadA 111 _ rfl w.heap.size 0 rfl _ _ HB3.out 512 (bvals pg) (take_all _ _ (by simp [HPL.out])) _ Tryz.underlying111 rfl infoPage (by simp [HPL.out]) ?_
      refine hK.out _ _ ?_
      clear hK K
      try simp only [Act.put, List.setIfInBounds_toArray, List.set_cons_zero, List.set_cons_succ]
      refine wpAny_take (i := 7) (v := .agg (.int .i64 n :: bvals pg).toArray) rfl (by kernel_rfl) (by kernel_rfl) (by kernel_rfl) (fun _ _ _ h => h) (Or.inl ⟨by rfl, fun w => by exact execBuild2 _ _ _ _ _ _ _ _ rfl (imgBuild w n pg HPL.out)⟩) ?_
      try simp only [Act.put, List.setIfInBounds_toArray, List.set_cons_zero, List.set_cons_succ]
      refine wpAny_ready (rs := [8]) (by kernel_rfl) (by simp) ?_
      refine AllReady.cons (o := _) rfl (fun K hK0 => ?_) AllReady.nil
      have hK := Lib.hid hK0
      clear hK0
      rw [if_pos (by rfl)]
      try simp only [List.getElem_toArray, List.getElem_cons_succ, List.getElem_cons_zero]
      refine wp_imgSlice _ rfl (.int .i64 n :: bvals pg) rfl (by simp [HPL.out]) ?_
      refine hK.out _ _ ?_
      clear hK K
      try simp only [Act.put, List.setIfInBounds_toArray, List.set_cons_zero, List.set_cons_succ]
      refine wpAny_ready (rs := [9]) (by kernel_rfl) (by simp) ?_
      refine AllReady.cons (o := _) rfl (fun K hK0 => ?_) AllReady.nil
      have hK := Lib.hid hK0
      clear hK0
      rw [if_pos (by rfl)]
      try simp only [List.getElem_toArray, List.getElem_cons_succ, List.getElem_cons_zero]
      refine wp_app _ _ 87 rfl 138 (.agg Tryz.zeroCells138) 513 520 Tryz.underlying87 infoImage3 imgZero (by omega) 0 (.slice a L.length cap) L.length (imgCells L) rfl (owns_base (H3.out.row.alloc _) (Nat.zero_le _)) ⟨w3.heap.size, 0, none⟩ 1 1 (.int .i64 n :: bvals pg) rfl (by simp [HPL.out]) (new_cells _ _ _) (one_img n pg) (by unfold maxLen; omega) (by omega) (Nat.zero_le _) (.inr (by omega)) ?_
      intro g' cap' w4 HO4 HC4 HG4
      refine hK.out _ _ ?_
      clear hK K
      try simp only [Act.put, List.setIfInBounds_toArray, List.set_cons_zero, List.set_cons_succ]
      obtain ⟨hfin, c4, z4⟩ := bwrite_fin HF3.out H3.out hi HPL.out hs HO4.out HC4.out HG4.out
      have HFIN := Lib.hid hfin
      clear hfin HO4 HC4 HG4
      refine wpAny_take (i := 10) (v := .pointer (some ⟨b, 0, none⟩)) rfl (by kernel_rfl) (by kernel_rfl) (by kernel_rfl) (fun _ _ _ h => h) (Or.inl ⟨by rfl, fun w => by rfl⟩) ?_
      try simp only [Act.put, List.setIfInBounds_toArray, List.set_cons_zero, List.set_cons_succ]
      refine wpAny_take (i := 11) (v := .pointer (some ⟨b, 1, none⟩)) rfl (by kernel_rfl) (by kernel_rfl) (by kernel_rfl) (fun _ _ _ h => h) (Or.inl ⟨by rfl, fun w => by go_simp⟩) ?_
      try simp only [Act.put, List.setIfInBounds_toArray, List.set_cons_zero, List.set_cons_succ]
      refine wpAny_ready (rs := [12]) (by kernel_rfl) (by simp) ?_
      refine AllReady.cons (o := _) rfl (fun K hK0 => ?_) AllReady.nil
      have hK := Lib.hid hK0
      clear hK0
      rw [if_pos (by rfl)]
      try simp only [List.getElem_toArray, List.getElem_cons_succ, List.getElem_cons_zero]
      go_simp
      refine hK.out _ _ ?_
      clear hK K
      try simp only [Act.put, List.setIfInBounds_toArray, List.set_cons_zero, List.set_cons_succ]
      refine wpAny_done (by kernel_rfl) ?_ _
      go_end0
      exact HFIN.out
    · refine wp_loadA 111 _ rfl w.heap.size 0 rfl _ _ HB3.out 512 (bvals pg) (take_all _ _ (by simp [HPL.out])) _ Tryz.underlying111 rfl infoPage (by simp [HPL.out]) ?_
      refine hK.out _ _ ?_
      clear hK K
      try simp only [Act.put, List.setIfInBounds_toArray, List.set_cons_zero, List.set_cons_succ]
      refine wpAny_take (i := 7) (v := .agg (.int .i64 n :: bvals pg).toArray) rfl (by kernel_rfl) (by kernel_rfl) (by kernel_rfl) (fun _ _ _ h => h) (Or.inl ⟨by rfl, fun w => by exact execBuild2 _ _ _ _ _ _ _ _ rfl (imgBuild w n pg HPL.out)⟩) ?_
      try simp only [Act.put, List.setIfInBounds_toArray, List.set_cons_zero, List.set_cons_succ]
      refine wpAny_ready (rs := [4, 8]) (by kernel_rfl) (by simp) ?_
      refine AllReady.cons (o := _) rfl (fun K hK0 => ?_) (AllReady.cons (o := _) rfl (fun K hK0 => ?_) AllReady.nil)
      all_goals (have hK := Lib.hid hK0; clear hK0; rw [if_pos (by rfl)]; try simp only [List.getElem_toArray, List.getElem_cons_succ, List.getElem_cons_zero])
      · go_simp
        refine hK.out _ _ ?_
        clear hK K
        try simp only [Act.put, List.setIfInBounds_toArray, List.set_cons_zero, List.set_cons_succ]
        refine wpAny_ready (rs := [8]) (by kernel_rfl) (by simp) ?_
        refine AllReady.cons (o := _) rfl (fun K hK0 => ?_) AllReady.nil
        have hK := Lib.hid hK0
        clear hK0
        rw [if_pos (by rfl)]
        try simp only [List.getElem_toArray, List.getElem_cons_succ, List.getElem_cons_zero]
        refine wp_imgSlice _ rfl (.int .i64 n :: bvals pg) rfl (by simp [HPL.out]) ?_
        refine hK.out _ _ ?_
        clear hK K
        try simp only [Act.put, List.setIfInBounds_toArray, List.set_cons_zero, List.set_cons_succ]
        refine wpAny_ready (rs := [9]) (by kernel_rfl) (by simp) ?_
        refine AllReady.cons (o := _) rfl (fun K hK0 => ?_) AllReady.nil
        have hK := Lib.hid hK0
        clear hK0
        rw [if_pos (by rfl)]
        try simp only [List.getElem_toArray, List.getElem_cons_succ, List.getElem_cons_zero]
        refine wp_app _ _ 87 rfl 138 (.agg Tryz.zeroCells138) 513 520 Tryz.underlying87 infoImage3 imgZero (by omega) 0 (.slice a L.length cap) L.length (imgCells L) rfl (owns_base (H3.out.row.alloc _) (Nat.zero_le _)) ⟨w3.heap.size, 0, none⟩ 1 1 (.int .i64 n :: bvals pg) rfl (by simp [HPL.out]) (new_cells _ _ _) (one_img n pg) (by unfold maxLen; omega) (by omega) (Nat.zero_le _) (.inr (by omega)) ?_
        intro g' cap' w4 HO4 HC4 HG4
        refine hK.out _ _ ?_
        clear hK K
        try simp only [Act.put, List.setIfInBounds_toArray, List.set_cons_zero, List.set_cons_succ]
        obtain ⟨hfin, c4, z4⟩ := bwrite_fin HF3.out H3.out hi HPL.out hs HO4.out HC4.out HG4.out
        have HFIN := Lib.hid hfin
        clear hfin HO4 HC4 HG4
        refine wpAny_take (i := 10) (v := .pointer (some ⟨b, 0, none⟩)) rfl (by kernel_rfl) (by kernel_rfl) (by kernel_rfl) (fun _ _ _ h => h) (Or.inl ⟨by rfl, fun w => by rfl⟩) ?_
        try simp only [Act.put, List.setIfInBounds_toArray, List.set_cons_zero, List.set_cons_succ]
        refine wpAny_take (i := 11) (v := .pointer (some ⟨b, 1, none⟩)) rfl (by kernel_rfl) (by kernel_rfl) (by kernel_rfl) (fun _ _ _ h => h) (Or.inl ⟨by rfl, fun w => by go_simp⟩) ?_
        try simp only [Act.put, List.setIfInBounds_toArray, List.set_cons_zero, List.set_cons_succ]
        refine wpAny_ready (rs := [12]) (by kernel_rfl) (by simp) ?_
        refine AllReady.cons (o := _) rfl (fun K hK0 => ?_) AllReady.nil
        have hK := Lib.hid hK0
        clear hK0
        rw [if_pos (by rfl)]
        try simp only [List.getElem_toArray, List.getElem_cons_succ, List.getElem_cons_zero]
        go_simp
        refine hK.out _ _ ?_
        clear hK K
        try simp only [Act.put, List.setIfInBounds_toArray, List.set_cons_zero, List.set_cons_succ]
        refine wpAny_done (by kernel_rfl) ?_ _
        go_end0
        exact HFIN.out
      · refine wp_imgSlice _ rfl (.int .i64 n :: bvals pg) rfl (by simp [HPL.out]) ?_
        refine hK.out _ _ ?_
        clear hK K
        try simp only [Act.put, List.setIfInBounds_toArray, List.set_cons_zero, List.set_cons_succ]
        refine wpAny_ready (rs := [4]) (by kernel_rfl) (by simp) ?_
        refine AllReady.cons (o := _) rfl (fun K hK0 => ?_) AllReady.nil
        have hK := Lib.hid hK0
        clear hK0
        rw [if_pos (by rfl)]
        try simp only [List.getElem_toArray, List.getElem_cons_succ, List.getElem_cons_zero]
        go_simp
        refine hK.out _ _ ?_
        clear hK K
        try simp only [Act.put, List.setIfInBounds_toArray, List.set_cons_zero, List.set_cons_succ]
        refine wpAny_ready (rs := [9]) (by kernel_rfl) (by simp) ?_
        refine AllReady.cons (o := _) rfl (fun K hK0 => ?_) AllReady.nil
        have hK := Lib.hid hK0
        clear hK0
        rw [if_pos (by rfl)]
        try simp only [List.getElem_toArray, List.getElem_cons_succ, List.getElem_cons_zero]
        refine wp_app _ _ 87 rfl 138 (.agg Tryz.zeroCells138) 513 520 Tryz.underlying87 infoImage3 imgZero (by omega) 0 (.slice a L.length cap) L.length (imgCells L) rfl (owns_base (H3.out.row.alloc _) (Nat.zero_le _)) ⟨w3.heap.size, 0, none⟩ 1 1 (.int .i64 n :: bvals pg) rfl (by simp [HPL.out]) (new_cells _ _ _) (one_img n pg) (by unfold maxLen; omega) (by omega) (Nat.zero_le _) (.inr (by omega)) ?_
        intro g' cap' w4 HO4 HC4 HG4
        refine hK.out _ _ ?_
        clear hK K
        try simp only [Act.put, List.setIfInBounds_toArray, List.set_cons_zero, List.set_cons_succ]
        obtain ⟨hfin, c4, z4⟩ := bwrite_fin HF3.out H3.out hi HPL.out hs HO4.out HC4.out HG4.out
        have HFIN := Lib.hid hfin
        clear hfin HO4 HC4 HG4
        refine wpAny_take (i := 10) (v := .pointer (some ⟨b, 0, none⟩)) rfl (by kernel_rfl) (by kernel_rfl) (by kernel_rfl) (fun _ _ _ h => h) (Or.inl ⟨by rfl, fun w => by rfl⟩) ?_
        try simp only [Act.put, List.setIfInBounds_toArray, List.set_cons_zero, List.set_cons_succ]
        refine wpAny_take (i := 11) (v := .pointer (some ⟨b, 1, none⟩)) rfl (by kernel_rfl) (by kernel_rfl) (by kernel_rfl) (fun _ _ _ h => h) (Or.inl ⟨by rfl, fun w => by go_simp⟩) ?_
        try simp only [Act.put, List.setIfInBounds_toArray, List.set_cons_zero, List.set_cons_succ]
        refine wpAny_ready (rs := [12]) (by kernel_rfl) (by simp) ?_
        refine AllReady.cons (o := _) rfl (fun K hK0 => ?_) AllReady.nil
        have hK := Lib.hid hK0
        clear hK0
        rw [if_pos (by rfl)]
        try simp only [List.getElem_toArray, List.getElem_cons_succ, List.getElem_cons_zero]
        go_simp
        refine hK.out _ _ ?_
        clear hK K
        try simp only [Act.put, List.setIfInBounds_toArray, List.set_cons_zero, List.set_cons_succ]
        refine wpAny_done (by kernel_rfl) ?_ _
        go_end0
        exact HFIN.out
end Go.Proofs.YtnmjkgnahhbnoaaGreat
