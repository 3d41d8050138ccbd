/-
  slices.Insert: what the evaluator says of it holds in the model; so the seat's tables are sound.
-/
import Derived.Test.YtpfhhcjdknmbbaaGreatDoorB4
import Derived.Test.YtpfhhcjdknmbbaaGreatDoorB2
set_option linter.all false
set_option linter.unusedSimpArgs false
set_option linter.unusedVariables false
namespace Go.DM
open Go.Proofs
set_option maxRecDepth 100000
section
variable {F : Bool → Nat → Prop} {M : Mu} {w w' : World}

theorem slice_shape {H : Heap} {x : V} {c : Value} {xs : List V} (hx : RX F M w x c) (h : elemsOf H x = some xs) : ∃ base cap, c = .slice base xs.length cap ∧ xs.length ≤ cap := by
  cases x with
  | nils =>
    obtain rfl := rev_nils (RX.toRV hx).toREv
    simp [elemsOf] at h
    exact ⟨none, 0, by subst h; rfl, by subst h; simp⟩
  | fl tag tight es =>
    simp [elemsOf] at h
    subst h
    have hx : RG F M.own w (.fl tag tight es) c := hx
    cases hx with
    | fl _ _ _ b o cap sz c' hcap => exact ⟨_, cap, rfl, hcap⟩
  | sl id ver off len cap =>
    obtain ⟨a, b, o, cap', g1, g2, rfl, g4, g5, g6⟩ := hx
    simp only [elemsOf, Option.bind_eq_some_iff] at h
    obtain ⟨A, hA, h⟩ := h
    obtain ⟨hc, h⟩ := dead_eq h
    simp only [Bool.and_eq_true] at hc
    have := Nat.le_of_ble_eq_true hc.2
    simp only [Option.some.injEq] at h
    have hl : xs.length = len := by rw [← h]; simp; omega
    exact ⟨_, cap', by rw [hl], by omega⟩
  | _ => simp [elemsOf] at h

theorem three {cs : Array Value} {c0 c1 c2 : Value} (hs : cs.size = 3) (h0 : cs[0]? = some c0) (h1 : cs[1]? = some c1) (h2 : cs[2]? = some c2) : cs = #[c0, c1, c2] := by
  apply Array.ext_getElem?
  intro i
  match i with
  | 0 => rw [h0]; rfl
  | 1 => rw [h1]; rfl
  | 2 => rw [h2]; rfl
  | i + 3 => rw [Array.getElem?_eq_none (by omega)]; rfl

theorem cell_old {W : World} {ad : Addr} (h : ad.block < w.heap.size) (hk : ∀ b, b < w.heap.size → W.heap[b]? = w.heap[b]?) : W.cell? ad = w.cell? ad := by
  simp only [World.cell?, hk _ h]

/-- The cells of a stretch of a row. -/
theorem row_src {cs : Array Value} {base sz : Nat} {es : List V} (h : RowHas F M w cs base sz es) (hfit : base + es.length * sz ≤ cs.size) : ∃ zs : List Value, ElemsIn F M w zs sz es ∧ ∀ j v, zs[j]? = some v → cs[base + j]? = some v := by
  have hget : ∀ j v, ((cs.toList.drop base).take (es.length * sz))[j]? = some v → j < es.length * sz ∧ cs[base + j]? = some v := by
    intro j v hj
    rw [List.getElem?_take] at hj
    split at hj
    · rename_i hlt
      rw [List.getElem?_drop] at hj
      exact ⟨hlt, by simpa using hj⟩
    · cases hj
  refine ⟨(cs.toList.drop base).take (es.length * sz), ⟨by simp; omega, fun z hz => ?_, fun i e he => ?_⟩, fun j v hj => (hget j v hj).2⟩
  · obtain ⟨j, hj⟩ := List.mem_iff_getElem?.1 hz
    obtain ⟨hlt, hc⟩ := hget j z hj
    have hs0 : 0 < sz := by rcases Nat.eq_zero_or_pos sz with h0 | h0; · subst h0; simp at hlt
                            · exact h0
    have hi : j / sz < es.length := by rw [Nat.div_lt_iff_lt_mul hs0]; exact hlt
    have hk : j % sz < sz := Nat.mod_lt _ hs0
    obtain ⟨h1, h2⟩ := h (j / sz) es[j / sz] (by simp [hi])
    obtain ⟨y, h3, h4⟩ := h2 (j % sz) (es[j / sz].cells[j % sz]'(by omega)) (by simp)
    have hdm : j / sz * sz + j % sz = j := by rw [Nat.mul_comm]; exact Nat.div_add_mod j sz
    rw [hdm, hc] at h3
    cases h3
    exact h4.2
  · obtain ⟨h1, h2⟩ := h i e he
    refine ⟨h1, fun k x hx => ?_⟩
    obtain ⟨y, h3, h4⟩ := h2 k x hx
    have hk : k < sz := by rw [← h1]; exact (List.getElem?_eq_some_iff.1 hx).1
    have hlt := mul_lt_add (List.getElem?_eq_some_iff.1 he).1 hk
    refine ⟨y, ?_, h4⟩
    rw [List.getElem?_take, if_pos hlt, List.getElem?_drop]
    simpa using h3

set_option maxHeartbeats 1000000 in
/-- No room: a new row. -/
theorem ins_grow {H : Heap} (hh : SimH F M w H) {id ver off len i : Nat} {a : AI} {A : Arr} {e : V} (g1 : M.ab[id]? = some a) (hA : H.arrs[id]? = some A) (hasz : a.sz = 5) (hn : off + len = A.elems.length) (hver : A.ver = ver)
    {cap' vc : Nat} {b o : Nat} (hlen : len ≤ cap') (hcap : cap' < len + 1) (hs : SlAt a a.block (a.base + off * 5) off len none cap') (hi : i < len) {zs : List Value} (hz : ElemsIn F M w zs 5 [e])
    (hzc : ∀ j v, zs[j]? = some v → w.cell? ⟨b, o + j, none⟩ = some v) (hb : b < w.heap.size) (hbig : (len + 1) * 88 ≤ 140737488355328) :
    Calls Tryz.prog 58 #[.slice (some ⟨a.block, a.base + off * 5, none⟩) len cap', .int .i64 i, .slice (some ⟨b, o, none⟩) 1 vc] w fun en w' => ∃ c M', en = .returned c ∧ HS F M M' w w' { H with arrs := H.arrs.set id { A with elems := (A.elems.drop off).take i ++ e :: (A.elems.drop off).drop i, ver := ver + 1, opn := true } } ∧
      RV F M' w' (.sl id (ver + 1) 0 (len + 1) none) c := by
  have ha := hh.amem id a A g1 hA
  have hav : a.ver = ver := by rw [ha.ver, hver]
  obtain ⟨xs, hxs⟩ : ∃ xs, xs = A.elems.drop off := ⟨_, rfl⟩
  have hxl : xs.length = len := by rw [hxs]; simp; omega
  have hat : M.at (.arr id) = some a.block := by simp [Mu.at, g1]
  have hbl : a.block < w.heap.size := hh.lt hat
  obtain ⟨cs, tt, q1, q2, q3⟩ := ha.mem
  have hRow : RowHas F M w cs (a.base + off * 5) 5 xs := by
    have := RowHas.drop (F := F) (M := M) (w := w) (cs := cs) (base := a.base) (sz := a.sz) (es := A.elems) q3 off
    rw [hasz] at this
    rw [hxs]; exact this
  have hfitc : a.base + (off + cap') * 5 ≤ cs.size := by
    have h1 := hs.fits
    have h2 : (off + cap') * 5 ≤ a.lim * 5 := Nat.mul_le_mul_right _ h1
    rw [hasz] at q2
    omega
  obtain ⟨z, hzok⟩ : ∃ z, zOk TE.P 105 = some z := ⟨_, tk_105⟩
  obtain ⟨ii, zv, hii, hzv, _, hzl, hzs, _, _⟩ := zOk_spec hzok
  have hc5 : TE.P.cellsOf 105 = 5 := tc_105
  have hb88 : TE.P.bytesOf 105 = 88 := tb_105
  have hsz5 : ii.size = 5 := by rw [← cellsOf_eq hii]; exact hc5
  have hby : ii.bytes = 88 := by rw [← hb88]; simp [Program.bytesOf, hii]
  rw [hc5] at hzs
  -- what stood ahead
  have hxi : (xs.take i).length = i := by simp; omega
  have hRowT : RowHas F M w cs (a.base + off * 5) 5 (xs.take i) := fun k x hk => hRow k x (by
    rw [List.getElem?_take] at hk
    split at hk
    · exact hk
    · cases hk)
  obtain ⟨olds, hz1i, holdc⟩ := row_src hRowT (by rw [hxi]; omega)
  have hol : olds.length = i * 5 := by rw [hz1i.1, hxi]
  have hold : (Builtin.firstCells ii.size i (.slice (some ⟨a.block, a.base + off * 5, none⟩) i cap')).run Tryz.prog w.drew = .ok olds.toArray w.drew := by
    rw [hsz5]
    have := run_loadCells_list (P := Tryz.prog) (w := w.drew) ⟨a.block, a.base + off * 5, none⟩ olds fun j v hj => by
      rw [addr_add]
      show w.cell? _ = _
      rw [cell_of_row w a.block _ cs tt (0, 0) q1]
      exact holdc j v hj
    rw [hol] at this
    simpa only [Builtin.firstCells] using this
  obtain ⟨k, hk⟩ : ∃ k, k = len + 1 - i := ⟨_, rfl⟩
  have hik : i + k = len + 1 := by omega
  have hA1 := Lib.run_append_grow_zeros w 60 3 60 105 ii zv .i64 .i64 iu60 iu3 hii hzv (some ⟨a.block, a.base + off * 5, none⟩) i cap' olds hold k (by omega) (by omega) (by omega) (by omega) (by rw [hby]; omega) (by rw [hby, hik]; exact growslice_fits hcap hbig)
  rw [hik] at hA1
  obtain ⟨G, hG⟩ : ∃ G, G = grownCap w (len + 1) cap' 105 := ⟨_, rfl⟩
  have hGn : len + 1 ≤ G := by rw [hG]; exact grownCap_ge w _ _ _
  have hG63 : G ≤ 9223372036854775807 := by
    have := grownCap_le_maxLen w (len + 1) cap' 105 (by unfold maxLen; omega)
    rw [← hG] at this
    unfold maxLen at this
    omega
  rw [← hG] at hA1
  obtain ⟨row0, hrow0⟩ : ∃ r : Array Value, r = olds.toArray ++ Builtin.zeroCells zv.cells k ++ Builtin.zeroCells zv.cells (G - (len + 1)) := ⟨_, rfl⟩
  rw [← hrow0] at hA1
  have hrow0' : row0 = (olds ++ ((Builtin.zeroCells zv.cells k).toList ++ (Builtin.zeroCells zv.cells (G - (len + 1))).toList)).toArray := by
    rw [hrow0]; apply Array.ext'; simp
  have hsize0 : row0.size = G * 5 := by
    rw [hrow0']
    simp only [List.size_toArray, List.length_append, hol, Array.length_toList, size_zeroCells', hzs]
    omega
  have hR0 : RowHas F M w row0 0 5 (xs.take i) := by
    rw [hrow0']
    exact hz1i.row _
  have hzl5 : zs.length = 5 := by rw [hz.1]; rfl
  have hR1 := RowHas.splice (cs := row0) hR0 hz (p := i) (by omega) (by rw [hsize0]; simp; omega)
  have eT : (xs.take i).take i ++ ([e] ++ (xs.take i).drop (i + [e].length)) = xs.take i ++ [e] := by
    rw [List.take_of_length_le (by omega), List.drop_eq_nil_of_le (by rw [hxi]; omega), List.append_nil]
  rw [eT] at hR1
  simp only [Nat.zero_add] at hR1
  have hsize1 : (splice row0 (i * 5) zs).size = G * 5 := by rw [size_splice (by rw [hsize0]; omega), hsize0]
  -- the worlds
  obtain ⟨W1, hW1⟩ : ∃ W, W = w.drew.alloc (.cells row0 105) := ⟨_, rfl⟩
  have p1 : Plus w W1 (.cells row0 105) := by rw [hW1]; exact plus_drew
  have hB1 := run_copy5 (dLen := len + 1 - i) (dCap := G - i) (ad := some ⟨b, o, none⟩) (sLen := 1) (sCap := vc) (zs := zs) (ty := 3) (o := i * 5) p1.new (by
    have := run_loadCells_list (P := Tryz.prog) (w := W1) ⟨b, o, none⟩ zs fun j v hj => by rw [addr_add, cell_old hb fun b hb => p1.old hb]; exact hzc j v hj
    have e1 : min 1 (len + 1 - i) = 1 := by omega
    rw [e1]
    simpa only [Builtin.firstCells, Nat.one_mul, hzl5] using this) (by rw [hsize0]; omega) hz.2.1
  obtain ⟨row1, hrow1⟩ : ∃ r, r = splice row0 (i * 5) zs := ⟨_, rfl⟩
  rw [← hrow1] at hB1 hR1 hsize1
  obtain ⟨W2, hW2⟩ : ∃ W, W = W1.setRow w.heap.size row1 := ⟨_, rfl⟩
  rw [← hW2] at hB1
  have old2 : ∀ b, b < w.heap.size → W2.drew.heap[b]? = w.heap[b]? := fun b hb => by
    show W2.heap[b]? = _
    rw [hW2, setRow_other (by omega), p1.old hb]
  have new2 : W2.drew.heap[w.heap.size]? = some (.cells row1 105 (0, 0)) := by
    show W2.heap[w.heap.size]? = _
    rw [hW2]; exact setRow_heap W1 w.heap.size row0 _ 105 (0, 0) p1.new
  have f2 : Fr M M w W2.drew := ⟨by rw [hW2, hW1]; rfl, by rw [hW2, hW1]; rfl, by rw [hW2, hW1]; rfl, by show _ ≤ W2.heap.size; rw [hW2, size_setRow, p1.size]; omega, fun b hb _ => old2 b hb, fun _ h => .inl h, fun _ _ h => h, fun _ a h => ⟨a, h, Nat.le_refl _, fun _ => rfl⟩⟩
  have hdl : (xs.drop i).length = len - i := by simp; omega
  obtain ⟨zsB, hzB, hzBc⟩ := row_src (RowHas.drop hRow i) (by rw [hdl]; omega)
  have hzBl : zsB.length = (len - i) * 5 := by rw [hzB.1, hdl]
  have hC1 := run_copy5 (dLen := len + 1 - (i + 1)) (dCap := G - (i + 1)) (ad := some ⟨a.block, a.base + off * 5 + i * 5, none⟩) (sLen := len - i) (sCap := cap' - i) (ty := 3) (zs := zsB) (o := (i + 1) * 5) new2 (by
    have := run_loadCells_list (P := Tryz.prog) (w := W2.drew) ⟨a.block, a.base + off * 5 + i * 5, none⟩ zsB fun j v hj => by
      rw [addr_add, cell_old hbl old2, cell_of_row w a.block _ cs tt (0, 0) q1]
      exact hzBc j v hj
    have e1 : min (len - i) (len + 1 - (i + 1)) = len - i := by omega
    rw [hzBl] at this
    rw [e1]
    simpa only [Builtin.firstCells] using this) (by rw [hsize1, hzBl]; omega) hzB.2.1
  have hR2 := RowHas.splice (cs := row1) hR1 hzB (p := i + 1) (by simp; omega) (by rw [hsize1, hdl]; omega)
  have hl1 : (xs.take i ++ [e]).length = i + 1 := by simp; omega
  have eT2 : (xs.take i ++ [e]).take (i + 1) ++ (xs.drop i ++ (xs.take i ++ [e]).drop (i + 1 + (xs.drop i).length)) = xs.take i ++ e :: xs.drop i := by
    have h0 : (xs.take i ++ [e]).drop (i + 1 + (xs.drop i).length) = [] := List.drop_eq_nil_of_le (by rw [hl1]; omega)
    rw [h0, List.take_of_length_le (by omega), List.append_nil, List.append_assoc]; rfl
  rw [eT2] at hR2
  simp only [Nat.zero_add] at hR2
  obtain ⟨row2, hrow2⟩ : ∃ r, r = splice row1 ((i + 1) * 5) zsB := ⟨_, rfl⟩
  rw [← hrow2] at hC1 hR2
  have hsize2 : row2.size = G * 5 := by rw [hrow2, size_splice (by rw [hsize1, hzBl]; omega), hsize1]
  have hk2 : ((k : Nat) : Int) = (len : Int) + 1 - i := by omega
  rw [hk2, ← hW1] at hA1
  refine (walk_grow a.block (a.base + off * 5) len cap' i (some ⟨b, o, none⟩) vc w hi hlen hcap (by omega) (N := w.heap.size) (G := G) hGn hG63 (W1 := W1) (W2 := W2) hA1 hB1 hC1).mono fun en w' ⟨h1, h2⟩ => ?_
  subst h1 h2
  have hlt2 : id < M.ab.length := (List.getElem?_eq_some_iff.1 g1).1
  have new3 : (W2.drew.setRow w.heap.size row2).heap[w.heap.size]? = some (.cells row2 105 (0, 0)) := setRow_heap W2.drew w.heap.size row1 _ 105 (0, 0) new2
  have hfl : (xs.take i ++ e :: xs.drop i).length = len + 1 := by simp; omega
  refine ⟨_, M.setArr id ⟨w.heap.size, 0, G, ver + 1, 5, len + 1⟩, rfl, moveArr_sound hh g1 (by show a.ver < ver + 1; omega) f2.os f2.tape f2.output (by rw [size_setRow]; exact f2.size) (fun b hb _ => by rw [setRow_other (by omega)]; exact old2 b hb)
    (.inr ⟨rfl, by rw [size_setRow]; show _ < W2.heap.size; rw [hW2, size_setRow, p1.size]; omega⟩) (fun f => ⟨rfl, by rw [← ha.sz]; exact hasz.symm, by rw [← hxs]; exact hfl.symm, hGn, fun ho => by simp at ho, row2, 105, new3, by show 0 + G * 5 ≤ row2.size; omega, ?_⟩), ?_⟩
  · rw [← hxs]
    exact RowHas.fr f hR2
  · exact ⟨⟨w.heap.size, 0, G, ver + 1, 5, len + 1⟩, w.heap.size, 0, G, by simp [Mu.setArr, List.getElem?_set, hlt2], Nat.le_refl _, rfl, by omega, by simp, fun _ => ⟨by simp, fun _ => ⟨rfl, by simp⟩, by simp, by simp, fun _ => by simp⟩⟩

set_option maxHeartbeats 1000000 in
/-- Room: in place. -/
theorem ins_room {H : Heap} (hh : SimH F M w H) {id ver off len i : Nat} {a : AI} {A : Arr} {e : V} (g1 : M.ab[id]? = some a) (hA : H.arrs[id]? = some A) (hasz : a.sz = 5) (hn : off + len = A.elems.length) (hver : A.ver = ver)
    {cap' vc : Nat} {b o : Nat} (hcap : len + 1 ≤ cap') (hs : SlAt a a.block (a.base + off * 5) off len none cap') (hi : i < len) {zs : List Value} (hz : ElemsIn F M w zs 5 [e])
    (hzc : ∀ j v, zs[j]? = some v → w.cell? ⟨b, o + j, none⟩ = some v) (hb : b < w.heap.size) (hbo : ¬ M.own b) (hbig : (len + 1) * 88 ≤ 140737488355328) :
    Calls Tryz.prog 58 #[.slice (some ⟨a.block, a.base + off * 5, none⟩) len cap', .int .i64 i, .slice (some ⟨b, o, none⟩) 1 vc] w fun en w' => ∃ c M', en = .returned c ∧ HS F M M' w w' { H with arrs := H.arrs.set id { A with elems := (A.elems.drop off).take i ++ e :: (A.elems.drop off).drop i, ver := ver + 1, opn := true } } ∧
      RV F M' w' (.sl id (ver + 1) 0 (len + 1) none) c := by
  have ha := hh.amem id a A g1 hA
  have hav : a.ver = ver := by rw [ha.ver, hver]
  obtain ⟨xs, hxs⟩ : ∃ xs, xs = A.elems.drop off := ⟨_, rfl⟩
  have hxl : xs.length = len := by rw [hxs]; simp; omega
  have hat : M.at (.arr id) = some a.block := by simp [Mu.at, g1]
  have hbl : a.block < w.heap.size := hh.lt hat
  have hne : b ≠ a.block := fun e => hbo (e ▸ ⟨_, hat⟩)
  obtain ⟨cs, tt, q1, q2, q3⟩ := ha.mem
  have hRow : RowHas F M w cs (a.base + off * 5) 5 xs := by
    have := RowHas.drop (F := F) (M := M) (w := w) (cs := cs) (base := a.base) (sz := a.sz) (es := A.elems) q3 off
    rw [hasz] at this
    rw [hxs]; exact this
  have hfitc : a.base + (off + cap') * 5 ≤ cs.size := by
    have h1 := hs.fits
    have h2 : (off + cap') * 5 ≤ a.lim * 5 := Nat.mul_le_mul_right _ h1
    rw [hasz] at q2
    omega
  have hzl5 : zs.length = 5 := by rw [hz.1]; rfl
  -- v lies apart
  obtain ⟨z0, hz0⟩ : ∃ v, zs[0]? = some v := ⟨_, List.getElem?_eq_getElem (by omega)⟩
  obtain ⟨tA, kA, hsa, hkA⟩ : ∃ tA kA, w.shape? b = some (tA, kA) ∧ kA ≠ 0 := by
    have h := hzc 0 z0 hz0
    simp only [World.cell?] at h
    split at h
    · rename_i c t f hb'
      refine ⟨t, c.size, by simp only [World.shape?, hb'], fun h0 => ?_⟩
      simp only [Option.isSome_none, Bool.false_eq_true, if_false] at h
      have := (Array.getElem?_eq_some_iff.1 h).1
      omega
    · cases h
  have hO : (callFunc 118 #[.slice (some ⟨b, o, none⟩) 1 vc, .slice (some ⟨a.block, a.base + off * 5 + (i + 1) * 5, none⟩) (len - i) (cap' - (i + 1))]).run Tryz.prog w = .ok (.value (.bool false)) w := by
    rw [run_callFunc_extern Tryz.func118 (by kernel_rfl) (by kernel_rfl) (by kernel_rfl) (e := Extern.SlicesOverlaps.overlaps #[60, 60] #[4]) (by kernel_rfl),
      run_overlaps_own w 60 4 105 iu60 5 iz105 ⟨b, o, none⟩ ⟨a.block, a.base + off * 5 + (i + 1) * 5, none⟩ 1 vc (len - i) (cap' - (i + 1)) hne tA tt kA cs.size hsa (by simp only [World.shape?, q1]) (by omega) hkA
        (fun o' => by simp [World.frozen?, q1]) (by simp [World.frozen?, q1])]
    rfl
  have hdl : (xs.drop i).length = len - i := by simp; omega
  obtain ⟨zsB, hzB, hzBc⟩ := row_src (RowHas.drop hRow i) (by rw [hdl]; omega)
  have hzBl : zsB.length = (len - i) * 5 := by rw [hzB.1, hdl]
  have hA1 := run_copy5 (w := w.drew) (dLen := len - i) (dCap := cap' - (i + 1)) (ad := some ⟨a.block, a.base + off * 5 + i * 5, none⟩) (sLen := len + 1 - i) (sCap := cap' - i) (ty := 3) (zs := zsB) (o := a.base + off * 5 + (i + 1) * 5) q1 (by
    have := run_loadCells_list (P := Tryz.prog) (w := w.drew) ⟨a.block, a.base + off * 5 + i * 5, none⟩ zsB fun j v hj => by
      rw [addr_add]
      show w.cell? _ = _
      rw [cell_of_row w a.block _ cs tt (0, 0) q1]
      exact hzBc j v hj
    have e1 : min (len + 1 - i) (len - i) = len - i := by omega
    rw [hzBl] at this
    rw [e1]
    simpa only [Builtin.firstCells] using this) (by rw [hzBl]; omega) hzB.2.1
  obtain ⟨row1, hrow1⟩ : ∃ r, r = splice cs (a.base + off * 5 + (i + 1) * 5) zsB := ⟨_, rfl⟩
  have hR1 := RowHas.splice (cs := cs) hRow hzB (p := i + 1) (by omega) (by rw [hdl]; omega)
  have hsize1 : row1.size = cs.size := by rw [hrow1, size_splice (by rw [hzBl]; omega)]
  rw [← hrow1] at hA1 hR1
  obtain ⟨W1, hW1⟩ : ∃ W, W = w.drew.setRow a.block row1 := ⟨_, rfl⟩
  rw [← hW1] at hA1
  have new1 : W1.heap[a.block]? = some (.cells row1 tt (0, 0)) := by rw [hW1]; exact setRow_heap w.drew a.block cs _ tt (0, 0) q1
  have old1 : ∀ b, b ≠ a.block → W1.heap[b]? = w.heap[b]? := fun b hb => by rw [hW1, setRow_other hb]; rfl
  have hB1 := run_copy5 (w := W1) (dLen := len + 1 - i) (dCap := cap' - i) (ad := some ⟨b, o, none⟩) (sLen := 1) (sCap := vc) (zs := zs) (ty := 3) (o := a.base + off * 5 + i * 5) new1 (by
    have := run_loadCells_list (P := Tryz.prog) (w := W1) ⟨b, o, none⟩ zs fun j v hj => by
      rw [addr_add]
      have e2 : W1.cell? ⟨b, o + j, none⟩ = w.cell? ⟨b, o + j, none⟩ := by simp only [World.cell?, old1 b hne]
      rw [e2]; exact hzc j v hj
    have e1 : min 1 (len + 1 - i) = 1 := by omega
    rw [e1]
    simpa only [Builtin.firstCells, Nat.one_mul, hzl5] using this) (by rw [hsize1]; omega) hz.2.1
  have hl1 : (xs.take (i + 1) ++ (xs.drop i ++ xs.drop (i + 1 + (xs.drop i).length))).length = len + 1 := by simp; omega
  have hR2 := RowHas.splice (cs := row1) hR1 hz (p := i) (by omega) (by rw [hsize1]; simp; omega)
  have eT : (xs.take (i + 1) ++ (xs.drop i ++ xs.drop (i + 1 + (xs.drop i).length))).take i ++ ([e] ++ (xs.take (i + 1) ++ (xs.drop i ++ xs.drop (i + 1 + (xs.drop i).length))).drop (i + [e].length)) = xs.take i ++ e :: xs.drop i := by
    have h0 : xs.drop (i + 1 + (xs.drop i).length) = [] := List.drop_eq_nil_of_le (by omega)
    have h1 : (xs.take (i + 1)).length = i + 1 := by simp; omega
    rw [h0, List.append_nil, List.take_append_of_le_length (by omega), List.take_take, Nat.min_eq_left (by omega)]
    congr 1
    have h2 : i + [e].length = (xs.take (i + 1)).length := by rw [h1]; rfl
    rw [h2, List.drop_left]; rfl
  rw [eT] at hR2
  obtain ⟨row2, hrow2⟩ : ∃ r, r = splice row1 (a.base + off * 5 + i * 5) zs := ⟨_, rfl⟩
  rw [← hrow2] at hB1 hR2
  have hsize2 : row2.size = cs.size := by rw [hrow2, size_splice (by rw [hsize1]; omega), hsize1]
  refine (walk_room a.block (a.base + off * 5) len cap' i (some ⟨b, o, none⟩) vc w hi hcap (by omega) hO hA1 hB1).mono fun en w' ⟨h1, h2⟩ => ?_
  subst h1 h2
  have hlt2 : id < M.ab.length := (List.getElem?_eq_some_iff.1 g1).1
  have new2 : (W1.setRow a.block row2).heap[a.block]? = some (.cells row2 tt (0, 0)) := setRow_heap W1 a.block row1 _ tt (0, 0) new1
  have hfl : (xs.take i ++ e :: xs.drop i).length = len + 1 := by simp; omega
  refine ⟨_, M.setArr id ⟨a.block, a.base + off * 5, cap', ver + 1, 5, len + 1⟩, rfl, moveArr_sound hh g1 (by show a.ver < ver + 1; omega) (by rw [hW1]; rfl) (by rw [hW1]; rfl) (by rw [hW1]; rfl) (by rw [size_setRow, hW1, size_setRow]; exact Nat.le_refl _)
    (fun b hb hne => by rw [setRow_other hne, old1 b hne])
    (.inl rfl) (fun f => ⟨rfl, by rw [← ha.sz]; exact hasz.symm, by rw [← hxs]; exact hfl.symm, hcap, fun ho => by simp at ho, row2, tt, new2, by show a.base + off * 5 + cap' * 5 ≤ row2.size; omega, ?_⟩), ?_⟩
  · rw [← hxs]
    exact RowHas.fr f hR2
  · exact ⟨⟨a.block, a.base + off * 5, cap', ver + 1, 5, len + 1⟩, a.block, a.base + off * 5, cap', by simp [Mu.setArr, hlt2], Nat.le_refl _, rfl, by omega, by simp, fun _ => ⟨by simp, fun _ => ⟨rfl, by simp⟩, by simp, by simp, fun _ => by simp⟩⟩

set_option maxHeartbeats 1000000 in
theorem ins_ok : InsOk := by
  intro args H v H' h F M w cs hlam hh ha
  have hfn : ∃ fn, TE.P.funcs[58]? = some fn ∧ fn.body.isNone = false ∧ (fn.name == "runtime.NumGoroutine") = false := ⟨Tryz.f58, Tryz.func58, by kernel_rfl, by kernel_rfl⟩
  unfold insH at h
  split at h
  · rename_i x i tag tight e
    simp only [Option.bind_eq_some_iff] at h
    obtain ⟨xs, hxs, h⟩ := h
    obtain ⟨c0, hc0, r0⟩ := ha.one_of 0 _ rfl
    obtain ⟨c1, hc1, r1⟩ := ha.one_of 1 _ rfl
    obtain ⟨c2, hc2, r2⟩ := ha.one_of 2 _ rfl
    obtain rfl := three (by simpa using ha.1.symm) hc0 hc1 hc2
    obtain rfl := rev_int (RX.toRV r1).toREv
    refine .inl ⟨hfn, ?_⟩
    rw [TE_P]
    obtain ⟨base, cap, rfl, hcap⟩ := slice_shape r0 hxs
    have g2 : RG F M.own w (.fl tag tight [e]) c2 := r2
    by_cases hi : i = xs.length
    · rw [hi] at h ⊢
      simp only [decide_true, cond_true] at h
      obtain ⟨r, M', w', hrun, hs, hrv⟩ := appendV_sound (ty := 60) (u := 60) hh (RX.toRV r0).toREv (RX.toRV r2).toREv (by rw [te_60]; rfl) h
      obtain ⟨b, o, vc, zs, rfl, _⟩ := fl1_src g2 (sz := e.cells.length) rfl rfl
      exact (walk_end base xs.length cap (some ⟨b, o, none⟩) vc w hcap hrun).mono fun en w'' ⟨h1, h2⟩ => by
        subst h1 h2
        exact ⟨r, M', rfl, hs.fr, by rw [hs.lam]; exact hlam, hs.sim, hrv⟩
    · simp only [hi, decide_false, cond_false] at h
      split at h
      · rename_i id ver off len
        simp only [Option.bind_eq_some_iff] at h
        obtain ⟨A, hA, et, het, h⟩ := h
        rw [te_60] at het
        cases het
        obtain ⟨hq, h⟩ := dead_eq h
        simp only [Bool.and_eq_true, decide_eq_true_eq] at hq
        obtain ⟨hi0, hilt, hend, hwide, hst, hcells, hbig, hbb, hzo⟩ := hq
        simp only [Option.some.injEq, Prod.mk.injEq] at h
        obtain ⟨rfl, rfl⟩ := h
        have hend' := Nat.eq_of_beq_eq_true hend
        have hbig' := Nat.le_of_ble_eq_true hbig
        rw [tb_105] at hbig'
        have hc5 : e.cells.length = 5 := by rw [← tc_105]; simpa using hcells
        obtain ⟨a, b0, o0, cap', k1, k2, k3, k4, k5, k6⟩ := r0
        simp only [Value.slice.injEq] at k3
        obtain ⟨rfl, hxl, rfl⟩ := k3
        simp only [elemsOf, Option.bind_eq_some_iff] at hxs
        obtain ⟨A2, hA2, hxs⟩ := hxs
        rw [hA] at hA2; cases hA2
        obtain ⟨hq2, hxs⟩ := dead_eq hxs
        simp only [Bool.and_eq_true] at hq2
        have hver : A.ver = ver := by simpa using hq2.1
        have hm := hh.amem id a A k1 hA
        have s := k6 (by rw [hm.ver]; exact hver.symm)
        obtain ⟨et, ii, A3, he2, _, _, hA3, hsz⟩ := wide_sl hwide
        rw [te_60] at he2; cases he2
        rw [hA] at hA3; cases hA3
        have hasz : a.sz = 5 := by rw [hm.sz, hsz]; exact tc_105
        obtain ⟨b, o, vc, zs, rfl, z1, z2, z3, z4, z5, _⟩ := fl1_src g2 hc5 rfl
        obtain ⟨j, rfl⟩ : ∃ j : Nat, i = (j : Int) := ⟨i.toNat, by omega⟩
        have hj : j < len := by omega
        obtain ⟨rfl, rfl⟩ := s.at_ (by omega)
        rw [hasz] at s ⊢
        rw [hxl]
        have post : ∀ en w', (∃ c M', en = Ending.returned c ∧ HS F M M' w w' { H with arrs := H.arrs.set id { A with elems := (A.elems.drop off).take j ++ e :: (A.elems.drop off).drop j, ver := ver + 1, opn := true } } ∧ RV F M' w' (.sl id (ver + 1) 0 (len + 1) none) c) →
            ∃ c M', en = .returned c ∧ Fr M M' w w' ∧ M'.lam = (fun _ => none) ∧ SimH F M' w' { H with arrs := H.arrs.set id { A with elems := (A.elems.drop off).take j ++ e :: (A.elems.drop off).drop j, ver := ver + 1, opn := true } } ∧ RV F M' w' (.sl id (ver + 1) 0 (len + 1) none) c :=
          fun en w' ⟨c, M', e1, hs, hrv⟩ => ⟨c, M', e1, hs.fr, by rw [hs.lam]; exact hlam, hs.sim, hrv⟩
        rcases Nat.lt_or_ge cap (len + 1) with hlt | hge
        · exact (ins_grow hh k1 hA hasz hend' hver k4 hlt s hj z3 z5 z1 hbig').mono post
        · exact (ins_room hh k1 hA hasz hend' hver hge s hj z3 z5 z1 z2 hbig').mono post
      · cases h
  · cases h

theorem TE_full : EnvFull TE := te_full ins_ok
end
end Go.DM
