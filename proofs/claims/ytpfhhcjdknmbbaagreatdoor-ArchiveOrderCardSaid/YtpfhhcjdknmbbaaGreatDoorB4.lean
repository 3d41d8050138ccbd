/-
  slices.Insert: what the evaluator says of it holds in the model.
-/
import Derived.Test.YtpfhhcjdknmbbaaGreatDoorB3
import Derived.Test.YtpfhhcjdknmbbaaGreatDoorB1
import Derived.Lib.AppendZerosOnto
set_option linter.all false
set_option linter.unusedSimpArgs false
set_option linter.unusedVariables false
namespace Go.DM
open Go.Proofs
set_option maxRecDepth 100000

theorem run_overlaps_own {P : Program} (w : World) (tS tR e : TypeId) (ht : P.underlying tS = some (.slice e)) (size : Nat) (hz : ∀ w, (Go.sizeOf e).run P w = .ok size w)
    (a b : Addr) (la ca lb cb : Nat) (hne : a.block ≠ b.block) (tA tB : TypeId) (kA kB : Nat)
    (hsa : w.shape? a.block = some (tA, kA)) (hsb : w.shape? b.block = some (tB, kB)) (hkB : kB ≠ 0) (hkA : kA ≠ 0)
    (hfb : ∀ o, w.frozen? { block := b.block, off := o } = false) (hfb2 : w.frozen? b = false) :
    (Extern.SlicesOverlaps.overlaps #[tS, tS] #[tR] #[.slice (some a) la ca, .slice (some b) lb cb]).run P w = .ok (.bool false) w := by
  have hnb : (a.block != b.block) = true := by simpa using hne
  have hnb' : (a.block == b.block) = false := by simpa using hne
  change Sem.run P (α := Value) (do
    let some t := (#[tS, tS] : Array TypeId)[0]? | stuck "slices.overlaps: no parameter types"
    let .slice elem ← underlying t | stuck "slices.overlaps: slice type expected"
    let size ← sizeOf elem
    match (some a : Option Addr), (some b : Option Addr) with
    | some a, some b =>
      if la = 0 ∨ lb = 0 ∨ size = 0 then pure (Value.bool false)
      else if a.block != b.block && (← frozen a) && (← frozen b) then unsupported .addressObserved
      else do
        if a.block != b.block then do
          noView a; noView b
          if ← mayBeOne a b then return Value.bool ((← choose (.extern "sameAddr.stringBytes" 2)) == 1)
        pure (Value.bool (a.block == b.block && a.off < b.off + lb * size && b.off < a.off + la * size))
    | _, _ => pure (Value.bool false)) w = _
  by_cases h0 : la = 0 ∨ lb = 0 ∨ size = 0
  · simp [run_underlying ht, hz, h0]
  · cases kB with
    | zero => exact absurd rfl hkB
    | succ kB =>
      obtain ⟨kA, rfl⟩ := Nat.exists_eq_succ_of_ne_zero hkA
      cases h1 : w.frozen? a <;> cases h2 : w.frozen? { block := a.block, off := kA } <;>
      simp [run_underlying ht, hz, h0, hnb, hnb', frozen, noView, viewAt, mayBeOne, stringish, shape, Sem.run, hsa, hsb, hfb, hfb2, h1, h2]

section
variable {F : Bool → Nat → Prop} {M : Mu} {w w' : World}

/-- The copying of cells that are known. -/
theorem run_copy5 {g o dLen dCap : Nat} {ad : Option Addr} {sLen sCap : Nat} {cur : Array Value} {t : TypeId} {zs : List Value} {ty : TypeId} (hg : w.heap[g]? = some (.cells cur t (0, 0)))
    (hf : (Builtin.firstCells 5 (min sLen dLen) (.slice ad sLen sCap)).run Tryz.prog w = .ok zs.toArray w) (hfit : o + zs.length ≤ cur.size) (h1 : ∀ v ∈ zs, v.oneCell' = true) :
    (Builtin.copy_ #[60, 60] ty #[.slice (some ⟨g, o, none⟩) dLen dCap, .slice ad sLen sCap]).run Tryz.prog w = .ok (goInt (min sLen dLen : Nat)) (w.setRow g (splice cur o zs)) := by
  have hst := run_storeCells' (P := Tryz.prog) hg hfit h1
  have hm : Nat.min sLen dLen = min sLen dLen := rfl
  simp [Builtin.copy_, run_underlying iu60, lenOf_slice, iz105, hm, hf, hst, goInt]

/-- One element that is lent. -/
theorem fl1_src {O : Nat → Prop} {tag tight : Bool} {e : V} {c : Value} (h : RG F O w (.fl tag tight [e]) c) {sz : Nat} (hsz : e.cells.length = sz) (hO : O = M.own) :
    ∃ (b o cap : Nat) (zs : List Value), c = .slice (some ⟨b, o, none⟩) 1 cap ∧ b < w.heap.size ∧ ¬ M.own b ∧ ElemsIn F M w zs sz [e] ∧ zs.length = sz ∧ (∀ j v, zs[j]? = some v → w.cell? ⟨b, o + j, none⟩ = some v) ∧
      (0 < sz → ∃ v, w.cell? ⟨b, o, none⟩ = some v) := by
  generalize hv : V.fl tag tight [e] = v at h
  cases h with
  | fl tag' tight' es b o cap sz' c' hcap ht hlen hmem hone hrel hb =>
    cases hv
    obtain ⟨h1, h2, _⟩ := hb (by simp)
    have hs : sz' = sz := by
      have := hlen 0 (by simp)
      simp at this
      omega
    subst hs
    have hz : ∀ j v, ((List.range sz').map (c' 0))[j]? = some v → j < sz' ∧ v = c' 0 j := by
      intro j v hj
      rw [List.getElem?_map] at hj
      rcases Nat.lt_or_ge j sz' with h | h
      · rw [List.getElem?_range h] at hj
        simp at hj
        exact ⟨h, hj.symm⟩
      · rw [List.getElem?_eq_none (by simpa using h)] at hj
        cases hj
    refine ⟨b, o, cap, (List.range sz').map (c' 0), rfl, h1, hO ▸ h2, ⟨by simp, fun z hz' => ?_, fun i x hx => ?_⟩, by simp, fun j v hj => ?_, fun hp => ⟨c' 0 0, by simpa using hmem 0 0 (by simp) hp⟩⟩
    · obtain ⟨j, hj, rfl⟩ := List.mem_map.1 hz'
      exact hone 0 j (by simp) (by simpa using hj)
    · have : i = 0 := by
        rcases Nat.eq_zero_or_pos i with h | h
        · exact h
        · rw [List.getElem?_eq_none (by simp; omega)] at hx; cases hx
      subst this
      simp at hx
      subst hx
      refine ⟨hsz, fun k y hy => ?_⟩
      have hk : k < sz' := by have := (List.getElem?_eq_some_iff.1 hy).1; omega
      refine ⟨c' 0 k, by rw [List.getElem?_map, Nat.zero_mul, Nat.zero_add, List.getElem?_range hk]; rfl, ?_, hone 0 k (by simp) hk⟩
      have := hrel 0 k (by simp) hk
      simp [cellAt, hy] at this
      exact (hO ▸ this).toRS
    · obtain ⟨h3, rfl⟩ := hz j v hj
      simpa using hmem 0 j (by simp) h3
  | _ => cases hv
end
end Go.DM
