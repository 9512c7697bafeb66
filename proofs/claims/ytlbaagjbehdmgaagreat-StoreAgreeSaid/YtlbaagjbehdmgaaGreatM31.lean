/- The example of the chapter, in plain Lean. The steps of the example. -/
import Derived.Test.YtlbaagjbehdmgaaGreatM30
import Derived.Test.YtlbaagjbehdmgaaGreatM16
import Derived.Test.YtlbaagjbehdmgaaGreatM17
namespace Go.Proofs.YtlbaagjbehdmgaaGreat

def exD0 : Dsk := ⟨List.replicate 12 (zeros 64), List.replicate 12 (zeros 64), [], 0, false, 0⟩
def exM : Int × Dsk × Option St := makeP exD0 2
def exS1 : St := firstSt 2
def exE1 : Ent := ⟨0, 0, [97]⟩
def exE2 : Ent := ⟨0, 1, zeros 52⟩
def exE3 : Ent := ⟨1, 0, []⟩
def exA1 : Int × Dsk × St × Option St := addP exM.2.1 exS1 none 0 exE1
def exA2 : Int × Dsk × St × Option St := addP exA1.2.1 exA1.2.2.1 exA1.2.2.2 0 exE2
def exA3 : Int × Dsk × St × Option St := addP exA2.2.1 exA2.2.2.1 exA2.2.2.2 0 exE3
def exR : Int × Dsk := exA3.2.1.rot 8 0 1
def exO : Int × Option (St × Option St) := openP exR.2
def exS2 : St := ⟨1, 2, 2, [⟨exE1, [2]⟩], [3]⟩
def exS3 : St := ⟨0, 2, 3, [⟨exE1, [2]⟩, ⟨exE2, [4, 5]⟩], [6]⟩
def exS4 : St := ⟨1, 2, 4, [⟨exE1, [2]⟩, ⟨exE2, [4, 5]⟩, ⟨exE3, [7]⟩], [8]⟩
theorem exM_e : exM.1 = 0 := by kernel_rfl
theorem exM_s : exM.2.2 = some exS1 := by kernel_rfl
theorem exA1_e : exA1.1 = 0 := by kernel_rfl
theorem exA1_s : exA1.2.2 = (exS2, some exS1) := by kernel_rfl
theorem exA2_e : exA2.1 = 0 := by kernel_rfl
theorem exA2_s : exA2.2.2 = (exS3, some exS2) := by kernel_rfl
theorem exA3_e : exA3.1 = 0 := by kernel_rfl
theorem exA3_s : exA3.2.2 = (exS4, some exS3) := by kernel_rfl
theorem exR_e : exR.1 = 0 := by kernel_rfl
theorem exR_f : exR.2.falls = 0 := by kernel_rfl
theorem exR_n : exR.2.now.length = 12 := by kernel_rfl
theorem exO_e : exO.1 = 0 := by kernel_rfl
theorem exO_s : exO.2 = some (exS3, none) := by kernel_rfl
theorem exM_f : exM.2.1.falls = 0 := by kernel_rfl
theorem exM_w : exM.2.1.writes.length = 0 := by kernel_rfl
theorem exM_n : exM.2.1.now.length = 12 := by kernel_rfl
theorem exA1_w : exA1.2.1.writes.length = 0 := by kernel_rfl
theorem exA1_n : exA1.2.1.now.length = 12 := by kernel_rfl
theorem exA2_w : exA2.2.1.writes.length = 0 := by kernel_rfl
theorem exA2_n : exA2.2.1.now.length = 12 := by kernel_rfl
theorem exA3_n : exA3.2.1.now.length = 12 := by kernel_rfl
theorem exF0 : (freeOf exM.2.1 exS1 none).length = 10 := by kernel_rfl
theorem exF1 : (freeOf exA1.2.1 exS2 (some exS1)).length = 8 := by kernel_rfl
theorem exF2 : (freeOf exA2.2.1 exS3 (some exS2)).length = 5 := by kernel_rfl
theorem exF3 : (freeOf exA3.2.1 exS4 (some exS3)).length = 4 := by kernel_rfl
theorem exSum : fnv [] = 14695981039346656037 := by kernel_rfl
theorem exSort : sortN [8, 2, 4, 5, 7, 1] = [1, 2, 4, 5, 7, 8] := by
  simp [sortN, List.mergeSort, List.MergeSort.Internal.splitInTwo]
theorem exRot : rottenP exR.2 exS4 0 = (0, [8]) := by
  have h1 : usesOf exS4 ++ [exS4.at_] = [8, 2, 4, 5, 7, 1] := by kernel_rfl
  have h2 : [1, 2, 4, 5, 7, 8].filter (badPg exR.2.now) = [8] := by kernel_rfl
  have h3 : exR.2.falls = 0 := exR_f
  simp only [rottenP, rotList, h1, exSort, h2, h3]
  simp
end Go.Proofs.YtlbaagjbehdmgaaGreat

namespace Go.Proofs.YtlbaagjbehdmgaaGreat
open Go.RowKit

/-- a store on a disk, both made since w -/
def ExAt (w W : World) (s d : Nat) (S : St) (F : Option St) (D : Dsk) : Prop :=
  ∃ fp, IsStore W s d S F 0 ∧ IsDisk W d D fp ∧ Keeps None' w W ∧ (∀ k, fp k → w.heap.size ≤ k) ∧ w.heap.size ≤ s
theorem ExAt.keep {w W W' : World} {s d : Nat} {S : St} {F : Option St} {D : Dsk} (h : ExAt w W s d S F D) (k : Keeps None' W W') : ExAt w W' s d S F D := by
  obtain ⟨fp, ⟨cb, fv, a⟩, b, c, d1, e⟩ := h
  exact ⟨fp, ⟨cb, fv, a.keep k (spares_none _) (fun h => h)⟩, b.keep k (fun _ _ h => h), c.trans k, d1, e⟩
theorem ex_add {w W : World} {s d : Nat} {S S' : St} {F F' : Option St} {D D' : Dsk} {c : Int} (h : ExAt w W s d S F D) (e : Ent) (hp : addP D S F 0 e = (c, D', S', F')) (h2 : 2 ≤ D.now.length) (hr : D.writes.length ≤ 20000) (hg : S.good) (hl : S.entries.length ≤ 600) :
    Calls Tryz.prog 44 #[.pointer (some ⟨s, 0, none⟩), .agg #[.int .i64 e.house, .int .i64 e.no, .string (str e.body)]] W fun r w' => r = .returned (.int .i64 c) ∧ ExAt w w' s d S' F' D' := by
  obtain ⟨fp, hs, hd, hk, hf, hw⟩ := h
  have h1 := add_any W s d D fp S F 0 e hs hd h2 hr hg hl
  rw [hp] at h1
  refine h1.mono ?_
  rintro r w' ⟨rfl, fp', hst⟩
  refine ⟨rfl, fp', hst.store, hst.disk, hk.trans' hst.keeps (fun i hi h => ?_), fun k h => ?_, hw⟩
  · rcases h with h | h
    · have := hf i h; omega
    · omega
  · rcases hst.fresh k h with h | h
    · exact hf k h
    · have := hk.size; omega
theorem ex_free {w W : World} {s d : Nat} {S : St} {F : Option St} {D : Dsk} (h : ExAt w W s d S F D) (h2 : 2 ≤ D.now.length) (n : Nat) (hn : (freeOf D S F).length = n) :
    Calls Tryz.prog 37 #[.pointer (some ⟨s, 0, none⟩)] W fun r w' => r = .returned (.int .i64 (n : Int)) ∧ ExAt w w' s d S F D := by
  have h' := h
  obtain ⟨fp, hs, hd, hk, hf, hw⟩ := h'
  refine (Free_any W s d D fp S F 0 hs hd h2).mono ?_
  rintro r w' ⟨rfl, hk'⟩
  exact ⟨by rw [hn], h.keep hk'⟩
theorem ex_rot {w W : World} {s d : Nat} {S : St} {F : Option St} {D : Dsk} (h : ExAt w W s d S F D) (k j : Nat) (by_ : UInt8) (hk : k < D.now.length) (hj : j < 64) :
    Calls Tryz.prog 25 #[.pointer (some ⟨d, 0, none⟩), .int .i64 (k : Int), .int .i64 (j : Int), .int .u8 (by_.toNat : Int)] W fun r w' => r = .returned (.int .i64 0) ∧ ExAt w w' s d S F (D.rot k j by_).2 := by
  obtain ⟨fp, hs, hd, hk', hf, hw⟩ := h
  refine (rot_good W d D fp k j by_ hd hk hj).mono ?_
  rintro r w' ⟨rfl, fp', hst⟩
  have hsd : ¬ fp s := by
    obtain ⟨cb, fv, hb⟩ := hs
    exact hd.not_of_type hb.blk (by decide) (by decide) (by decide)
  refine ⟨rfl, fp', ?_, hst.is, hk'.trans' hst.keeps (fun i hi h => ?_), fun k h => ?_, hw⟩
  · obtain ⟨cb, fv, hb⟩ := hs
    exact ⟨cb, fv, hb.keep hst.keeps hd.spares hsd⟩
  · have := hf i h; omega
  · rcases hst.fresh k h with h | h
    · exact hf k h
    · have := hk'.size; omega
theorem ex_rotten {w W : World} {s d : Nat} {S : St} {F : Option St} {D : Dsk} (h : ExAt w W s d S F D) (l : List Nat) (hp : rottenP D S 0 = (0, l)) (hu : ∀ x ∈ usesOf S, x < D.now.length) (hl : (usesOf S).length + 1 ≤ 1000000) (ha : S.at_ < D.now.length) :
    Calls Tryz.prog 59 #[.pointer (some ⟨s, 0, none⟩)] W fun r w' => ∃ a c, r = .returned (.tuple #[.slice a l.length c, .int .i64 0]) ∧ ISlice w' (.slice a l.length c) l ∧ ExAt w w' s d S F D := by
  have h' := h
  obtain ⟨fp, hs, hd, hk, hf, hw⟩ := h'
  have h1 := rotten_any W s d D fp S F 0 hs hd hu hl ha
  rw [hp] at h1
  refine h1.mono ?_
  rintro r w' ⟨v, rfl, ho, hk'⟩
  obtain ⟨a, c, rfl⟩ := own_shape ho
  exact ⟨a, c, rfl, ISlice.of_own ho, h.keep hk'⟩
theorem ex_open {w W : World} {s d : Nat} {S S' : St} {F F' : Option St} {D : Dsk} (h : ExAt w W s d S F D) (hp : openP D = (0, some (S', F'))) (hf0 : D.falls = 0) :
    Calls Tryz.prog 45 #[.pointer (some ⟨d, 0, none⟩)] W fun r w' => ∃ t, r = .returned (.tuple #[.pointer (some ⟨t, 0, none⟩), .int .i64 0]) ∧ IsStore w' t d S' F' 0 ∧ ExAt w w' s d S F D ∧ Keeps None' W w' := by
  have h' := h
  obtain ⟨fp, hs, hd, hk, hf, hw⟩ := h'
  have h1 := open_any W d D fp hd
  rw [hp, hf0] at h1
  refine h1.mono ?_
  rintro r w' ⟨hk', t, rfl, ht, hst⟩
  exact ⟨t, rfl, hst, h.keep hk', hk'⟩
theorem islice_keep {w w' : World} {v : Value} {l : List Nat} (h : ISlice w v l) (k : Keeps None' w w') : ISlice w' v l := h.keep k
theorem islice_one (W : World) (x : Nat) : ISlice (W.alloc (.cells #[.int .i64 (x : Int)] 3)) (.slice (some ⟨W.heap.size, 0, none⟩) 1 1) [x] :=
  ⟨_, _, rfl, fun i y hy => by
    cases i with
    | zero =>
      simp only [List.getElem?_cons_zero, Option.some.injEq] at hy
      subst hy
      exact ⟨_, _, rfl, cell_of_blk (heap_alloc_new W _) 0 rfl⟩
    | succ i => simp at hy⟩
/-- All, of a store at hand -/
theorem ex_all {w : World} {b n : Nat} {S : St} (h : IsState w b S) (hn : S.entries.length = n) : Calls Tryz.prog 36 #[.pointer (some ⟨b, 0, none⟩)] w fun e w' =>
    ∃ a c, e = .returned (.slice a n c) ∧ w'.ownsRow w.heap.size 64 3 (.slice a n c) n (entCells (entsOf S)) ∧ Keeps None' w w' := by
  subst hn
  refine (all_any b S w h).mono ?_
  rintro e w' ⟨v, rfl, ho, hk⟩
  obtain ⟨a, c, rfl⟩ := own_shape ho
  exact ⟨a, c, rfl, ho, hk⟩
end Go.Proofs.YtlbaagjbehdmgaaGreat
