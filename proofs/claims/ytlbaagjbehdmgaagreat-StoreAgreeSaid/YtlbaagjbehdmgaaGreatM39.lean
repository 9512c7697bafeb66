/- Arguments as they come in: lists of entries, of numbers, worlds. -/
import Derived.ProofKit
import Derived.Lib.SmallJoins
import Derived.Deep.Slices
import Derived.Deep.Fields
import Derived.Carry
import Derived.Test.YtlbaagjbehdmgaaGreatM38
namespace Go.Proofs.YtlbaagjbehdmgaaGreat
open Go.ChangeShapes Go.WideShapes Go.ChangeAt Go.RowKit Go.Joins Go.Deep

theorem own : ownKnob Tryz.prog.godebug = none := by kernel_rfl
theorem cellsEntry : Tryz.prog.cellsOf 64 = 3 := by kernel_rfl
theorem cellsStr : Tryz.prog.cellsOf 9 = 1 := by kernel_rfl
theorem cellsWorld : Tryz.prog.cellsOf 46 = 3 := by kernel_rfl
theorem wf_bounds {n : Int} (h : (Lit.int .i64 n).wf = true) : -9223372036854775808 ≤ n ∧ n ≤ 9223372036854775807 := by
  simp only [Lit.wf, IntKind.min, IntKind.max, IntKind.signed, IntKind.bits, Bool.and_eq_true, decide_eq_true_eq] at h
  simp at h
  omega
theorem choose_list {α : Type} {P : Nat → α → Prop} : ∀ n, (∀ i, i < n → ∃ a, P i a) → ∃ L : List α, L.length = n ∧ ∀ i a, L[i]? = some a → P i a
  | 0, _ => ⟨[], rfl, fun i a h => by simp at h⟩
  | n + 1, h => by
    obtain ⟨L, h1, h2⟩ := choose_list n (fun i hi => h i (by omega))
    obtain ⟨a, ha⟩ := h n (by omega)
    refine ⟨L ++ [a], by simp [h1], fun i b hb => ?_⟩
    by_cases e : i < n
    · rw [List.getElem?_append_left (by omega)] at hb
      exact h2 i b hb
    · rw [List.getElem?_append_right (by omega)] at hb
      have e2 : i - L.length = 0 := by
        have := (List.getElem?_eq_some_iff.1 hb).1
        simp at this; omega
      rw [e2] at hb
      simp at hb
      rw [show i = n by omega, ← hb]; exact ha
section
variable {H : Type} {enc : TypeId × Value → H} {W : World}
set_option maxRecDepth 100000 in
theorem open_entry {fuel : Nat} {cs : List Value} {x : DataW H × List MemPlace} (h : DataW.trod enc Tryz.prog W 0 (fun _ => true) true fuel 64 cs = some x) :
    ∃ e : Ent, cs = [.int .i64 e.house, .int .i64 e.no, .string (str e.body)] ∧ (Lit.int .i64 e.house).wf = true ∧ (Lit.int .i64 e.no).wf = true ∧ e.body.length ≤ maxLen := by
  obtain ⟨xs, n, _, _, hcs, hlen, hg⟩ := DataW.trod_struct Tryz.underlying64 h
  rw [cellsEntry] at hcs
  match cs, hcs with
  | [c0, c1, c2], _ =>
    match xs, hlen with
    | [y0, y1, y2], _ =>
      have g0 := hg 0 _ rfl
      have g1 := hg 1 _ rfl
      have g2 := hg 2 _ rfl
      obtain ⟨a, e0, _, w0⟩ := DataW.trod_int Tryz.underlying3 g0
      obtain ⟨b, e1, _, w1⟩ := DataW.trod_int Tryz.underlying3 g1
      obtain ⟨s, e2, _, w2⟩ := DataW.trod_string Tryz.underlying9 g2
      refine ⟨⟨a, b, s.data.toList⟩, ?_, w0, w1, ?_⟩
      · have f0 : c0 = .int .i64 a := by simpa [cellsInt] using e0
        have f1 : c1 = .int .i64 b := by simpa [cellsInt] using e1
        have f2 : c2 = .string s := by simpa [cellsStr] using e2
        rw [f0, f1, f2]
        cases s
        simp [str]
      · dsimp only
        rw [Array.length_toList]; exact w2
/-- a slice of entries that came in -/
theorem open_ents {fuel : Nat} {v : Value} {x : DataW H × List MemPlace} (h : DataW.trod enc Tryz.prog W 0 (fun _ => true) true fuel 44 [v] = some x) : ∃ L : List Ent, EntSl W v L ∧ L.length ≤ maxLen := by
  rcases open_slice Tryz.underlying44 h with ⟨hcs, _⟩ | ⟨a, len, cap, m, n, D, Pl, hcs, _, hl, hm, hmm, _, hi⟩
  · simp only [List.cons.injEq, and_true] at hcs
    exact ⟨[], .inl ⟨none, 0, hcs, rfl⟩, Nat.zero_le _⟩
  · simp only [List.cons.injEq, and_true] at hcs
    simp only [if_true] at hmm
    subst hmm
    have hE : ∀ i, i < len → ∃ e : Ent, W.cell? (a.add (i * 3)) = some (.int .i64 e.house) ∧ W.cell? (a.add (i * 3 + 1)) = some (.int .i64 e.no) ∧ W.cell? (a.add (i * 3 + 2)) = some (.string (str e.body)) := fun i hil => by
      obtain ⟨cs', hc, ht⟩ := hi i (by omega)
      rw [cellsEntry] at hc
      obtain ⟨e, he, _⟩ := open_entry ht
      obtain ⟨_, _, hat⟩ := World.cells?_some hc
      refine ⟨e, ?_, ?_, ?_⟩
      · have := hat 0 (by omega); rw [Go.Deep.add_add, he] at this; exact this
      · have := hat 1 (by omega); rw [Go.Deep.add_add, he] at this; exact this
      · have := hat 2 (by omega); rw [Go.Deep.add_add, he] at this; exact this
    by_cases hl0 : len = 0
    · subst hl0
      exact ⟨[], .inl ⟨_, _, hcs, rfl⟩, Nat.zero_le _⟩
    obtain ⟨b, off, spot⟩ := a
    obtain ⟨e0, q0, _, _⟩ := hE 0 (by omega)
    have hspot : spot = none := by simpa [Addr.add] using World.cell?_spot q0
    subst hspot
    obtain ⟨L, hL, hch⟩ := choose_list len hE
    refine ⟨L, .inr ⟨b, off, m, by rw [hL]; exact hcs, block_lt_of_cell q0, by rw [hL]; exact hl, fun j u hj => ?_⟩, by rw [hL]; omega⟩
    have hjl := (List.getElem?_eq_some_iff.1 hj).1
    rw [entCells_length] at hjl
    have hi3 : j / 3 < L.length := by omega
    obtain ⟨g0, g1, g2⟩ := entCells_get L (j / 3) hi3
    obtain ⟨p0, p1, p2⟩ := hch (j / 3) L[j / 3] (by simp [hi3])
    rw [Addr.add_lit] at p0 p1 p2
    have hc : j % 3 = 0 ∨ j % 3 = 1 ∨ j % 3 = 2 := by omega
    rcases hc with e | e | e
    · have ej : j / 3 * 3 = j := by omega
      rw [ej] at g0 p0
      rw [hj] at g0
      rw [Option.some.inj g0]; exact p0
    · have ej : j / 3 * 3 + 1 = j := by omega
      rw [ej] at g1 p1
      rw [hj] at g1
      rw [Option.some.inj g1]; exact p1
    · have ej : j / 3 * 3 + 2 = j := by omega
      rw [ej] at g2 p2
      rw [hj] at g2
      rw [Option.some.inj g2]; exact p2
/-- a slice of numbers that came in -/
theorem open_nums {fuel : Nat} {v : Value} {x : DataW H × List MemPlace} (h : DataW.trod enc Tryz.prog W 0 (fun _ => true) true fuel 47 [v] = some x) : ∃ zs : List Int, IntSl W v zs ∧ zs.length ≤ maxLen := by
  rcases open_slice1 Tryz.underlying47 cellsInt h with ⟨hcs, _⟩ | ⟨a, len, cap, m, n, V, D, Pl, hcs, _, hl, hm, hmm, _, hi⟩
  · simp only [List.cons.injEq, and_true] at hcs
    exact ⟨[], .inl ⟨none, 0, hcs, rfl⟩, Nat.zero_le _⟩
  · simp only [List.cons.injEq, and_true] at hcs
    simp only [if_true] at hmm
    subst hmm
    have hE : ∀ i, i < len → ∃ z : Int, W.cell? (a.add i) = some (.int .i64 z) := fun i hil => by
      obtain ⟨hc, ht⟩ := hi i (by omega)
      obtain ⟨z, e0, _, _⟩ := DataW.trod_int Tryz.underlying3 ht
      simp only [List.cons.injEq, and_true] at e0
      exact ⟨z, by rw [hc, e0]⟩
    by_cases hl0 : len = 0
    · subst hl0
      exact ⟨[], .inl ⟨_, _, hcs, rfl⟩, Nat.zero_le _⟩
    obtain ⟨b, off, spot⟩ := a
    obtain ⟨e0, q0⟩ := hE 0 (by omega)
    have hspot : spot = none := by simpa [Addr.add] using World.cell?_spot q0
    subst hspot
    obtain ⟨L, hL, hch⟩ := choose_list len hE
    refine ⟨L, .inr ⟨b, off, m, by rw [hL]; exact hcs, block_lt_of_cell q0, by rw [hL]; exact hl, fun j u hj => ?_⟩, by rw [hL]; omega⟩
    rw [List.getElem?_map] at hj
    cases hq : L[j]? with
    | none => rw [hq] at hj; cases hj
    | some z =>
      rw [hq] at hj
      have := hch j z hq
      rw [Addr.add_lit] at this
      rw [← Option.some.inj hj]; exact this
set_option maxRecDepth 100000 in
/-- a world that came in -/
theorem open_world {v : Value} {d : DataW H} {p : List MemPlace} {r : Reach} {b0 : Nat} (hv : Value.okWide Tryz.prog W r b0 46 v) (h : DataW.Trod enc Tryz.prog W 0 (fun _ => true) true 46 v d p) :
    ∃ (x y : Int) (u : Value) (L : List Ent), v = .agg #[.int .i64 x, .int .i64 y, u] ∧ EntSl W u L ∧ L.length ≤ maxLen := by
  obtain ⟨c0, c1, c2, y0, y1, y2, m, rfl, _, _, hy0, hy1, hy2⟩ := open_agg3 Tryz.underlying46 (by kernel_rfl) cellsWorld hv h
  obtain ⟨x, e0, _, _⟩ := DataW.trod_int Tryz.underlying3 hy0
  obtain ⟨y, e1, _, _⟩ := DataW.trod_int Tryz.underlying3 hy1
  obtain ⟨L, hL, hl⟩ := open_ents hy2
  simp only [List.cons.injEq, and_true] at e0 e1
  exact ⟨x, y, c2, L, by rw [e0, e1], hL, hl⟩
end
end Go.Proofs.YtlbaagjbehdmgaaGreat
