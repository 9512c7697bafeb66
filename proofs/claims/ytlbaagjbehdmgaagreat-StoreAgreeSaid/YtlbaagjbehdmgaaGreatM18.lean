/- Rows of entries with their pages: cloning one, inserting into one. -/
import Derived.Lib.Overlaps
import Derived.Lib.AppendZerosOnto
import Derived.Laws.IdiomCopy
import Derived.Deep.RegionLaw
import Derived.Test.YtlbaagjbehdmgaaGreatM16
namespace Go.Proofs.YtlbaagjbehdmgaaGreat
open Go.RowKit

theorem info_placed3 : (Tryz.prog.info? 121).map (fun i => (i.zero, i.size, i.bytes)) = some (some (.agg #[.int .i64 0, .int .i64 0, .string ⟨#[]⟩, .slice none 0 0]), 4, 56) := by kernel_rfl
/-- the cells are one cell each -/
def OneEach (l : List (Ent × Value)) : Prop := ∀ x ∈ l, x.2.oneCell' = true
theorem plCells_one (l : List (Ent × Value)) (h : OneEach l) : ∀ u ∈ plCells l, u.oneCell' = true := fun u hu => by
  simp only [plCells, List.mem_flatten, List.mem_map] at hu
  obtain ⟨c, ⟨x, hx, rfl⟩, hu⟩ := hu
  simp only [List.mem_cons, List.not_mem_nil, or_false] at hu
  rcases hu with rfl | rfl | rfl | rfl
  · rfl
  · rfl
  · rfl
  · exact h x hx
theorem RowP.cells {w : World} {v : Value} {l : List (Ent × Value)} (h : RowP w v l) (hn : l ≠ []) : ∃ b off cap, v = .slice (some ⟨b, off, none⟩) l.length cap ∧ b < w.heap.size ∧ l.length ≤ cap ∧ w.rangeAt b off (plCells l) := by
  rcases h with ⟨_, h⟩ | h
  · exact absurd h hn
  · exact h
theorem RowP.of_own {w : World} {base : Nat} {v : Value} {l : List (Ent × Value)} (h : w.ownsRow base 121 4 v l.length (plCells l)) : RowP w v l := by
  rcases h.2 with ⟨rfl, hn⟩ | ⟨g, cap, cur, rfl, hg, hh, hc, _⟩
  · exact .inl ⟨by first | rfl | rw [hn], List.eq_nil_of_length_eq_zero hn⟩
  · exact .inr ⟨g, 0, cap, rfl, lt_of_block hh, hc, own_range h⟩

set_option maxHeartbeats 1000000 in
theorem cloneP_any (v : Value) (l : List (Ent × Value)) (w : World) (hr : RowP w v l) (ho : OneEach l) (hl : l.length ≤ 10000) :
    Calls Tryz.prog 114 #[v] w fun e w' => FreshRow w 121 4 l.length (plCells l) e w' := by
  rcases hr with ⟨rfl, rfl⟩ | ⟨b, off, cap, rfl, hb, hc, hrange⟩
  · have hq : ∀ W : World, (binOp .eql 117 (.slice none 0 0) (.slice none 0 0)).run Tryz.prog W = .ok (.bool true) W := fun W => Lib.run_eql_slice_nil W _ _ none 0 0 0 0 Tryz.underlying117
    go_enter Tryz.func114, Tryz.ntmps114
    go_wp2
    go_ret
    exact ⟨_, rfl, World.ownsRow_nil w w.heap.size 121 4, Keeps.refl _ _⟩
  · have hq : ∀ W : World, (binOp .eql 117 (.slice (some ⟨b, off, none⟩) l.length cap) (.slice none 0 0)).run Tryz.prog W = .ok (.bool false) W := fun W => Lib.run_eql_slice_nil W _ _ (some ⟨b, off, none⟩) l.length cap 0 0 Tryz.underlying117
    obtain ⟨i0, hi, hz0, hz1, hz2⟩ := info_parts info_placed3
    have HR := Lib.hid hrange
    have HO := Lib.hid (plCells_one l ho)
    have hlen := plCells_length l
    clear hrange
    generalize plCells l = cells at *
    have HL := Lib.hid hlen
    clear hlen
    go_enter Tryz.func114, Tryz.ntmps114
    go_wp2_with (at_builtin; refine list_append_own rfl _ _ _ rfl w.heap.size 121 i0 (.agg #[.int .i64 0, .int .i64 0, .string ⟨#[]⟩, .slice none 0 0]) 4 56 Tryz.underlying117 hi hz0 hz1 hz2 rfl (by decide) _ _ _ rfl (World.ownsRow_made w #[] 0 (Nat.le_refl _) (Nat.zero_le _) rfl) ⟨b, off, none⟩ l.length cap cells rfl ?qc1 ?qc2 HO.out ?qc4 ?qc5 ?qc6 ?_)
    case qc1 => rw [HL.out]
    case qc2 =>
      intro j u hj
      rw [Addr.add_lit]
      exact Lib.cell?_alloc_some _ (HR.out j u hj)
    case qc4 => unfold maxLen; omega
    case qc5 => omega
    case qc6 => simp
    intro v' w1 hown hgrow hfr
    go_wp2
    go_ret
    refine ⟨v', rfl, by simpa using hown, ((Keeps.refl None' w).alloc _).trans' (grownBy_keeps hgrow) (fun i hi e => ?_)⟩
    simp [Value.ownBlock] at e
    omega

/-- copying cells of elements of whatever size -/
theorem run_copy_cellsN {P : Program} (w : World) (dT sT ty elem : TypeId) (b o dLen dCap : Nat) (a : Addr) (sLen sCap n : Nat) (cs : List Value)
    (hu : P.underlying dT = some (.slice elem)) (hs : (P.info? elem).map (·.size) = some n) (hn : cs.length = Nat.min sLen dLen * n)
    (hsrc : ∀ j v, cs[j]? = some v → w.cell? (a.add j) = some v) (hc : ∀ j, j < cs.length → (w.cell? ⟨b, o + j, none⟩).isSome = true) (hf : ∀ j, j < cs.length → w.frozen? ⟨b, o + j, none⟩ = false) (h1 : ∀ v ∈ cs, v.oneCell' = true) :
    (Builtin.copy_ #[dT, sT] ty #[.slice (some ⟨b, o, none⟩) dLen dCap, .slice (some a) sLen sCap]).run P w = .ok (goInt (Nat.min sLen dLen)) (w.setCells b o cs) := by
  have hl := run_loadCells_list (P := P) w a cs hsrc
  have hst := run_storeCells_cells (P := P) b o cs 0 w (by simpa using hc) (by simpa using hf) h1
  cases hq : P.info? elem with
  | none => simp [hq] at hs
  | some i =>
    have hi : i.size = n := by simpa [hq] using hs
    rw [hn] at hl
    simp [Builtin.copy_, run_underlying hu, Builtin.lenOf, Builtin.firstCells, sizeOf, typeInfo, hq, hi, hl]
    simp only [Nat.add_zero] at hst
    rw [hst]
    rfl

theorem list_copy_run {P : Program} (w : World) {ops : Array Oper} {rest : List Oper} {o : Oper} {a : Act} {Q : Exit → Act → World → Prop} (hgd : o.guard = none) (d s : Operand) (t t' : TypeId)
    (ho : o.op = .call { callee := .builtin .copy, args := #[d, s], argTypes := #[t, t'] }) (v u : Value) (hd : a.eval d = v) (hs : a.eval s = u) {v' : Value} {w' : World}
    (hr : (Builtin.copy_ #[t, t'] o.type #[v, u]).run P w = .ok v' w') (h : wpList P ops Q rest (a.put o.dst v') w') : wpList P ops Q (o :: rest) a w := by
  refine wpList_plain hgd fun K hK => ?_
  unfold Oper.wp
  simp only [execOp, ho, resolve, invoke, builtin, Sem.run_bind, Sem.run_pure, Result.andThen_ok, List.map_toArray, List.map_cons, List.map_nil, hd, hs, hr]
  exact hK _ _ h
theorem step_copy_run {P : Program} {ops : Array Oper} {o : Oper} {a : Act} {w : World} {K : Act → World → Prop} {Q : Exit → Act → World → Prop} {E : Prop}
    (hg : o.guard = none) (d x : Operand) (dT sT : TypeId) (hop : o.op = Op.call { callee := Callee.builtin Builtin.copy, args := #[d, x], argTypes := #[dT, sT] })
    (v u : Value) (hd : a.eval d = v) (hx : a.eval x = u) {v' : Value} {w' : World} (hr : (Builtin.copy_ #[dT, sT] o.type #[v, u]).run P w = .ok v' w') (hK : K (a.put o.dst v') w') :
    if Region.wanted o (yielded ops a.tmps) = true then Oper.wp P o a w K Q else E := by
  have hw : Region.wanted o (yielded ops a.tmps) = true := by simp [Region.wanted, hg]
  rw [if_pos hw]
  unfold Oper.wp
  simp [execOp, hop, resolve, invoke, builtin, hd, hx, hr, Result.andThen]
  exact hK
end Go.Proofs.YtlbaagjbehdmgaaGreat
