/- The map of the least entries, by house and number. For Take: look-ups and stores of the map of the least entries, in the walk; the state of the loops. -/
import Derived.Maps.OwnOps
import Derived.DeepKeys4
import Derived.Test.YtlbaagjbehdmgaaGreatM35
namespace Go.Proofs.YtlbaagjbehdmgaaGreat
open Go.RowKit Go.Maps

theorem laidOut : laidOutB Tryz.prog = true := by kernel_rfl
theorem rowKey : (123 : TypeId) < Tryz.prog.types.size := of_decide_eq_true (by kernel_rfl)
theorem deepKey : Tryz.prog.keyTypeAt 2 123 = true := by kernel_rfl
theorem kindKey : Tryz.prog.keyType 123 = true := by kernel_rfl
theorem lawKey : Keyed Tryz.prog 123 := Keyed.of_law (deep_law_laid laidOut (m := 2) (by decide) rowKey deepKey (by rw [Tryz.underlying123]))
theorem cellsKey : Tryz.prog.cellsOf 123 = 2 := by kernel_rfl
theorem cellsInt : Tryz.prog.cellsOf 3 = 1 := by kernel_rfl
/-- a house and a number as a key -/
def keyV (h n : Int) : Value := .agg #[.int .i64 h, .int .i64 n]
theorem keyV_inj {h n h' n' : Int} (e : keyV h n = keyV h' n') : h = h' ∧ n = n' := by
  simpa [keyV] using e
theorem keyV_lit (h n : Int) (h1 : (Lit.int .i64 h).wf = true) (h2 : (Lit.int .i64 n).wf = true) : ∃ kl, keyOf Tryz.prog 123 (keyV h n) = some kl := by
  have hf : (keyV h n).formed Tryz.prog 123 = true := by simp [keyV, Value.formed, Tryz.underlying123, cellsKey]
  obtain ⟨d, hd⟩ : ∃ d, Tryz.prog.types.size = d + 1 := ⟨Tryz.prog.types.size - 1, by have h : 0 < Tryz.prog.types.size := Nat.lt_of_le_of_lt (Nat.zero_le _) rowKey; omega⟩
  have hk : Tryz.prog.keyLits (Tryz.prog.types.size + 1) 123 (keyV h n).cells.toList = some [.int .i64 h, .int .i64 n] := by
    rw [hd]
    simp [keyV, Program.keyLits, Tryz.underlying123, Tryz.underlying3, cellsKey, cellsInt, List.range_succ, h1, h2, Value.cells]
  unfold keyOf
  rw [Tryz.underlying123]
  dsimp only
  rw [kindKey, hf, hk]
  exact ⟨_, rfl⟩
/-- how an entry reads: as nothing -/
def unitR : Value → Option (DataW Unit × List MemPlace) := fun _ => some (.nil, [])
/-- block mb is the map of the least entries of L -/
def IsLeastMap (w : World) (mb n : Nat) (L : List Ent) : Prop :=
  ∃ es clock, w.heap[mb]? = some (.map es clock) ∧ WideElems.Fit Tryz.prog 123 unitR es clock ∧ es.size ≤ n ∧
    (∀ x ∈ es.toList, ∃ e : Ent, e.valid = true ∧ x.key = keyV e.house e.no ∧ x.val = e.val ∧ leastP L e.house e.no = some e) ∧
    (∀ (h no : Int) (e : Ent), leastP L h no = some e → ∃ x ∈ es.toList, x.key = keyV h no)
theorem IsLeastMap.made (w : World) : IsLeastMap (w.alloc (.map #[] 0)) w.heap.size 0 [] :=
  ⟨#[], 0, (MapKept.heap_alloc w _).1, ⟨by simp, MapKept.stamped_empty 0, by simp⟩, Nat.le_refl _, by simp, fun h no e he => by simp [leastP] at he⟩
theorem IsLeastMap.lt {w : World} {mb n : Nat} {L : List Ent} (h : IsLeastMap w mb n L) : mb < w.heap.size := by
  obtain ⟨es, clock, hb, _⟩ := h
  exact lt_of_block hb
theorem IsLeastMap.keep {S : Nat → Prop} {w w' : World} {mb n : Nat} {L : List Ent} (h : IsLeastMap w mb n L) (k : Keeps S w w') (hs : ¬ S mb) : IsLeastMap w' mb n L := by
  obtain ⟨es, clock, hb, r⟩ := h
  exact ⟨es, clock, k.blk hb hs, r⟩
theorem IsLeastMap.congr {w : World} {mb n : Nat} {L M : List Ent} (h : IsLeastMap w mb n L) (he : ∀ a b, leastP M a b = leastP L a b) : IsLeastMap w mb n M := by
  obtain ⟨es, clock, hb, F, hs, h1, h2⟩ := h
  refine ⟨es, clock, hb, F, hs, fun x hx => ?_, fun a b e hq => h2 a b e (by rw [← he]; exact hq)⟩
  obtain ⟨e, v, k, w', l⟩ := h1 x hx
  exact ⟨e, v, k, w', by rw [he]; exact l⟩
def lookV : Option Ent → Value
  | none => .tuple #[.agg #[.int .i64 0, .int .i64 0, .string ⟨#[]⟩], .bool false]
  | some e => .tuple #[e.val, .bool true]
theorem zeroEnt (w : World) : (zeroValue 64).run Tryz.prog w = .ok (.agg #[.int .i64 0, .int .i64 0, .string ⟨#[]⟩]) w := by kernel_rfl
set_option maxRecDepth 100000 in
theorem IsLeastMap.look {w : World} {mb n : Nat} {L : List Ent} (h : IsLeastMap w mb n L) (a b : Int) (h1 : (Lit.int .i64 a).wf = true) (h2 : (Lit.int .i64 b).wf = true) :
    (Instr.lookup 122 (.map (some mb)) (.agg #[.int .i64 a, .int .i64 b]) true).run Tryz.prog w = .ok (lookV (leastP L a b)) w := by
  obtain ⟨es, clock, hb, F, _, g1, g2⟩ := h
  obtain ⟨kl, hk⟩ := keyV_lit a b h1 h2
  rcases Maps.fit_look (R := unitR) true lawKey Tryz.underlying122 (zeroEnt w) hb F hk with ⟨hrun, hno, _⟩ | ⟨e0, _, hm, hke, hrun, _⟩
  · cases hl : leastP L a b with
    | none =>
      have hr := hrun
      rw [if_pos rfl] at hr
      exact hr
    | some e =>
      obtain ⟨x, hx, hxk⟩ := g2 a b e hl
      exact absurd hxk (hno x hx)
  · obtain ⟨e, v, k, u, l⟩ := g1 e0 hm
    rw [hke] at k
    obtain ⟨i1, i2⟩ := keyV_inj k
    have hl : leastP L a b = some e := by rw [i1, i2]; exact l
    rw [hl]
    have hr := hrun
    rw [if_pos rfl, u] at hr
    exact hr
theorem valid_wf {e : Ent} (hv : e.valid = true) : (Lit.int .i64 e.house).wf = true ∧ (Lit.int .i64 e.no).wf = true := by
  simp [Ent.valid] at hv
  exact ⟨WalkArith.wf_i64 (by omega), WalkArith.wf_i64 (by omega)⟩
theorem unit_mem {es : Array MapEntry} {clock : Nat} (F : WideElems.Fit Tryz.prog 123 unitR es clock) {k : Lit} {d : DataW Unit} (h : (k, d) ∈ (es.toList.map (WideElems.rg Tryz.prog 123 unitR)).foldr DataW.insert []) : ∃ x ∈ es.toList, keyOf Tryz.prog 123 x.key = some k := by
  have h1 := (WideShapes.sorted_perm _).mem_iff.1 h
  obtain ⟨x, hx, hq⟩ := List.mem_map.1 h1
  obtain ⟨y, hy⟩ := F.reads x hx
  refine ⟨x, hx, ?_⟩
  have h2 := WideElems.rd_key hy
  rw [WideElems.rg_of hy] at hq
  rw [hq] at h2
  exact h2
set_option maxRecDepth 100000 in
theorem IsLeastMap.store {w : World} {mb n : Nat} {L : List Ent} (h : IsLeastMap w mb n L) (e : Ent) (hv : e.valid = true) (hn : n ≤ 1000000) (hl : leastP (L ++ [e]) e.house e.no = some e) :
    ∃ w', (Instr.mapUpdate 122 (.map (some mb)) (.agg #[.int .i64 e.house, .int .i64 e.no]) e.val).run Tryz.prog w = .ok () w' ∧ IsLeastMap w' mb (n + 1) (L ++ [e]) ∧ w.grownBy w' (some mb) := by
  obtain ⟨es, clock, hb, F, hs, g1, g2⟩ := h
  obtain ⟨w1, w2⟩ := valid_wf hv
  obtain ⟨kl, hk⟩ := keyV_lit e.house e.no w1 w2
  obtain ⟨es', clock', hrun, F', hput, _, _, hall⟩ := Maps.fit_store (R := unitR) (R' := unitR) lawKey Tryz.underlying122 hb F (by unfold maxLen; omega) (fun _ _ _ _ hz => hz) hk (show unitR e.val = some (.nil, []) from rfl)
  have hsame : ∀ a b, (a, b) ≠ (e.house, e.no) → leastP (L ++ [e]) a b = leastP L a b := fun a b hne => by
    rw [leastP_snoc]
    unfold least1
    rw [if_neg (fun hc => hne (by rw [hc.2.1, hc.2.2]))]
  have hnew : ∀ x : MapEntry, x ∈ es.toList → x.key ≠ keyV e.house e.no → ∃ x' ∈ es'.toList, x'.key = x.key := fun x hx hne => by
    obtain ⟨y, hy⟩ := F.reads x hx
    have hxk := WideElems.rd_key hy
    have hmem : y ∈ (es.toList.map (WideElems.rg Tryz.prog 123 unitR)).foldr DataW.insert [] := (WideShapes.sorted_perm _).mem_iff.2 (List.mem_map.2 ⟨x, hx, WideElems.rg_of hy⟩)
    have hne' : y.1 ≠ kl := fun hc => hne (lawKey.inj (by rw [hxk, hc]) hk)
    have hin : (y.1, y.2) ∈ (es'.toList.map (WideElems.rg Tryz.prog 123 unitR)).foldr DataW.insert [] := by
      rw [hput]
      exact ChangeMaps.mem_insert_iff.2 (.inr (List.mem_filter.2 ⟨hmem, (Maps.notKey_iff (lawKey.key hk)).2 hne'⟩))
    obtain ⟨x', hx', hk'⟩ := unit_mem F' hin
    exact ⟨x', hx', lawKey.inj hk' hxk⟩
  have hown : ∃ x' ∈ es'.toList, x'.key = keyV e.house e.no := by
    have hin : (kl, (DataW.nil : DataW Unit)) ∈ (es'.toList.map (WideElems.rg Tryz.prog 123 unitR)).foldr DataW.insert [] := by
      rw [hput]
      exact ChangeMaps.mem_insert_iff.2 (.inl rfl)
    obtain ⟨x', hx', hk'⟩ := unit_mem F' hin
    exact ⟨x', hx', lawKey.inj hk' hk⟩
  refine ⟨_, hrun, ⟨es', clock', ChangeMaps.heap_setBlock_same hb _, F', ?_, fun x' hx' => ?_, fun a b z hz => ?_⟩, ⟨rfl, rfl, rfl, by simp [ChangeMaps.setBlock], fun i _ hi => ChangeMaps.heap_setBlock_other hb _ (fun e => hi (by rw [e]))⟩⟩
  · have e1 : es'.size = ((es'.toList.map (WideElems.rg Tryz.prog 123 unitR)).foldr DataW.insert []).length := by rw [length_sorted]; simp
    rw [e1, hput]
    unfold ChangeMaps.putKey
    rw [length_insert]
    have e2 := List.length_filter_le (ChangeMaps.notKey kl) ((es.toList.map (WideElems.rg Tryz.prog 123 unitR)).foldr DataW.insert [])
    rw [length_sorted] at e2
    simp at e2
    omega
  · rcases hall x' hx' with ⟨hx, hne⟩ | ⟨hk1, hv1⟩
    · obtain ⟨z, v, k, u, l⟩ := g1 x' hx
      refine ⟨z, v, k, u, ?_⟩
      rw [hsame _ _ (fun hc => hne ?_)]
      · exact l
      · have c1 := congrArg Prod.fst hc
        have c2 := congrArg Prod.snd hc
        dsimp only at c1 c2
        rw [k, c1, c2]
    · exact ⟨e, hv, hk1, hv1, hl⟩
  · by_cases hc : (a, b) = (e.house, e.no)
    · have c1 := congrArg Prod.fst hc
      have c2 := congrArg Prod.snd hc
      dsimp only at c1 c2
      rw [c1, c2]; exact hown
    · rw [hsame a b hc] at hz
      obtain ⟨x, hx, hxk⟩ := g2 a b z hz
      obtain ⟨x', hx', hk'⟩ := hnew x hx (by rw [hxk]; exact fun h => hc (by obtain ⟨i1, i2⟩ := keyV_inj h; rw [i1, i2]))
      exact ⟨x', hx', hk'.trans hxk⟩
end Go.Proofs.YtlbaagjbehdmgaaGreat

namespace Go.Proofs.YtlbaagjbehdmgaaGreat
open Go.RowKit Go.Maps

theorem run_to_list {P : Program} {w : World} {ops : Array Oper} {rest : List Oper} {o : Oper} {a : Act} {Q : Exit → Act → World → Prop} (hg : o.guard = none) (m x : Operand) (t : TypeId) (c : Bool) (hop : o.op = Op.lookup t m x c) (mv xv v : Value)
    (hm : a.eval m = mv) (hx : a.eval x = xv) (hrun : (Instr.lookup t mv xv c).run P w = .ok v w) (hK : wpList P ops Q rest (a.put o.dst v) w) : wpList P ops Q (o :: rest) a w := by
  refine wpList_plain hg fun K' hK' => ?_
  unfold Oper.wp
  simp [execOp, hop, hm, hx, hrun, Result.andThen]
  exact hK' _ _ hK
theorem list_look_none {w : World} {ops : Array Oper} {rest : List Oper} {o : Oper} {a : Act} {Q : Exit → Act → World → Prop} (hg : o.guard = none) (m x : Operand) (hop : o.op = Op.lookup 122 m x true)
    (mb n : Nat) (h no : Int) (L : List Ent) (hm : a.eval m = .map (some mb)) (hx : a.eval x = .agg #[.int .i64 h, .int .i64 no]) (hM : IsLeastMap w mb n L) (w1 : (Lit.int .i64 h).wf = true) (w2 : (Lit.int .i64 no).wf = true) (hl : leastP L h no = none)
    (hK : wpList Tryz.prog ops Q rest (a.put o.dst (.tuple #[.agg #[.int .i64 0, .int .i64 0, .string ⟨#[]⟩], .bool false])) w) : wpList Tryz.prog ops Q (o :: rest) a w := by
  have hr := hM.look h no w1 w2
  rw [hl] at hr
  exact run_to_list hg m x _ _ hop _ _ _ hm hx hr hK
theorem list_look_some {w : World} {ops : Array Oper} {rest : List Oper} {o : Oper} {a : Act} {Q : Exit → Act → World → Prop} (hg : o.guard = none) (m x : Operand) (hop : o.op = Op.lookup 122 m x true)
    (mb n : Nat) (h no : Int) (L : List Ent) (e : Ent) (hm : a.eval m = .map (some mb)) (hx : a.eval x = .agg #[.int .i64 h, .int .i64 no]) (hM : IsLeastMap w mb n L) (w1 : (Lit.int .i64 h).wf = true) (w2 : (Lit.int .i64 no).wf = true) (hl : leastP L h no = some e)
    (hK : wpList Tryz.prog ops Q rest (a.put o.dst (.tuple #[.agg #[.int .i64 e.house, .int .i64 e.no, .string (str e.body)], .bool true])) w) : wpList Tryz.prog ops Q (o :: rest) a w := by
  have hr := hM.look h no w1 w2
  rw [hl] at hr
  exact run_to_list hg m x _ _ hop _ _ _ hm hx hr hK
theorem list_leastStore {w : World} {ops : Array Oper} {rest : List Oper} {o : Oper} {a : Act} {Q : Exit → Act → World → Prop} (hg : o.guard = none) (m x v : Operand) (hop : o.op = Op.mapUpdate 122 m x v)
    (mb n : Nat) (L : List Ent) (e : Ent) (hm : a.eval m = .map (some mb)) (hx : a.eval x = .agg #[.int .i64 e.house, .int .i64 e.no]) (hv : a.eval v = .agg #[.int .i64 e.house, .int .i64 e.no, .string (str e.body)]) (hM : IsLeastMap w mb n L) (hva : e.valid = true) (hn : n ≤ 1000000) (hl : leastP (L ++ [e]) e.house e.no = some e)
    (hK : ∀ w', IsLeastMap w' mb (n + 1) (L ++ [e]) → w.grownBy w' (some mb) → wpList Tryz.prog ops Q rest (a.put o.dst undef) w') : wpList Tryz.prog ops Q (o :: rest) a w := by
  obtain ⟨w', hrun, h1, h2⟩ := hM.store e hva hn hl
  have hrun' : (Instr.mapUpdate 122 (.map (some mb)) (.agg #[.int .i64 e.house, .int .i64 e.no]) (.agg #[.int .i64 e.house, .int .i64 e.no, .string (str e.body)])).run Tryz.prog w = .ok () w' := hrun
  refine wpList_plain hg fun K' hK' => ?_
  unfold Oper.wp
  simp [execOp, hop, hm, hx, hv, hrun', Result.andThen]
  exact hK' _ _ (hK w' h1 h2)
theorem bless_eq : ∀ a b : List UInt8, Op.bytesLess a b = blt a b
  | [], [] => rfl
  | _ :: _, [] => rfl
  | [], _ :: _ => rfl
  | a :: x, b :: y => by
    simp only [Op.bytesLess, blt, bless_eq x y]
theorem bless_str (a b : List UInt8) : Op.bytesLess (str a).toList (str b).toList = blt a b := by
  rw [ByteArray.toList_eq, ByteArray.toList_eq, str_data, str_data, bless_eq]

/-- v reads as the entries L -/
def EntSl (w : World) (v : Value) (L : List Ent) : Prop :=
  (∃ a cap, v = .slice a 0 cap ∧ L = []) ∨ ∃ b off cap, v = .slice (some ⟨b, off, none⟩) L.length cap ∧ b < w.heap.size ∧ L.length ≤ cap ∧ w.rangeAt b off (entCells L)
theorem EntSl.keep {w w' : World} {v : Value} {L : List Ent} (h : EntSl w v L) (k : Keeps None' w w') : EntSl w' v L := by
  rcases h with h | ⟨b, off, cap, hv, hb, hc, hr⟩
  · exact .inl h
  · exact .inr ⟨b, off, cap, hv, Nat.lt_of_lt_of_le hb k.size, hc, k.range hr (fun h => h)⟩
theorem EntSl.shape {w : World} {v : Value} {L : List Ent} (h : EntSl w v L) : ∃ a cap, v = .slice a L.length cap := by
  rcases h with ⟨a, cap, rfl, rfl⟩ | ⟨b, off, cap, rfl, _⟩
  · exact ⟨_, _, rfl⟩
  · exact ⟨_, _, rfl⟩
theorem entCells_get (L : List Ent) (i : Nat) (hi : i < L.length) : (entCells L)[i * 3]? = some (.int .i64 L[i].house) ∧ (entCells L)[i * 3 + 1]? = some (.int .i64 L[i].no) ∧ (entCells L)[i * 3 + 2]? = some (.string (str L[i].body)) := by
  induction L generalizing i with
  | nil => simp at hi
  | cons e L ih =>
    have hc : entCells (e :: L) = [.int .i64 e.house, .int .i64 e.no, .string (str e.body)] ++ entCells L := by simp [entCells]
    rw [hc]
    cases i with
    | zero => exact ⟨rfl, rfl, rfl⟩
    | succ i =>
      have := ih i (by simpa using hi)
      rw [List.getElem?_append_right (by simp; omega), List.getElem?_append_right (by simp; omega), List.getElem?_append_right (by simp; omega)]
      simp only [List.length_cons, List.length_nil, List.getElem_cons_succ]
      rw [show (i + 1) * 3 - (0 + 1 + 1 + 1) = i * 3 by omega, show (i + 1) * 3 + 1 - (0 + 1 + 1 + 1) = i * 3 + 1 by omega, show (i + 1) * 3 + 2 - (0 + 1 + 1 + 1) = i * 3 + 2 by omega]
      exact this
theorem entCells_length (L : List Ent) : (entCells L).length = L.length * 3 := by
  induction L with
  | nil => rfl
  | cons e L ih =>
    have hc : entCells (e :: L) = [.int .i64 e.house, .int .i64 e.no, .string (str e.body)] ++ entCells L := by simp [entCells]
    rw [hc, List.length_append, ih]; simp; omega
theorem EntSl.get {w : World} {a : Option Addr} {cap : Nat} {L : List Ent} (h : EntSl w (.slice a L.length cap) L) (i : Nat) (hi : i < L.length) :
    ∃ b off, a = some ⟨b, off, none⟩ ∧ b < w.heap.size ∧ L.length ≤ cap ∧ w.cell? ⟨b, off + i * 3, none⟩ = some (.int .i64 L[i].house) ∧ w.cell? ⟨b, off + i * 3 + 1, none⟩ = some (.int .i64 L[i].no) ∧ w.cell? ⟨b, off + i * 3 + 2, none⟩ = some (.string (str L[i].body)) := by
  rcases h with ⟨a', cap', _, h⟩ | ⟨b, off, cap', he, hb, hc, hr⟩
  · rw [h] at hi; simp at hi
  · injection he with h1 h2 h3
    subst h1; subst h3
    obtain ⟨g0, g1, g2⟩ := entCells_get L i hi
    refine ⟨b, off, rfl, hb, hc, hr _ _ g0, ?_, ?_⟩
    · rw [Nat.add_assoc]; exact hr _ _ g1
    · rw [Nat.add_assoc]; exact hr _ _ g2
theorem EntSl.of_own {w : World} {base : Nat} {v : Value} {L : List Ent} (h : w.ownsRow base 64 3 v L.length (entCells L)) : EntSl w v L := by
  rcases h.2 with ⟨rfl, hn⟩ | ⟨g, cap, cur, rfl, hg, hh, hc, hm, hs, ht⟩
  · exact .inl ⟨none, 0, rfl, List.eq_nil_of_length_eq_zero hn⟩
  · refine .inr ⟨g, 0, cap, rfl, lt_of_block hh, hc, fun j u hj => ?_⟩
    refine cell_of_blk hh _ ?_
    rw [Nat.zero_add]
    rw [← ht, List.getElem?_take] at hj
    split at hj
    · simpa using hj
    · cases hj

/-! ### the state of the loops -/
/-- in order, by houses, and no is at most what the house has -/
def TkOk (H h no : Nat) (l : List Placed) : Prop := ∃ B : Nat → List (List UInt8), l.map (·.e) = joinH B H ∧ no ≤ (B h).length ∧ ∀ k, k < H → (B k).length ≤ 64
theorem join_len (B : Nat → List (List UInt8)) : ∀ H, (∀ k, k < H → (B k).length ≤ 64) → (joinH B H).length ≤ H * 64
  | 0, _ => by simp [joinH]
  | H + 1, h => by
    rw [joinH, List.length_append, houseL_length]
    have := join_len B H (fun k hk => h k (by omega))
    have := h H (by omega)
    omega
theorem houseL_sorted (h : Nat) (bs : List (List UInt8)) : Sorted (houseL h bs) := by
  unfold Sorted
  rw [List.pairwise_iff_getElem]
  intro i j hi hj hij
  have e : ∀ k (hk : k < (houseL h bs).length), (houseL h bs)[k] = ⟨h, k, bs[k]'(by simpa [houseL_length] using hk)⟩ := fun k hk => by simp [houseL]
  rw [e i hi, e j hj]
  simp [Ent.lt]; omega
theorem join_sorted (B : Nat → List (List UInt8)) : ∀ H, Sorted (joinH B H)
  | 0 => by simp [joinH, Sorted]
  | H + 1 => by
    unfold Sorted
    rw [joinH, List.pairwise_append]
    refine ⟨join_sorted B H, houseL_sorted _ _, fun a ha b hb => ?_⟩
    obtain ⟨h1, i1, b1, g1, _, rfl⟩ := joinH_mem.1 ha
    obtain ⟨i2, b2, _, rfl⟩ := houseL_mem.1 hb
    simp [Ent.lt]; omega
theorem TkOk.sorted {H h no : Nat} {l : List Placed} (t : TkOk H h no l) : Sorted (l.map (·.e)) := by
  obtain ⟨B, hB, _⟩ := t
  rw [hB]; exact join_sorted B H
theorem TkOk.len {H h no : Nat} {l : List Placed} (t : TkOk H h no l) (h8 : H ≤ 8) : l.length ≤ 512 := by
  obtain ⟨B, hB, _, hl⟩ := t
  have := join_len B H hl
  rw [← hB, List.length_map] at this
  omega
/-- a round of the inner loop -/
theorem TkOk.step {H h no : Nat} {l : List Placed} (t : TkOk H h no l) (hh : h < H) (L : List Ent) :
    (∀ e, leastP L h no = some e → no < 64 ∧ TkOk H h (no + 1) (withRow l (posOf (l.map (·.e)) h no) (hitL (l.map (·.e)) (posOf (l.map (·.e)) h no) h no) ⟨e, []⟩)) ∧
    (hitL (l.map (·.e)) (posOf (l.map (·.e)) h no) h no = true → no < 64 ∧ TkOk H h (no + 1) l) := by
  obtain ⟨B, hB, hn, hl⟩ := t
  obtain ⟨k, rfl⟩ : ∃ k, H = h + 1 + k := ⟨H - (h + 1), by omega⟩
  rw [hB, posOf_join B h k no hn, hitL_join B h k no hn]
  have h64 := hl h hh
  constructor
  · intro e he
    have hn64 : no < 64 := by
      by_cases c : no < 64
      · exact c
      · rw [leastP_far L h no (by omega)] at he; cases he
    refine ⟨hn64, updB B h (if no < (B h).length then (B h).set no e.body else B h ++ [e.body]), ?_, ?_, fun j hj => ?_⟩
    · rw [withRow_map', hB, ← withRow_join B h k no e.body hn]
      dsimp only
      rw [← leastP_eq he]
    · rw [updB_same]
      split
      · rw [List.length_set]; omega
      · simp; omega
    · by_cases ej : j = h
      · subst ej
        rw [updB_same]
        split
        · rw [List.length_set]; exact h64
        · simp; omega
      · rw [updB_ne _ _ ej]; exact hl j hj
  · intro hc
    have : no < (B h).length := by simpa using hc
    exact ⟨by omega, B, hB, by omega, hl⟩
theorem TkOk.start {H h no : Nat} {l : List Placed} (t : TkOk H h no l) (h' : Nat) : TkOk H h' 0 l := by
  obtain ⟨B, hB, _, hl⟩ := t
  exact ⟨B, hB, Nat.zero_le _, hl⟩
/-- the state of Take's loops in memory -/
structure TkAt (w : World) (houses : Nat) (tb mb M : Nat) (L : List Ent) (st : List Placed × Nat) (wr : World) : Prop where
  keeps : Keeps None' w wr
  map : IsLeastMap wr mb M L
  blk : ∃ v r, wr.heap[tb]? = some (.cells #[.int .i64 0, .int .i64 (houses : Int), .int .u64 0, v, .slice none 0 0] 119 (0, 0)) ∧ RowP wr v r ∧ PagesAt w r st.1 ∧ (0 < st.2 → wr.ownsRow w.heap.size 121 4 v r.length (plCells r))
theorem TkAt.keep {w : World} {houses tb mb M : Nat} {L : List Ent} {st : List Placed × Nat} {wr W : World} (h : TkAt w houses tb mb M L st wr) (k : Keeps None' wr W) : TkAt w houses tb mb M L st W := by
  obtain ⟨a, b, v, r, c, d, e, f⟩ := h
  exact ⟨a.trans k, b.keep k (fun h => h), v, r, k.blk c (fun h => h), d.keep k, e, fun hp => own_keep (f hp) k (fun _ _ h => h)⟩
theorem TkOk.byH {cur : St} (hok : cur.ok) (hT : TkOk cur.houses 0 0 cur.entries) : ∃ B, ByH cur B := by
  obtain ⟨B, hB, _, hl⟩ := hT
  refine ⟨B, hB, hl, fun h hh b hb => ?_⟩
  obtain ⟨i, hi⟩ := List.getElem?_of_mem hb
  have hm : (⟨h, i, b⟩ : Ent) ∈ cur.entries.map (·.e) := by rw [hB]; exact joinH_mem.2 ⟨h, i, b, hh, hi, rfl⟩
  obtain ⟨p, hp, hpe⟩ := List.mem_map.1 hm
  have := (hok.each p hp).1
  rw [hpe] at this
  simp [Ent.valid] at this
  omega
theorem take_fit {cur : St} (hok : cur.ok) (hT : TkOk cur.houses 0 0 cur.entries) (L : List Ent) (hn : (takeAll L cur.entries cur.houses).2 ≠ 0) : Fit (takeAll L cur.entries cur.houses).1 := by
  obtain ⟨B, hb⟩ := hT.byH hok
  have M := (took_of hb hok.houses L (fun h => hn ((take_spec L cur.entries B cur.houses hb.ents hb.len).2.2.2.2 h))).mix
  refine ⟨M.ne, by have := M.few; omega, fun p hp => ⟨M.valid p hp, ?_⟩⟩
  by_cases he : p.pages = []
  · rw [he]; simp
  · obtain ⟨_, _, h3, h4⟩ := hok.each p (M.old.subset (List.mem_filter.2 ⟨hp, by simp [he]⟩))
    exact ⟨h3, h4⟩
theorem takeHouse_put {L : List Ent} {h f no : Nat} {st : List Placed × Nat} {e : Ent} (hl : leastP L h no = some e) (hc : hitL (st.1.map (·.e)) (posOf (st.1.map (·.e)) h no) h no = false ∨ blt e.body (((st.1[posOf (st.1.map (·.e)) h no]?).map (·.e.body)).getD []) = true) :
    takeHouse L h (f + 1) no st = takeHouse L h f (no + 1) (withRow st.1 (posOf (st.1.map (·.e)) h no) (hitL (st.1.map (·.e)) (posOf (st.1.map (·.e)) h no) h no) ⟨e, []⟩, st.2 + 1) := by
  conv => lhs; unfold takeHouse
  rw [hl]
  dsimp only
  rw [if_pos hc]
theorem takeHouse_skip {L : List Ent} {h f no : Nat} {st : List Placed × Nat} (hh : hitL (st.1.map (·.e)) (posOf (st.1.map (·.e)) h no) h no = true) (hl : ∀ e, leastP L h no = some e → blt e.body (((st.1[posOf (st.1.map (·.e)) h no]?).map (·.e.body)).getD []) = false) :
    takeHouse L h (f + 1) no st = takeHouse L h f (no + 1) st := by
  conv => lhs; unfold takeHouse
  cases hq : leastP L h no with
  | none => dsimp only; rw [if_pos hh]
  | some e =>
    dsimp only
    rw [if_neg (fun hc => by
      rcases hc with hc | hc
      · rw [hh] at hc; cases hc
      · rw [hl e hq] at hc; cases hc)]
theorem takeHouse_stop {L : List Ent} {h f no : Nat} {st : List Placed × Nat} (hh : hitL (st.1.map (·.e)) (posOf (st.1.map (·.e)) h no) h no = false) (hl : leastP L h no = none) : takeHouse L h (f + 1) no st = st := by
  conv => lhs; unfold takeHouse
  rw [hl]
  dsimp only
  rw [if_neg (by rw [hh]; simp)]
end Go.Proofs.YtlbaagjbehdmgaaGreat
