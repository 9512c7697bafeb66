/- What some operations on rows come to: copying a string, building a struct that holds a page, cells laid into a row. Building the struct of a write. -/
import Derived.Laws.CopyOwn
import Derived.Test.YtlbaagjbehdmgaaGreatM06
namespace Go.Proofs.YtlbaagjbehdmgaaGreat
open Go.RowKit

theorem run_copy_str {P : Program} (w : World) (dT sT ty elem : TypeId) (b o dLen dCap : Nat) (l : List UInt8)
    (hu : P.underlying dT = some (.slice elem)) (hs : (P.info? elem).map (·.size) = some 1) (hl : l.length = dLen) (ht : w.there b o l.length) :
    (Builtin.copy_ #[dT, sT] ty #[.slice (some ⟨b, o, none⟩) dLen dCap, .string (str l)]).run P w = .ok (goInt l.length) (w.setCells b o (l.map bv)) := by
  have hst := run_storeCells_cells (P := P) b o (l.map bv) 0 w (fun j hj => by simpa using (ht j (by simpa using hj)).1) (fun j hj => by simpa using (ht j (by simpa using hj)).2) (by simp [bv, Value.oneCell'])
  cases hq : P.info? elem with
  | none => simp [hq] at hs
  | some i =>
    have hm : Nat.min l.length dLen = dLen := by simp [hl]
    have he : List.take dLen (List.map (fun b : UInt8 => Value.int IntKind.u8 (b.toNat : Int)) l) = l.map bv := by
      rw [List.take_of_length_le (by simp [hl])]; rfl
    simp only [Nat.add_zero] at hst
    simp [Builtin.copy_, run_underlying hu, Builtin.lenOf, Builtin.firstCells, sizeOf, typeInfo, hq, hm]
    rw [he, hst]
    simp [hl]

/-- cells laid one behind the other into a row -/
def layA (cs : Array Value) (o : Nat) : List Value → Array Value
  | [] => cs
  | v :: r => layA (cs.setIfInBounds o v) (o + 1) r
theorem layA_size : ∀ (l : List Value) (o : Nat) (cs : Array Value) , (layA cs o l).size = cs.size
  | [], _, _ => rfl
  | v :: r, o, cs => by simp only [layA]; rw [layA_size r]; simp
theorem layA_get (j : Nat) : ∀ (l : List Value) (o : Nat) (cs : Array Value), o + l.length ≤ cs.size →
    (layA cs o l)[j]? = if o ≤ j ∧ j < o + l.length then l[j - o]? else cs[j]?
  | [], o, cs, _ => by rw [if_neg (by simp only [List.length_nil]; omega)]; rfl
  | v :: r, o, cs, h => by
    simp only [layA]
    have hl : (v :: r).length = r.length + 1 := rfl
    rw [layA_get j r (o + 1) _ (by simp; omega)]
    by_cases h1 : o + 1 ≤ j ∧ j < o + 1 + r.length
    · rw [if_pos h1, if_pos (by omega), show j - o = (j - (o + 1)) + 1 from by omega]; rfl
    · rw [if_neg h1, Array.getElem?_setIfInBounds]
      by_cases e : o = j
      · subst e
        rw [if_pos rfl, if_pos (by omega), if_pos (by omega)]; simp
      · rw [if_neg e, if_neg (by omega)]
theorem heap_setCells_same (b : Nat) (t : TypeId) : ∀ (vs : List Value) (o : Nat) (w : World) (cs : Array Value), w.heap[b]? = some (.cells cs t (0, 0)) → (w.setCells b o vs).heap[b]? = some (.cells (layA cs o vs) t (0, 0))
  | [], _, _, _, h => h
  | v :: vs, o, w, cs, h => by
    simp only [World.setCells, layA]
    exact heap_setCells_same b t vs (o + 1) _ _ (heap_setCell_same w b o cs t v h)
/-- what an owned row is when cells have been laid into it -/
theorem own_lay {w : World} {base : Nat} {e : TypeId} {size g n cap : Nat} {xs : List Value} (h : w.ownsRow base e size (.slice (some ⟨g, 0, none⟩) n cap) n xs) (o : Nat) (vs : List Value) (ho : o + vs.length ≤ n * size) :
    (w.setCells g o vs).ownsRow base e size (.slice (some ⟨g, 0, none⟩) n cap) n (lay xs o vs) := by
  obtain ⟨h1, h2⟩ := h
  rcases h2 with ⟨h2, _⟩ | ⟨g', cap', cur, hv, hb, hh, hn, hm, hs, hx⟩
  · cases h2
  · injection hv with ha _ hc
    injection ha with ha
    injection ha with ha
    subst ha; subst hc
    have hle : n * size ≤ cap * size := Nat.mul_le_mul_right _ hn
    refine ⟨by rw [lay_length _ _ _ (by omega)]; exact h1, .inr ⟨g, cap, layA cur o vs, rfl, hb, heap_setCells_same g e vs o w cur hh, hn, hm, by rw [layA_size]; exact hs, ?_⟩⟩
    apply List.ext_getElem?
    intro j
    rw [List.getElem?_take, lay_get _ _ _ _ (by omega)]
    by_cases hj : j < n * size
    · rw [if_pos hj, Array.getElem?_toList, layA_get _ _ _ _ (by omega)]
      by_cases h3 : o ≤ j ∧ j < o + vs.length
      · rw [if_pos h3, if_pos h3]
      · rw [if_neg h3, if_neg h3, ← hx, List.getElem?_take, if_pos hj, Array.getElem?_toList]
    · rw [if_neg hj, if_neg (by omega), ← hx, List.getElem?_take, if_neg hj]
theorem own_there {w : World} {base : Nat} {e : TypeId} {size g n cap : Nat} {xs : List Value} (h : w.ownsRow base e size (.slice (some ⟨g, 0, none⟩) n cap) n xs) (o m : Nat) (ho : o + m ≤ n * size) : w.there g o m := by
  obtain ⟨h1, h2⟩ := h
  rcases h2 with ⟨h2, _⟩ | ⟨g', cap', cur, hv, hb, hh, hn, hm, hs, hx⟩
  · cases h2
  · injection hv with ha _ hc
    injection ha with ha
    injection ha with ha
    subst ha; subst hc
    have hle : n * size ≤ cap * size := Nat.mul_le_mul_right _ hn
    exact there_of_blk hh o m (by omega)
theorem Keeps.there {S : Nat → Prop} {a b : World} (h : Keeps S a b) {g o n : Nat} (hr : a.there g o n) (hs : ¬ S g) : b.there g o n := fun j hj => by
  obtain ⟨v, hv⟩ := Option.isSome_iff_exists.1 (hr j hj).1
  have hlt := block_lt_of_cell hv
  exact ⟨by rw [h.cell (p := ⟨g, o + j, none⟩) hlt hs]; exact (hr j hj).1, by rw [h.frozen (p := ⟨g, o + j, none⟩) hlt hs]; exact (hr j hj).2⟩
theorem lay_map {α β : Type} (f : α → β) (xs : List α) (o : Nat) (l : List α) : lay (xs.map f) o (l.map f) = (lay xs o l).map f := by simp [lay]
end Go.Proofs.YtlbaagjbehdmgaaGreat

namespace Go.Proofs.YtlbaagjbehdmgaaGreat
open Go.RowKit

theorem foldl_lay : ∀ (l : List Value) (o k : Nat) (cs : Array Value), (l.zipIdx k).foldl (fun cs x => cs.setIfInBounds (o + x.2) x.1) cs = layA cs (o + k) l
  | [], _, _, _ => rfl
  | v :: r, o, k, cs => by
    simp only [List.zipIdx_cons, List.foldl_cons, layA]
    exact foldl_lay r o (k + 1) _

theorem zero_write (w : World) : (zeroValue 110).run Tryz.prog w = .ok (.agg (#[.int .i64 0] ++ bvs (zeros 64))) w := by kernel_rfl
theorem info_int : (Tryz.prog.info? 3).map (·.size) = some 1 := by kernel_rfl
theorem run_sizeOf {P : Program} {t n : Nat} (h : (P.info? t).map (·.size) = some n) (w : World) : (sizeOf t).run P w = .ok n w := by
  cases hq : P.info? t with
  | none => simp [hq] at h
  | some i => simp [hq] at h; simp [sizeOf, typeInfo, hq, h]

theorem foldl_cells (vs cs : Array Value) (o : Nat) : vs.zipIdx.foldl (fun cs (x : Value × Nat) => cs.setIfInBounds (o + x.2) x.1) cs = layA cs o vs.toList := by
  rw [← Array.foldl_toList, Array.toList_zipIdx, foldl_lay]; rfl
/-- one part laid -/
theorem fill_cons (place : Nat → Option (Nat × Nat)) (cells : Array Value) (i : Nat) (v : Value) (rest : List (Nat × Value)) (o n : Nat) (hp : place i = some (o, n)) (hv : v.cells.size = n) (hn : o + n ≤ cells.size) :
    Instr.fill place cells ((i, v) :: rest) = Instr.fill place (layA cells o v.cells.toList) rest := by
  rw [Instr.fill, hp]
  dsimp only
  split
  · rename_i h
    simp at h
    omega
  · rw [← foldl_cells]
theorem lay_at_head (v : Value) (xs : Array Value) (u : Value) : layA (#[u] ++ xs) 0 [v] = #[v] ++ xs := by
  simp [layA]
theorem lay_behind (v : Value) (xs cs : Array Value) (h : xs.size = cs.size) : layA (#[v] ++ xs) 1 cs.toList = #[v] ++ cs := by
  apply Array.ext_getElem?
  intro j
  rw [layA_get _ _ _ _ (by simp; omega)]
  cases j with
  | zero => rw [if_neg (by omega), Array.getElem?_append_left (by simp), Array.getElem?_append_left (by simp)]
  | succ j =>
    by_cases hj : j < cs.size
    · rw [if_pos (by simp; omega)]; simp [Array.getElem?_append]
    · rw [if_neg (by simp; omega), Array.getElem?_eq_none (by simp; omega), Array.getElem?_eq_none (by simp; omega)]

set_option maxRecDepth 100000 in
theorem run_build_write (w : World) (i : Int) (cs : Array Value) (hl : cs.size = 64) :
    (Instr.build 110 #[(0, .int .i64 i), (1, .agg cs)]).run Tryz.prog w = .ok (.agg (#[.int .i64 i] ++ cs)) w := by
  have h0 := run_sizeOf (w := w) info_int
  have h1 := run_sizeOf (w := w) info_page
  have hz := zero_write w
  have hm : ∀ (f : Field → Sem (Nat × Nat)) (a b : Field) (x y : Nat × Nat), (f a).run Tryz.prog w = .ok x w → (f b).run Tryz.prog w = .ok y w → (Array.mapM f #[a, b]).run Tryz.prog w = .ok #[x, y] w := fun f a b x y ha hb => by
    simp [Array.mapM_eq_mapM_toList, Sem.run_bind, ha, hb]
  simp only [Instr.build, Sem.run_bind, hz, Result.andThen_ok, run_underlying Tryz.underlying110]
  rw [hm _ _ _ (0, 1) (1, 64) (by simp only [Sem.run_bind, h0, Result.andThen_ok, Sem.run_pure]) (by simp only [Sem.run_bind, h1, Result.andThen_ok, Sem.run_pure])]
  simp only [Result.andThen_ok]
  have hf : Instr.fill (fun x => #[(0, 1), (1, 64)][x]?) (Value.agg (#[Value.int IntKind.i64 0] ++ bvs (zeros 64))).cells [(0, Value.int IntKind.i64 i), (1, Value.agg cs)] = some (#[Value.int IntKind.i64 i] ++ cs) := by
    refine (fill_cons _ _ _ _ _ 0 1 rfl rfl (by simp [Value.cells])).trans ((fill_cons _ _ _ (.agg cs) _ 1 64 rfl hl (by rw [layA_size]; simp [Value.cells, zeros])).trans ?_)
    show some (layA (layA (#[Value.int IntKind.i64 0] ++ bvs (zeros 64)) 0 [Value.int IntKind.i64 i]) 1 cs.toList) = _
    rw [lay_at_head, lay_behind _ _ _ (by simp [zeros, hl])]
  rw [hf]
  rfl

theorem info_write : (Tryz.prog.info? 110).map (·.size) = some 65 := by kernel_rfl
/-- a slice of one element of many cells -/
theorem run_buildSlice_one {P : Program} (w : World) (t e n : Nat) (z cs : Array Value) (hu : P.underlying t = some (.slice e)) (hi : (P.info? e).map (·.size) = some n) (hz : (zeroValue e).run P w = .ok (.agg z) w) (hzn : z.size = n) (hl : cs.size = n) (hn : n ≤ 1000) (hp : 0 < n) :
    (Instr.buildSlice t 1 #[(0, .agg cs)]).run P w = .ok (.slice (some ⟨w.heap.size, 0, none⟩) 1 1) (w.alloc (.cells cs e)) := by
  have hs := run_sizeOf hi w
  have hf : Instr.fill (fun i => some (i * n, n)) ((Array.range (1 * n)).map (z[· % z.size]!)) [(0, .agg cs)] = some cs := by
    refine (fill_cons _ _ _ (.agg cs) _ 0 n (by simp) hl (by simp)).trans ?_
    show some (layA _ 0 cs.toList) = some cs
    congr 1
    apply Array.ext_getElem?
    intro j
    rw [layA_get _ _ _ _ (by simp; omega)]
    by_cases hj : j < cs.size
    · rw [if_pos (by simp; omega)]; simp
    · rw [if_neg (by simp; omega), Array.getElem?_eq_none (by simp; omega), Array.getElem?_eq_none (by omega)]
  simp only [Instr.buildSlice, Sem.run_bind, run_underlying hu, Result.andThen_ok, hs]
  rw [if_neg (by omega), if_neg (by omega)]
  simp only [Sem.run_bind, hz, Result.andThen_ok, Sem.run_pure, Value.cells]
  rw [hf]
  simp [newRow, go_sem]

/-- append to an owned row: the row behind it is the same one, or new -/
theorem run_append_own' {P : Program} (w : World) (base : Nat) (t ty e : TypeId) (i : TypeInfo) (z : Value) (size bytes : Nat) (ht : P.underlying t = some (.slice e)) (hi : P.info? e = some i) (hz : i.zero = some z)
    (hsize : i.size = size) (hby : i.bytes = bytes) (hzs : z.cells.size = size) (hsz : 0 < size)
    (v : Value) (n : Nat) (xs : List Value) (hown : w.ownsRow base e size v n xs)
    (a : Addr) (m c : Nat) (news : List Value) (hl : news.length = m * size) (hnews : ∀ j u, news[j]? = some u → w.cell? (a.add j) = some u) (h1 : ∀ u ∈ news, u.oneCell' = true)
    (h63 : n + m ≤ maxLen) (hbytes : (n + m) * bytes ≤ 140737488355328) (hbase : base ≤ w.heap.size) :
    ∃ v' w', (Builtin.append_ #[t, t] ty #[v, .slice (some a) m c]).run P w = .ok v' w' ∧ w'.ownsRow base e size v' (n + m) (xs ++ news) ∧ w.grownBy w' v.ownBlock ∧
      (v' = .slice none 0 0 ↔ v = .slice none 0 0 ∧ m = 0) ∧ (∀ k, v'.ownBlock = some k → v.ownBlock = some k ∨ w.heap.size ≤ k) := by
  obtain ⟨v', w', hr, h2, h3, h4⟩ := run_append_own (P := P) w base t ty e i z size bytes ht hi hz hsize hby hzs hsz v n xs hown a m c news hl hnews h1 h63 hbytes hbase
  refine ⟨v', w', hr, h2, h3, h4, fun k hk => ?_⟩
  rcases hown.2 with ⟨rfl, rfl⟩ | ⟨g, cap, cur, rfl, hbg, hg, hnc, hcm, hcs, htake⟩
  · have hx : xs = [] := List.eq_nil_of_length_eq_zero (by simpa using hown.1)
    subst hx
    obtain ⟨v2, w2, hr2, h22, _⟩ := run_append_own (P := P) w w.heap.size t ty e i z size bytes ht hi hz hsize hby hzs hsz _ 0 [] (World.ownsRow_nil w w.heap.size e size) a m c news hl hnews h1 h63 hbytes (Nat.le_refl _)
    rw [hr] at hr2
    injection hr2 with hv hw
    subst hv
    exact .inr (h22.lt k hk).1
  · by_cases hroom : n + m ≤ cap
    · have hfit : n * i.size + news.length ≤ cur.size := by rw [hl, hcs, hsize, ← Nat.add_mul]; exact Nat.mul_le_mul_right _ hroom
      have hr2 := run_append_room (P := P) w t ty e i ht hi g n cap cur hg a m c news (by rw [hl, hsize]) hnews h1 hroom hfit
      rw [hr] at hr2
      injection hr2 with hv hw
      rw [hv] at hk
      exact .inl hk
    · have holds : ∀ j u, xs[j]? = some u → w.cell? ((⟨g, 0, none⟩ : Addr).add j) = some u := hown.cells (g := g) rfl
      have hr2 := run_append_grow (P := P) w t ty e i z ht hi hz ⟨g, 0, none⟩ n cap xs (by rw [hown.1, hsize]) holds a m c news (by rw [hl, hsize]) hnews (by omega) (by simp only [maxLen] at h63; omega) (growslice_fits (by omega) (by rw [hby]; exact hbytes))
      rw [hr] at hr2
      injection hr2 with hv hw
      rw [hv] at hk
      cases hk
      exact .inr (Nat.le_refl _)
/-- .. as one step of a region that draws its order -/
theorem step_append_own {P : Program} {ops : Array Oper} {o : Oper} {a : Act} {w : World} {K : Act → World → Prop} {Q : Exit → Act → World → Prop} {E : Prop} (hgd : o.guard = none) (s x : Operand) (t : TypeId)
    (ho : o.op = .call { callee := .builtin .append, args := #[s, x], argTypes := #[t, t] })
    (base : Nat) (e : TypeId) (i : TypeInfo) (z : Value) (size bytes : Nat) (ht : P.underlying t = some (.slice e)) (hi : P.info? e = some i) (hz : i.zero = some z)
    (hsize : i.size = size) (hby : i.bytes = bytes) (hzs : z.cells.size = size) (hsz : 0 < size)
    (v : Value) (n : Nat) (xs : List Value) (hs : a.eval s = v) (hown : w.ownsRow base e size v n xs)
    (ad : Addr) (m c : Nat) (news : List Value) (hx : a.eval x = .slice (some ad) m c) (hl : news.length = m * size) (hnews : ∀ j u, news[j]? = some u → w.cell? (ad.add j) = some u) (h1 : ∀ u ∈ news, u.oneCell' = true)
    (h63 : n + m ≤ maxLen) (hbytes : (n + m) * bytes ≤ 140737488355328) (hbase : base ≤ w.heap.size)
    (h : ∀ v' w', w'.ownsRow base e size v' (n + m) (xs ++ news) → w.grownBy w' v.ownBlock → (∀ k, v'.ownBlock = some k → v.ownBlock = some k ∨ w.heap.size ≤ k) → K (a.put o.dst v') w') :
    if Region.wanted o (yielded ops a.tmps) = true then Oper.wp P o a w K Q else E := by
  have hw : Region.wanted o (yielded ops a.tmps) = true := by simp [Region.wanted, hgd]
  rw [if_pos hw]
  obtain ⟨v', w', hr, h2, h3, h4, h5⟩ := run_append_own' (P := P) w base t o.type e i z size bytes ht hi hz hsize hby hzs hsz v n xs hown ad m c news hl hnews h1 h63 hbytes hbase
  unfold Oper.wp execOp
  simp only [ho, resolve, invoke, builtin, Sem.run_bind, Sem.run_pure, Result.andThen_ok, List.map_toArray, List.map_cons, List.map_nil, hs, hx, hr]
  exact h v' w' h2 h3 h5
/-- .. at a plain region's list -/
theorem list_append_own {P : Program} {w : World} {ops : Array Oper} {rest : List Oper} {o : Oper} {a : Act} {Q : Exit → Act → World → Prop} (hgd : o.guard = none) (s x : Operand) (t : TypeId)
    (ho : o.op = .call { callee := .builtin .append, args := #[s, x], argTypes := #[t, t] })
    (base : Nat) (e : TypeId) (i : TypeInfo) (z : Value) (size bytes : Nat) (ht : P.underlying t = some (.slice e)) (hi : P.info? e = some i) (hz : i.zero = some z)
    (hsize : i.size = size) (hby : i.bytes = bytes) (hzs : z.cells.size = size) (hsz : 0 < size)
    (v : Value) (n : Nat) (xs : List Value) (hs : a.eval s = v) (hown : w.ownsRow base e size v n xs)
    (ad : Addr) (m c : Nat) (news : List Value) (hx : a.eval x = .slice (some ad) m c) (hl : news.length = m * size) (hnews : ∀ j u, news[j]? = some u → w.cell? (ad.add j) = some u) (h1 : ∀ u ∈ news, u.oneCell' = true)
    (h63 : n + m ≤ maxLen) (hbytes : (n + m) * bytes ≤ 140737488355328) (hbase : base ≤ w.heap.size)
    (h : ∀ v' w', w'.ownsRow base e size v' (n + m) (xs ++ news) → w.grownBy w' v.ownBlock → (∀ k, v'.ownBlock = some k → v.ownBlock = some k ∨ w.heap.size ≤ k) → wpList P ops Q rest (a.put o.dst v') w') : wpList P ops Q (o :: rest) a w :=
  wpList_plain hgd fun _ hK => by
    obtain ⟨v', w', hr, h2, h3, h4, h5⟩ := run_append_own' (P := P) w base t o.type e i z size bytes ht hi hz hsize hby hzs hsz v n xs hown ad m c news hl hnews h1 h63 hbytes hbase
    unfold Oper.wp execOp
    simp only [ho, resolve, invoke, builtin, Sem.run_bind, Sem.run_pure, Result.andThen_ok, List.map_toArray, List.map_cons, List.map_nil, hs, hx, hr]
    exact hK _ _ (h v' w' h2 h3 h5)
theorem grownBy_keeps {w w' : World} {row : Option Nat} (h : w.grownBy w' row) : Keeps (fun k => some k = row) w w' := ⟨h.os, h.tape, h.output, h.size, fun k hk hr => h.block k hk hr⟩
end Go.Proofs.YtlbaagjbehdmgaaGreat
