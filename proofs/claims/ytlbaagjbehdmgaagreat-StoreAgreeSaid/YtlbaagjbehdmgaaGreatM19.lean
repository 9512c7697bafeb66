/- Inserting an entry into a row of entries. -/
import Derived.Test.YtlbaagjbehdmgaaGreatM18
namespace Go.Proofs.YtlbaagjbehdmgaaGreat
open Go.RowKit

def InsRet (w : World) (base : Nat) (v : Value) (l : List (Ent × Value)) (e : Ending) (w' : World) : Prop :=
  ∃ v', e = .returned v' ∧ w'.ownsRow base 121 4 v' l.length (plCells l) ∧ Keeps (fun k => some k = v.ownBlock) w w'
theorem ins_take (A : Array Value) (xs nw : List Value) (k : Nat) (hk : k ≤ xs.length) (h1 : ∀ j, j < k → A[j]? = xs[j]?) (h2 : ∀ j, j < nw.length → A[k + j]? = nw[j]?) (h3 : ∀ j, j < xs.length - k → A[k + nw.length + j]? = xs[k + j]?) :
    A.toList.take (xs.length + nw.length) = xs.take k ++ nw ++ xs.drop k := by
  apply List.ext_getElem?
  intro j
  rw [List.getElem?_take, Array.getElem?_toList]
  by_cases c1 : j < k
  · rw [if_pos (by omega), List.append_assoc, List.getElem?_append_left (by simp; omega), List.getElem?_take_of_lt c1, h1 j c1]
  · by_cases c2 : j < k + nw.length
    · rw [if_pos (by omega), List.getElem?_append_left (by simp; omega), List.getElem?_append_right (by simp; omega), List.length_take, Nat.min_eq_left hk]
      have := h2 (j - k) (by omega)
      rwa [show k + (j - k) = j by omega] at this
    · have hl : (xs.take k ++ nw).length = k + nw.length := by simp; omega
      rw [List.getElem?_append_right (by omega), hl, List.getElem?_drop]
      by_cases c3 : j < xs.length + nw.length
      · rw [if_pos c3]
        have := h3 (j - (k + nw.length)) (by omega)
        rwa [show k + nw.length + (j - (k + nw.length)) = j by omega] at this
      · rw [if_neg c3, List.getElem?_eq_none (by omega)]
theorem ins_cells (l : List (Ent × Value)) (x : Ent × Value) (i : Nat) (h : i ≤ l.length) : plCells (l.take i ++ x :: l.drop i) = (plCells l).take (i * 4) ++ plCells [x] ++ (plCells l).drop (i * 4) := by
  rw [show x :: l.drop i = [x] ++ l.drop i from rfl, plCells_append, plCells_append, plCells_take l i h, plCells_drop l i h, List.append_assoc]
theorem isSome_setCells (b : Nat) (vs : List Value) (o : Nat) (w : World) (h : ∀ j, j < vs.length → (w.cell? ⟨b, o + j, none⟩).isSome = true) (k : Nat) (hk : (w.cell? ⟨b, k, none⟩).isSome = true) : ((w.setCells b o vs).cell? ⟨b, k, none⟩).isSome = true := by
  by_cases hin : o ≤ k ∧ k < o + vs.length
  · have := World.cell?_setCells_in b vs o w h (k - o) (by omega)
    rw [show o + (k - o) = k by omega] at this
    rw [this]; rfl
  · rw [World.cell?_setCells_out b vs o w ⟨b, k, none⟩ (fun _ _ => by show k < o ∨ o + vs.length ≤ k; omega)]
    exact hk
theorem info_placed : (Tryz.prog.info? 121).map (·.size) = some 4 := by kernel_rfl

set_option maxRecDepth 100000 in
set_option maxHeartbeats 2000000 in
/-- at the end -/
theorem insert_end (w : World) (base vb : Nat) (v : Value) (l : List (Ent × Value)) (x : Ent × Value) (hown : w.ownsRow base 121 4 v l.length (plCells l)) (hx : x.2.oneCell' = true) (hl : l.length ≤ 10000)
    (hvb : w.heap[vb]? = some (.cells (plCells [x]).toArray 121 (0, 0))) (hbase : base ≤ w.heap.size) :
    Calls Tryz.prog 115 #[v, .int .i64 l.length, .slice (some ⟨vb, 0, none⟩) 1 1] w fun e w' => InsRet w base v (l ++ [x]) e w' := by
  obtain ⟨a, cap, rfl⟩ := (RowP.of_own hown).shape
  obtain ⟨i0, hi, hz0, hz1, hz2⟩ := info_parts info_placed3
  have hcap : l.length ≤ cap := by
    rcases hown.2 with ⟨h, hn⟩ | ⟨g, c, cur, h, _, _, hc, _⟩
    · omega
    · injection h with _ _ h; omega
  have HO := Lib.hid hown
  have HVB := Lib.hid hvb
  have hone : ∀ u ∈ plCells [x], u.oneCell' = true := plCells_one [x] (fun y hy => by simp at hy; rw [hy]; exact hx)
  have HONE := Lib.hid hone
  have HAPP := Lib.hid (show plCells (l ++ [x]) = plCells l ++ plCells [x] from plCells_append _ _)
  have HLEN := Lib.hid (show (plCells [x]).length = 4 from plCells_length [x])
  clear hown hvb hone
  generalize plCells [x] = cx at *
  rcases Classical.em (cap = l.length) with rfl | hcc
  all_goals
    go_enter Tryz.func115, Tryz.ntmps115
    go_wp2_with (at_builtin; refine list_append_own rfl _ _ _ rfl base 121 i0 (.agg #[.int .i64 0, .int .i64 0, .string ⟨#[]⟩, .slice none 0 0]) 4 56 Tryz.underlying117 hi hz0 hz1 hz2 rfl (by decide) _ _ _ rfl HO.out ⟨vb, 0, none⟩ 1 1 cx rfl (by rw [HLEN.out]) (by intro j u hj; rw [Addr.add_lit, Nat.zero_add]; exact cell_of_blk HVB.out j (by simpa using hj)) HONE.out (by unfold maxLen; omega) (by omega) hbase ?_; intro v' w1 hown hgrow hfr)
    go_ret
    exact ⟨v', rfl, by rw [HAPP.out, List.length_append]; exact hown, grownBy_keeps hgrow⟩

set_option maxRecDepth 100000 in
set_option maxHeartbeats 4000000 in
/-- not at the end, with room -/
theorem insert_shift (w : World) (base vb i g cap : Nat) (l : List (Ent × Value)) (x : Ent × Value) (hown : w.ownsRow base 121 4 (.slice (some ⟨g, 0, none⟩) l.length cap) l.length (plCells l)) (ho : OneEach l) (hx : x.2.oneCell' = true) (hl : l.length ≤ 10000)
    (hvb : w.heap[vb]? = some (.cells (plCells [x]).toArray 121 (0, 0))) (hne : vb ≠ g) (hi : i < l.length) (hroom : l.length + 1 ≤ cap) :
    Calls Tryz.prog 115 #[.slice (some ⟨g, 0, none⟩) l.length cap, .int .i64 i, .slice (some ⟨vb, 0, none⟩) 1 1] w fun e w' => InsRet w base (.slice (some ⟨g, 0, none⟩) l.length cap) (l.take i ++ x :: l.drop i) e w' := by
  obtain ⟨cur, hgb, hcur, hmax, hsize, htake⟩ : ∃ cur, w.heap[g]? = some (.cells cur 121 (0, 0)) ∧ base ≤ g ∧ cap ≤ maxLen ∧ cur.size = cap * 4 ∧ cur.toList.take (l.length * 4) = plCells l := by
    rcases hown.2 with ⟨h, hn⟩ | ⟨g', c, cur, h, hb, hh, hc, hm, hs, ht⟩
    · cases h
    · injection h with h1 _ h3
      cases h1; subst h3
      exact ⟨cur, hh, hb, hm, hs, ht⟩
  have hin : i ≤ l.length := by omega
  have hcl := plCells_length l
  have hxl : (plCells [x]).length = 4 := plCells_length [x]
  have hcells := ins_cells l x i hin
  have hov : ∀ o lb cb, (callFunc 151 #[.slice (some ⟨vb, 0, none⟩) 1 1, .slice (some ⟨g, o, none⟩) lb cb]).run Tryz.prog w = .ok (.value (.bool false)) w := fun o lb cb => by
    rw [run_callFunc_extern Tryz.func151 (by kernel_rfl) (by kernel_rfl) (by kernel_rfl) (e := Extern.SlicesOverlaps.overlaps #[117, 117] #[4]) (by kernel_rfl),
      Lib.run_overlaps_apart w 117 4 121 Tryz.underlying117 4 (run_sizeOf info_placed) ⟨vb, 0, none⟩ ⟨g, o, none⟩ 1 1 lb cb hne 121 121 4 cur.size (by simp [World.shape?, hvb, hxl]) (by simp [World.shape?, hgb]) (by omega) (free_of_blk hvb 0) (free_of_blk hvb 4)]
    rfl
  have hcellG : ∀ j, j < cap * 4 → (w.cell? ⟨g, j, none⟩).isSome = true := fun j hj => by rw [cell_of_blk hgb j (Array.getElem?_eq_getElem (by omega))]; rfl
  have hfrG : ∀ j, w.frozen? ⟨g, j, none⟩ = false := fun j => free_of_blk hgb j
  have hrdG : ∀ j v, (plCells l)[j]? = some v → w.cell? ⟨g, j, none⟩ = some v := fun j v hj => cell_of_blk hgb j (by
    rw [← htake, List.getElem?_take] at hj
    split at hj
    · simpa using hj
    · cases hj)
  have honeL := plCells_one l ho
  have honeX : ∀ u ∈ plCells [x], u.oneCell' = true := plCells_one [x] (fun y hy => by simp at hy; rw [hy]; exact hx)
  have hdl : ((plCells l).drop (i * 4)).length = (l.length - i) * 4 := by rw [List.length_drop, hcl]; omega
  have hcp1 : ∀ ty dc sc, (Builtin.copy_ #[117, 117] ty #[.slice (some ⟨g, (i + 1) * 4, none⟩) (l.length + 1 - (i + 1)) dc, .slice (some ⟨g, i * 4, none⟩) (l.length + 1 - i) sc]).run Tryz.prog w.drew = .ok (goInt (l.length - i : Nat)) (w.drew.setCells g ((i + 1) * 4) ((plCells l).drop (i * 4))) := fun ty dc sc => by
    have hmin : Nat.min (l.length + 1 - i) (l.length + 1 - (i + 1)) = l.length - i := by simp only [Nat.min_def]; split <;> omega
    have := run_copy_cellsN (P := Tryz.prog) w.drew 117 117 ty 121 g ((i + 1) * 4) (l.length + 1 - (i + 1)) dc ⟨g, i * 4, none⟩ (l.length + 1 - i) sc 4 ((plCells l).drop (i * 4)) Tryz.underlying117 info_placed (by rw [hmin, hdl])
      (fun j v hj => by rw [Addr.add_lit]; rw [List.getElem?_drop] at hj; exact hrdG _ _ hj) (fun j hj => hcellG _ (by omega)) (fun j hj => hfrG _) (fun v hv => honeL v (List.mem_of_mem_drop hv))
    rw [hmin] at this
    exact this
  obtain ⟨W1, hW1⟩ : ∃ W1, W1 = w.drew.setCells g ((i + 1) * 4) ((plCells l).drop (i * 4)) := ⟨_, rfl⟩
  have hsp1 : ∀ k, k < cap * 4 → (W1.cell? ⟨g, k, none⟩).isSome = true := fun k hk => by
    rw [hW1]
    exact isSome_setCells g ((plCells l).drop (i * 4)) ((i + 1) * 4) w.drew (fun j hj => hcellG _ (by rw [hdl] at hj; omega)) k (hcellG k hk)
  have hcp2 : ∀ (W : World), (∀ y, W.cell? y = W1.cell? y) → (∀ y, W.frozen? y = W1.frozen? y) → ∀ ty dc, (Builtin.copy_ #[117, 117] ty #[.slice (some ⟨g, i * 4, none⟩) (l.length + 1 - i) dc, .slice (some ⟨vb, 0, none⟩) 1 1]).run Tryz.prog W = .ok (goInt (1 : Nat)) (W.setCells g (i * 4) (plCells [x])) := fun W hWc hWf ty dc => by
    have hmin : Nat.min 1 (l.length + 1 - i) = 1 := by simp only [Nat.min_def]; split <;> omega
    have := run_copy_cellsN (P := Tryz.prog) W 117 117 ty 121 g (i * 4) (l.length + 1 - i) dc ⟨vb, 0, none⟩ 1 1 4 (plCells [x]) Tryz.underlying117 info_placed (by rw [hmin, hxl])
      (fun j v hj => by
        rw [Addr.add_lit, hWc, hW1, World.cell?_setCells_out g _ _ _ _ (fun h _ => absurd h hne), Nat.zero_add]
        exact cell_of_blk hvb j (by simpa using hj))
      (fun j hj => by rw [hWc]; exact hsp1 _ (by omega)) (fun j hj => by rw [hWf, hW1, World.frozen?_setCells]; exact hfrG _) honeX
    rw [hmin] at this
    exact this
  have hfin : InsRet w base (.slice (some ⟨g, 0, none⟩) l.length cap) (l.take i ++ x :: l.drop i) (.returned (.slice (some ⟨g, 0, none⟩) (l.length + 1) cap)) (W1.setCells g (i * 4) (plCells [x])) := by
    have hL : (l.take i ++ x :: l.drop i).length = l.length + 1 := by simp; omega
    have hb1 := heap_setCells_same g 121 ((plCells l).drop (i * 4)) ((i + 1) * 4) w.drew cur hgb
    rw [← hW1] at hb1
    have hb2 := heap_setCells_same g 121 (plCells [x]) (i * 4) W1 _ hb1
    have hk1 : Keeps (One g) w W1 := by
      rw [hW1]
      exact ((Keeps.refl (One g) w).drew).trans (keeps_setCells g _ _ _)
    have hcurg : ∀ j, j < l.length * 4 → cur[j]? = (plCells l)[j]? := fun j hj => by rw [← htake, List.getElem?_take, if_pos hj, Array.getElem?_toList]
    refine ⟨_, rfl, ?_, ((hk1.trans (keeps_setCells g _ _ _))).mono (fun k _ e => by rw [e]; rfl)⟩
    rw [hL, hcells]
    have hsz1 : (layA cur ((i + 1) * 4) ((plCells l).drop (i * 4))).size = cap * 4 := by rw [layA_size, hsize]
    refine ⟨?_, .inr ⟨g, cap, _, rfl, hcur, hb2, by omega, hmax, by rw [layA_size, hsz1], ?_⟩⟩
    · simp only [List.length_append, List.length_take, List.length_drop, hcl, hxl]
      omega
    · have := ins_take (layA (layA cur ((i + 1) * 4) ((plCells l).drop (i * 4))) (i * 4) (plCells [x])) (plCells l) (plCells [x]) (i * 4) (by omega)
        (fun j hj => by
          rw [layA_get _ _ _ _ (by rw [hsz1]; omega), if_neg (by omega), layA_get _ _ _ _ (by rw [hsize, hdl]; omega), if_neg (by omega)]
          exact hcurg j (by omega))
        (fun j hj => by
          rw [layA_get _ _ _ _ (by rw [hsz1]; omega), if_pos (by omega)]
          congr 1; omega)
        (fun j hj => by
          rw [layA_get _ _ _ _ (by rw [hsz1]; omega), if_neg (by omega), layA_get _ _ _ _ (by rw [hsize, hdl]; omega), if_pos (by rw [hdl]; omega), List.getElem?_drop]
          congr 1; omega)
      rw [hcl, hxl] at this
      rw [← this]
      congr 1; omega
  have HFIN := Lib.hid hfin
  rw [← hW1] at hcp1
  clear hfin hcellG hfrG hrdG honeL honeX hdl hcells hcl hxl hsp1 hown htake hsize hcur hvb hgb hW1
  have hz2 : ¬ ((i : Int) = (l.length : Int)) := by omega
  have hiI : (i : Int) < (l.length : Int) := by omega
  have hb2 : ¬ (cap = i + 1) := by omega
  have hb4 : ¬ (cap = i) := by omega
  have hcm : (cap : Int) ≤ 9223372036854775807 := by unfold maxLen at hmax; omega
  generalize plCells [x] = cx at *
  generalize plCells l = cl at *
  go_enter Tryz.func115, Tryz.ntmps115
  go_wp2_with (simp only [hov])
  have hw1 : IntKind.i64.wrap ((i : Int) + 1) = (i : Int) + 1 := IntWalk.i64_in _ (by omega)
  have hb1 : (0 : Int) ≤ (i : Int) + 1 := by omega
  have htn : ((i : Int) + 1).toNat = i + 1 := by omega
  have hb3 : (i : Int) ≤ (l.length : Int) + 1 := by omega
  have hb5 : (i : Int) + 1 ≤ (l.length : Int) + 1 := by omega
  have hb6 : (i : Int) ≤ (l.length : Int) := by omega
  refine wp_region_still_tail 8 (by kernel_rfl) (by kernel_rfl) ?_
  simp only [List.take_succ_cons, List.take_zero, List.drop_succ_cons, List.drop_zero]
  iterate 8 still_step
  refine wpStill_nil ?_
  change wpList _ _ _ _ _ w.drew
  clear hw1 hb1 htn
  refine list_copy_run _ rfl _ _ _ _ rfl (.slice (some ⟨g, (i + 1) * 4, none⟩) (l.length + 1 - (i + 1)) (cap - (i + 1))) (.slice (some ⟨g, i * 4, none⟩) (l.length + 1 - i) (cap - i)) (by simp [Act.eval]) (by simp [Act.eval]) (hcp1 _ _ _) ?_
  go_wp2_with (at_builtin; refine list_copy_run _ rfl _ _ _ _ rfl _ _ rfl rfl (hcp2 _ (fun _ => rfl) (fun _ => rfl) _ _) ?_)
  go_ret
  exact HFIN.out

set_option maxRecDepth 100000 in
set_option maxHeartbeats 4000000 in
/-- not at the end, without room -/
theorem insert_grow (w : World) (base vb i g cap : Nat) (l : List (Ent × Value)) (x : Ent × Value) (hown : w.ownsRow base 121 4 (.slice (some ⟨g, 0, none⟩) l.length cap) l.length (plCells l)) (ho : OneEach l) (hx : x.2.oneCell' = true) (hl : l.length ≤ 10000)
    (hvb : w.heap[vb]? = some (.cells (plCells [x]).toArray 121 (0, 0))) (hi : i < l.length) (hroom : ¬ l.length + 1 ≤ cap) (hbase : base ≤ w.heap.size) :
    Calls Tryz.prog 115 #[.slice (some ⟨g, 0, none⟩) l.length cap, .int .i64 i, .slice (some ⟨vb, 0, none⟩) 1 1] w fun e w' => InsRet w base (.slice (some ⟨g, 0, none⟩) l.length cap) (l.take i ++ x :: l.drop i) e w' := by
  obtain ⟨cur, hgb, hnc⟩ : ∃ cur, w.heap[g]? = some (.cells cur 121 (0, 0)) ∧ l.length ≤ cap := by
    rcases hown.2 with ⟨h, hn⟩ | ⟨g', c, cur, h, hb, hh, hc, hm, hs, ht⟩
    · cases h
    · injection h with h1 _ h3
      cases h1; subst h3
      exact ⟨cur, hh, hc⟩
  have hrdG : ∀ j v, (plCells l)[j]? = some v → w.cell? ⟨g, j, none⟩ = some v := fun j v hj => by
    have := own_range hown j v hj
    rwa [Nat.zero_add] at this
  have hin : i ≤ l.length := by omega
  have hcl := plCells_length l
  have hxl : (plCells [x]).length = 4 := plCells_length [x]
  have hcells := ins_cells l x i hin
  have honeL := plCells_one l ho
  have honeX : ∀ u ∈ plCells [x], u.oneCell' = true := plCells_one [x] (fun y hy => by simp at hy; rw [hy]; exact hx)
  have hdl : ((plCells l).drop (i * 4)).length = (l.length - i) * 4 := by rw [List.length_drop, hcl]; omega
  have htl : ((plCells l).take (i * 4)).length = i * 4 := by rw [List.length_take, hcl]; omega
  obtain ⟨i0, hi0, hz0, hzs, hzb⟩ := info_parts info_placed3
  have hgw : g < w.heap.size := lt_of_block hgb
  have hvw : vb < w.heap.size := lt_of_block hvb
  have hkk : (l.length : Int) + 1 - (i : Int) = ((l.length + 1 - i : Nat) : Int) := by omega
  have hik : i + (l.length + 1 - i) = l.length + 1 := by omega
  have hold : (Builtin.firstCells i0.size i (.slice (some ⟨g, 0, none⟩) i cap)).run Tryz.prog w.drew = .ok ((plCells l).take (i * 4)).toArray w.drew := by
    rw [hzs]
    have := run_loadCells_list (P := Tryz.prog) w.drew ⟨g, 0, none⟩ ((plCells l).take (i * 4)) (fun j v hj => by
      rw [Addr.add_lit, Nat.zero_add]
      rw [List.getElem?_take] at hj
      split at hj
      · exact hrdG j v hj
      · cases hj)
    rw [htl] at this
    exact this
  obtain ⟨G, hG⟩ : ∃ G, G = grownCap w (l.length + 1) cap 121 := ⟨_, rfl⟩
  obtain ⟨ROW, hROW⟩ : ∃ ROW : Array Value, ROW = ((plCells l).take (i * 4)).toArray ++ Builtin.zeroCells (Value.agg #[.int .i64 0, .int .i64 0, .string ⟨#[]⟩, .slice none 0 0]).cells (l.length + 1 - i) ++ Builtin.zeroCells (Value.agg #[.int .i64 0, .int .i64 0, .string ⟨#[]⟩, .slice none 0 0]).cells (G - (l.length + 1)) := ⟨_, rfl⟩
  have hrz : ∀ ty, (Builtin.append_ #[117, 3] ty #[.slice (some ⟨g, 0, none⟩) i cap, .int .i64 ((l.length : Int) + 1 - (i : Int))]).run Tryz.prog w =
      .ok (.slice (some ⟨w.heap.size, 0, none⟩) (l.length + 1) G) (w.drew.alloc (.cells ROW 121)) := fun ty => by
    have h := Lib.run_append_grow_zeros (P := Tryz.prog) w 117 3 ty 121 i0 _ .i64 .i64 Tryz.underlying117 Tryz.underlying3 hi0 hz0 (some ⟨g, 0, none⟩) i cap ((plCells l).take (i * 4)) hold (l.length + 1 - i) (by omega) (by omega) (by omega) (by omega) (by rw [hzb]; omega) (by rw [hzb, hik]; exact growslice_fits (by omega) (by omega))
    rw [hik, ← hG, ← hROW] at h
    rw [hkk]
    exact h
  have hGn : l.length + 1 ≤ G := by rw [hG]; exact grownCap_ge w _ _ _
  have hGm : G ≤ maxLen := by rw [hG]; exact grownCap_le_maxLen w _ _ _ (by unfold maxLen; omega)
  have hRs : ROW.size = G * 4 := by
    rw [hROW]
    simp only [Array.size_append, List.size_toArray, htl, size_zeroCells]
    simp only [Value.cells]
    simp
    omega
  have hRt : ∀ j, j < i * 4 → ROW[j]? = (plCells l)[j]? := fun j hj => by
    rw [hROW, Array.append_assoc, Array.getElem?_append_left (by simp [htl]; omega), List.getElem?_toArray, List.getElem?_take, if_pos hj]
  obtain ⟨W1, hW1⟩ : ∃ W1, W1 = w.drew.alloc (.cells ROW 121) := ⟨_, rfl⟩
  rw [← hW1] at hrz
  have hb0 : W1.heap[w.heap.size]? = some (.cells ROW 121 (0, 0)) := by rw [hW1]; exact heap_alloc_new w.drew _
  have hk0 : Keeps None' w W1 := by rw [hW1]; exact ((Keeps.refl None' w).drew).alloc _
  have hN : ∀ j, j < G * 4 → (W1.cell? ⟨w.heap.size, j, none⟩).isSome = true := fun j hj => by rw [cell_of_blk hb0 j (Array.getElem?_eq_getElem (by omega))]; rfl
  have hNf : ∀ j, W1.frozen? ⟨w.heap.size, j, none⟩ = false := fun j => free_of_blk hb0 j
  have hOv : ∀ j v, (plCells [x])[j]? = some v → W1.cell? ⟨vb, j, none⟩ = some v := fun j v h => cell_of_blk (hk0.blk hvb (fun h => h)) j (by simpa using h)
  have hOb : ∀ j v, (plCells l)[j]? = some v → W1.cell? ⟨g, j, none⟩ = some v := fun j v h => (hk0.cell (p := ⟨g, j, none⟩) hgw (fun h => h)).trans (hrdG j v h)
  have hcpA : ∀ (W : World), (∀ y, W.cell? y = W1.cell? y) → (∀ y, W.frozen? y = W1.frozen? y) → ∀ ty dc, (Builtin.copy_ #[117, 117] ty #[.slice (some ⟨w.heap.size, i * 4, none⟩) (l.length + 1 - i) dc, .slice (some ⟨vb, 0, none⟩) 1 1]).run Tryz.prog W = .ok (goInt (1 : Nat)) (W.setCells w.heap.size (i * 4) (plCells [x])) := fun W hWc hWf ty dc => by
    have hmin : Nat.min 1 (l.length + 1 - i) = 1 := by simp only [Nat.min_def]; split <;> omega
    have := run_copy_cellsN (P := Tryz.prog) W 117 117 ty 121 w.heap.size (i * 4) (l.length + 1 - i) dc ⟨vb, 0, none⟩ 1 1 4 (plCells [x]) Tryz.underlying117 info_placed (by rw [hmin, hxl])
      (fun j v hj => by rw [Addr.add_lit, hWc, Nat.zero_add]; exact hOv j v hj)
      (fun j hj => by rw [hWc]; exact hN _ (by omega)) (fun j hj => by rw [hWf]; exact hNf _) honeX
    rw [hmin] at this
    exact this
  obtain ⟨W2, hW2⟩ : ∃ W2, W2 = W1.setCells w.heap.size (i * 4) (plCells [x]) := ⟨_, rfl⟩
  have hcpB : (Builtin.copy_ #[117, 117] 3 #[.slice (some ⟨w.heap.size, (i + 1) * 4, none⟩) (l.length + 1 - (i + 1)) (G - (i + 1)), .slice (some ⟨g, i * 4, none⟩) (l.length - i) (cap - i)]).run Tryz.prog W2.drew = .ok (goInt (l.length - i : Nat)) (W2.drew.setCells w.heap.size ((i + 1) * 4) ((plCells l).drop (i * 4))) := by
    have hmin : Nat.min (l.length - i) (l.length + 1 - (i + 1)) = l.length - i := by simp only [Nat.min_def]; split <;> omega
    have := run_copy_cellsN (P := Tryz.prog) W2.drew 117 117 3 121 w.heap.size ((i + 1) * 4) (l.length + 1 - (i + 1)) (G - (i + 1)) ⟨g, i * 4, none⟩ (l.length - i) (cap - i) 4 ((plCells l).drop (i * 4)) Tryz.underlying117 info_placed (by rw [hmin, hdl])
      (fun j v hj => by
        rw [List.getElem?_drop] at hj
        rw [Addr.add_lit]
        show W2.cell? _ = _
        rw [hW2, World.cell?_setCells_out w.heap.size _ _ _ _ (fun h _ => absurd h (by show g ≠ w.heap.size; omega))]
        exact hOb _ v hj)
      (fun j hj => by
        show (W2.cell? _).isSome = true
        rw [hW2]
        exact isSome_setCells w.heap.size (plCells [x]) (i * 4) W1 (fun t ht => hN _ (by omega)) _ (hN _ (by omega)))
      (fun j hj => by
        show W2.frozen? _ = false
        rw [hW2, World.frozen?_setCells]
        exact hNf _) (fun v hv => honeL v (List.mem_of_mem_drop hv))
    rw [hmin] at this
    exact this
  have hfin : InsRet w base (.slice (some ⟨g, 0, none⟩) l.length cap) (l.take i ++ x :: l.drop i) (.returned (.slice (some ⟨w.heap.size, 0, none⟩) (l.length + 1) G)) (W2.drew.setCells w.heap.size ((i + 1) * 4) ((plCells l).drop (i * 4))) := by
    have hL : (l.take i ++ x :: l.drop i).length = l.length + 1 := by simp; omega
    have hb1 := heap_setCells_same w.heap.size 121 (plCells [x]) (i * 4) W1 ROW hb0
    rw [← hW2] at hb1
    have hb2 := heap_setCells_same w.heap.size 121 ((plCells l).drop (i * 4)) ((i + 1) * 4) W2.drew _ hb1
    have hk1 : Keeps None' w W2 := by
      rw [hW2]
      exact hk0.setCells _ _ _ (Nat.le_refl _)
    refine ⟨_, rfl, ?_, ((hk1.drew.setCells _ _ _ (Nat.le_refl _))).mono (fun k _ e => e.elim)⟩
    rw [hL, hcells]
    have hsz1 : (layA ROW (i * 4) (plCells [x])).size = G * 4 := by rw [layA_size, hRs]
    refine ⟨?_, .inr ⟨w.heap.size, G, _, rfl, hbase, hb2, by omega, hGm, by rw [layA_size, hsz1], ?_⟩⟩
    · simp only [List.length_append, List.length_take, List.length_drop, hcl, hxl]
      omega
    · have := ins_take (layA (layA ROW (i * 4) (plCells [x])) ((i + 1) * 4) ((plCells l).drop (i * 4))) (plCells l) (plCells [x]) (i * 4) (by omega)
        (fun j hj => by
          rw [layA_get _ _ _ _ (by rw [hsz1, hdl]; omega), if_neg (by omega), layA_get _ _ _ _ (by rw [hRs, hxl]; omega), if_neg (by omega)]
          exact hRt j hj)
        (fun j hj => by
          rw [layA_get _ _ _ _ (by rw [hsz1, hdl]; omega), if_neg (by omega), layA_get _ _ _ _ (by rw [hRs, hxl]; omega), if_pos (by omega)]
          congr 1; omega)
        (fun j hj => by
          rw [layA_get _ _ _ _ (by rw [hsz1, hdl]; omega), if_pos (by rw [hdl]; omega), List.getElem?_drop]
          congr 1; omega)
      rw [hcl, hxl] at this
      rw [← this]
      congr 1; omega
  have HFIN := Lib.hid hfin
  have hcpA1 := hcpA W1 (fun _ => rfl) (fun _ => rfl)
  rw [← hW2] at hcpA1
  have HCB := Lib.hid hcpB
  clear hfin hrdG honeL honeX hdl hcells hcl hxl hown hvb hgb hN hNf hOv hOb hRt hRs hold htl hb0 hk0 hcpB hcpA hW2 hW1
  have hz2 : ¬ ((i : Int) = (l.length : Int)) := by omega
  have hz3 : (cap : Int) < (l.length : Int) + 1 := by omega
  have hiI : (i : Int) < (l.length : Int) := by omega
  have hci : ¬ (cap = i) := by omega
  have hGi : ¬ (G = i) := by omega
  have hGim : ¬ (G = i + 1) := by omega
  clear hG hROW hkk hik
  generalize plCells [x] = cx at *
  generalize plCells l = cl at *
  have hw0 : IntKind.i64.wrap ((l.length : Int) + 1) = (l.length : Int) + 1 := IntWalk.i64_in _ (by omega)
  go_enter Tryz.func115, Tryz.ntmps115
  go_wp2_with (at_builtin; refine Lib.wpList_append_run _ rfl _ _ _ _ rfl _ _ rfl rfl _ _ (hrz _) ?_)
  have hw1 : IntKind.i64.wrap ((i : Int) + 1) = (i : Int) + 1 := IntWalk.i64_in _ (by omega)
  have hb1 : (0 : Int) ≤ (i : Int) + 1 := by omega
  have htn : ((i : Int) + 1).toNat = i + 1 := by omega
  have hb3 : (i : Int) ≤ (l.length : Int) + 1 := by omega
  have hb5 : (i : Int) + 1 ≤ (l.length : Int) + 1 := by omega
  have hb6 : (i : Int) ≤ (l.length : Int) := by omega
  refine wp_region_still_tail 8 (by kernel_rfl) (by kernel_rfl) ?_
  simp only [List.take_succ_cons, List.take_zero, List.drop_succ_cons, List.drop_zero]
  iterate 8 still_step
  refine wpStill_nil ?_
  change wpList _ _ _ _ _ W2.drew
  clear hw1 hb1 htn
  refine list_copy_run _ rfl _ _ _ _ rfl (.slice (some ⟨w.heap.size, (i + 1) * 4, none⟩) (l.length + 1 - (i + 1)) (G - (i + 1))) (.slice (some ⟨g, i * 4, none⟩) (l.length - i) (cap - i)) (by simp [Act.eval]) (by simp [Act.eval]) HCB.out ?_
  go_wp2
  go_ret
  exact HFIN.out

theorem insert_any (w : World) (base vb i : Nat) (v : Value) (l : List (Ent × Value)) (x : Ent × Value) (hown : w.ownsRow base 121 4 v l.length (plCells l)) (ho : OneEach l) (hx : x.2.oneCell' = true) (hl : l.length ≤ 10000)
    (hvb : w.heap[vb]? = some (.cells (plCells [x]).toArray 121 (0, 0))) (hne : v.ownBlock ≠ some vb) (hi : i ≤ l.length) (hbase : base ≤ w.heap.size) :
    Calls Tryz.prog 115 #[v, .int .i64 i, .slice (some ⟨vb, 0, none⟩) 1 1] w fun e w' => InsRet w base v (l.take i ++ x :: l.drop i) e w' := by
  by_cases hn : i = l.length
  · subst hn
    have := insert_end w base vb v l x hown hx hl hvb hbase
    rwa [show l.take l.length ++ x :: l.drop l.length = l ++ [x] by simp]
  · rcases hown.2 with ⟨rfl, h0⟩ | ⟨g, cap, cur, rfl, _⟩
    · omega
    · by_cases hroom : l.length + 1 ≤ cap
      · exact insert_shift w base vb i g cap l x hown ho hx hl hvb (fun e => hne (by rw [e]; rfl)) (by omega) hroom
      · exact insert_grow w base vb i g cap l x hown ho hx hl hvb (by omega) hroom hbase
end Go.Proofs.YtlbaagjbehdmgaaGreat
