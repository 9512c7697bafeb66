/- A row of entries with another one, in its place. What a change does, in plain Lean: pages for the entries that have none. The closure of change that hands out pages; appending one row to another. Store.change: what its second loop keeps. -/
import Derived.Test.YtlbaagjbehdmgaaGreatM19
namespace Go.Proofs.YtlbaagjbehdmgaaGreat
open Go.RowKit

/-- the entries behind the coming of e -/
def withRow {α : Type} (l : List α) (pos : Nat) (hit : Bool) (x : α) : List α := if hit then l.set pos x else l.take pos ++ x :: l.drop pos
theorem plCells_set (l : List (Ent × Value)) (i : Nat) (x : Ent × Value) (h : i < l.length) : plCells (l.set i x) = lay (plCells l) (i * 4) (plCells [x]) := by
  have e : l.set i x = l.take i ++ ([x] ++ l.drop (i + 1)) := by
    rw [List.set_eq_take_append_cons_drop, if_pos h]; rfl
  rw [e, plCells_append, plCells_append, plCells_take l i (by omega), plCells_drop l (i + 1) (by omega), lay]
  have : (plCells [x]).length = 4 := plCells_length [x]
  rw [this, List.append_assoc, show (i + 1) * 4 = i * 4 + 4 by omega]
theorem oneEach_with (l : List (Ent × Value)) (pos : Nat) (hit : Bool) (x : Ent × Value) (h : OneEach l) (hx : x.2.oneCell' = true) : OneEach (withRow l pos hit x) := by
  intro y hy
  unfold withRow at hy
  split at hy
  · rcases List.mem_or_eq_of_mem_set hy with h' | h'
    · exact h y h'
    · rw [h']; exact hx
  · rcases List.mem_append.1 hy with h' | h'
    · exact h y (List.mem_of_mem_take h')
    · rcases List.mem_cons.1 h' with h'' | h''
      · rw [h'']; exact hx
      · exact h y (List.mem_of_mem_drop h'')
theorem withRow_length {α : Type} (l : List α) (pos : Nat) (hit : Bool) (x : α) (h : pos ≤ l.length) : (withRow l pos hit x).length = if hit then l.length else l.length + 1 := by
  unfold withRow
  split
  · simp
  · simp; omega
theorem build_placed (w : World) (h n : Int) (s : ByteArray) : (Instr.build 121 #[(0, .agg #[.int .i64 h, .int .i64 n, .string s])]).run Tryz.prog w = .ok (.agg #[.int .i64 h, .int .i64 n, .string s, .slice none 0 0]) w := by kernel_rfl
theorem zero_placed (w : World) : (zeroValue 121).run Tryz.prog w = .ok (.agg #[.int .i64 0, .int .i64 0, .string ⟨#[]⟩, .slice none 0 0]) w := by kernel_rfl
theorem slice_placed (w : World) (h n : Int) (s : ByteArray) (v : Value) : (Instr.buildSlice 117 1 #[(0, .agg #[.int .i64 h, .int .i64 n, .string s, v])]).run Tryz.prog w = .ok (.slice (some ⟨w.heap.size, 0, none⟩) 1 1) (w.alloc (.cells #[.int .i64 h, .int .i64 n, .string s, v] 121)) :=
  run_buildSlice_one (P := Tryz.prog) w 117 121 4 _ _ Tryz.underlying117 info_placed (zero_placed w) rfl rfl (by omega) (by omega)

theorem hit_lt {l : List (Ent × Value)} {pos : Nat} {h n : Int} (e : hitE l pos h n = true) : pos < l.length := by
  unfold hitE at e
  cases hq : l[pos]? with
  | none => rw [hq] at e; cases e
  | some p => exact (List.getElem?_eq_some_iff.1 hq).1

set_option maxRecDepth 100000 in
set_option maxHeartbeats 2000000 in
theorem with_any (w : World) (b : Nat) (ev : Value) (l : List (Ent × Value)) (e : Ent) (pos : Nat) (c3 : w.cell? ⟨b, 3, none⟩ = some ev) (hr : RowP w ev l) (ho : OneEach l) (hl : l.length ≤ 1024) (hp : pos ≤ l.length)
    (hs : ∀ (m : Nat) (p : Ent × Value), l[m]? = some p → (cmpKey p.1 e.house e.no < 0 ↔ m < pos)) :
    Calls Tryz.prog 74 #[.pointer (some ⟨b, 0, none⟩), e.val] w fun r w' =>
      FreshRow w 121 4 (withRow l pos (hitE l pos e.house e.no) (e, .slice none 0 0)).length (plCells (withRow l pos (hitE l pos e.house e.no) (e, .slice none 0 0))) r w' := by
  have hblt : b < w.heap.size := block_lt_of_cell c3
  have hfind := fun (W : World) (hk : Keeps None' w W) => find_row b ev l e.house e.no pos W ((hk.cell (p := ⟨b, 3, none⟩) hblt (fun h => h)).trans c3) (hr.keep hk) hl hp hs
  have hclone := fun (W : World) (hk : Keeps None' w W) => cloneP_any ev l W (hr.keep hk) ho (by omega)
  have HF := Lib.hid hfind
  have HCL := Lib.hid hclone
  have hbp := build_placed
  have hsp := slice_placed
  have HHL := Lib.hid (fun h => hit_lt (l := l) (pos := pos) (h := e.house) (n := e.no) h)
  have HWF := Lib.hid (show hitE l pos e.house e.no = false → withRow l pos (hitE l pos e.house e.no) (e, Value.slice none 0 0) = l.take pos ++ (e, .slice none 0 0) :: l.drop pos from fun h => by rw [h]; rfl)
  have HWT := Lib.hid (show hitE l pos e.house e.no = true → withRow l pos (hitE l pos e.house e.no) (e, Value.slice none 0 0) = l.set pos (e, .slice none 0 0) from fun h => by rw [h]; rfl)
  have HO := Lib.hid ho
  generalize withRow l pos (hitE l pos e.house e.no) (e, Value.slice none 0 0) = R at *
  generalize hH : hitE l pos e.house e.no = H at *
  obtain ⟨eh, en, eb⟩ := e
  unfold Ent.val
  dsimp only at *
  clear hfind hclone hr ho hs
  have hK0 : Keeps None' w (w.alloc (.cells #[.int .i64 eh, .int .i64 en, .string (str eb)] 64)) := (Keeps.refl _ _).alloc _
  have hE0 := heap_alloc_new w (.cells #[.int .i64 eh, .int .i64 en, .string (str eb)] 64)
  go_enter Tryz.func74, Tryz.ntmps74
  go_wp2_with fail
  generalize w.alloc (.cells #[.int .i64 eh, .int .i64 en, .string (str eb)] 64) = W0 at *
  refine (HF.out _ hK0).mono ?_
  rintro r W1 ⟨rfl, hk1⟩
  have hK1 := hK0.trans hk1
  have c31 : W1.cell? ⟨b, 3, none⟩ = some ev := (hK1.cell (p := ⟨b, 3, none⟩) hblt (fun h => h)).trans c3
  have hE1 := hk1.blk hE0 (fun h => h)
  have HC1 := Lib.hid (HCL.out W1 hK1)
  clear HF HCL hE0 hK0 hk1
  go_wp2_with fail
  refine HC1.out.mono ?_
  rintro r W2 ⟨v2, rfl, hown, hk2⟩
  have hE2 := hk2.blk hE1 (fun h => h)
  have hK2 := hK1.trans hk2
  have hwW : w.heap.size ≤ W1.heap.size := hK1.size
  replace hown := own_base hown hwW
  have e0 := cell_of_blk hE2 0 (v := .int .i64 eh) rfl
  have e1 := cell_of_blk hE2 1 (v := .int .i64 en) rfl
  have e2 := cell_of_blk hE2 2 (v := .string (str eb)) rfl
  have HOWN := Lib.hid hown
  have HK2 := Lib.hid hK2
  have hnW2 := lt_of_block hE2
  clear HC1 hE1 hE2 c31 hk2 hK1 hown hK2
  cases H with
  | true =>
    have hlt := HHL.out rfl
    obtain ⟨g, cap, cur, rfl, hg, hcap, hm, hsz, htk⟩ := own_block HOWN.out (by omega)
    have hbase : w.heap.size ≤ g := (HOWN.out.lt g rfl).1
    have hpI : (pos : Int) < (l.length : Int) := by omega
    have hth := own_there HOWN.out (pos * 4) 4 (by omega)
    have hfin := own_lay HOWN.out (pos * 4) (plCells [(⟨eh, en, eb⟩, .slice none 0 0)]) (by show _ + 4 ≤ _; omega)
    rw [← plCells_set l pos _ hlt, ← HWT.out rfl] at hfin
    have hRl : R.length = l.length := by rw [HWT.out rfl, List.length_set]
    have HFIN := Lib.hid hfin
    have HRL := Lib.hid hRl
    clear hfin hRl hg hsz htk HWF HWT HHL hH
    go_wp2_with (first | (refine wpList_store_mid rfl _ _ _ rfl g (pos * 4) #[.int .i64 eh, .int .i64 en, .string (str eb), .slice none 0 0] rfl rfl hth info_placed (by simp [Value.oneCell']) ?_))
    go_ret
    refine ⟨_, rfl, ?_, (HK2.out.setCells g (pos * 4) _ hbase)⟩
    rw [HRL.out]
    exact HFIN.out
  | false =>
    have hpI : (pos : Int) ≤ (l.length : Int) := by omega
    have hR := HWF.out rfl
    have HR := Lib.hid hR
    have hins := fun (W : World) (k : Keeps None' W2 W) (vb : Nat) (hvb : W.heap[vb]? = some (.cells #[.int .i64 eh, .int .i64 en, .string (str eb), .slice none 0 0] 121 (0, 0))) (hne : v2.ownBlock ≠ some vb) =>
      insert_any W w.heap.size vb pos v2 l (⟨eh, en, eb⟩, .slice none 0 0) (own_keep HOWN.out k (fun _ _ h => h)) HO.out rfl (by omega) hvb hne hp (Nat.le_trans HK2.out.size k.size)
    have HINS := Lib.hid hins
    obtain ⟨a2, cap2, rfl⟩ := (RowP.of_own HOWN.out).shape
    have hne2 : (Value.slice a2 l.length cap2).ownBlock ≠ some W2.heap.size := fun e => by have := (HOWN.out.lt _ e).2; omega
    have HNE := Lib.hid hne2
    have hbase : ∀ k, (Value.slice a2 l.length cap2).ownBlock = some k → w.heap.size ≤ k := fun k e => (HOWN.out.lt k e).1
    have HB := Lib.hid hbase
    clear HHL hH hR hins HWF HWT hne2 hbase
    go_wp2_with fail
    refine (HINS.out _ ((Keeps.refl None' W2).alloc _) W2.heap.size (heap_alloc_new _ _) HNE.out).mono ?_
    rintro r W3 ⟨v3, rfl, hown3, hk3⟩
    have HO3 := Lib.hid hown3
    have HK3 := Lib.hid hk3
    clear hown3 hk3
    go_wp2
    go_ret
    refine ⟨_, rfl, ?_, (HK2.out.alloc _).trans' HK3.out (fun i hi e => ?_)⟩
    · rw [HR.out]; exact HO3.out
    · have := HB.out i e.symm
      omega
end Go.Proofs.YtlbaagjbehdmgaaGreat

namespace Go.Proofs.YtlbaagjbehdmgaaGreat
open Go.RowKit

/-- how many pages an entry asks for -/
def asks (p : Placed) : Nat := if p.pages = [] then npieces p.e else 0
def needTo (l : List Placed) (k : Nat) : Nat := ((l.take k).map asks).sum
def idxMany (l : List Placed) : Nat := (l.length + 25) / 26
def needOf (l : List Placed) : Nat := idxMany l + needTo l l.length
theorem needTo_succ (l : List Placed) (k : Nat) (p : Placed) (h : l[k]? = some p) : needTo l (k + 1) = needTo l k + asks p := by
  obtain ⟨hk, rfl⟩ := List.getElem?_eq_some_iff.1 h
  unfold needTo
  rw [List.take_succ_eq_append_getElem hk, List.map_append, List.sum_append]
  simp only [List.map_cons, List.map_nil, List.sum_cons, List.sum_nil, Nat.add_zero]
theorem needTo_mono (l : List Placed) (j : Nat) : ∀ k, j ≤ k → needTo l j ≤ needTo l k := by
  intro k
  induction k with
  | zero => intro h; rw [show j = 0 by omega]; exact Nat.le_refl _
  | succ k ih =>
    intro h
    by_cases e : j = k + 1
    · rw [e]; exact Nat.le_refl _
    · refine Nat.le_trans (ih (by omega)) ?_
      by_cases hk : k < l.length
      · rw [needTo_succ l k l[k] (by simp [hk])]; omega
      · simp only [needTo]
        rw [List.take_of_length_le (by omega), List.take_of_length_le (by omega)]
        exact Nat.le_refl _
theorem asks_le (p : Placed) (h : p.e.valid = true) : asks p ≤ 4 := by
  have : p.e.body.length ≤ 180 := by simp [Ent.valid] at h; omega
  unfold asks npieces
  split <;> omega
theorem npieces_pos (e : Ent) : 1 ≤ npieces e := by unfold npieces; omega
theorem npieces_le (e : Ent) (h : e.valid = true) : npieces e ≤ 4 := by
  have : e.body.length ≤ 180 := by simp [Ent.valid] at h; omega
  unfold npieces; omega
theorem needTo_le (l : List Placed) (h : ∀ p ∈ l, p.e.valid = true) : ∀ k, k ≤ l.length → needTo l k ≤ k * 4 := by
  intro k
  induction k with
  | zero => intro _; simp [needTo]
  | succ k ih =>
    intro hk
    rw [needTo_succ l k l[k] (by simp)]
    have := ih (by omega)
    have := asks_le l[k] (h _ (List.getElem_mem _))
    omega

/-- the pages of the k-th entry -/
def givenAt (l : List Placed) (free : List Nat) (k : Nat) (p : Placed) : Placed := if p.pages = [] then ⟨p.e, (free.drop (needTo l k)).take (npieces p.e)⟩ else p
def given (l : List Placed) (free : List Nat) : List Placed := l.mapIdx (givenAt l free)
theorem given_length (l : List Placed) (free : List Nat) : (given l free).length = l.length := by simp [given]
theorem given_get (l : List Placed) (free : List Nat) (k : Nat) : (given l free)[k]? = (l[k]?).map (givenAt l free k) := by simp [given]
theorem givenAt_e (l : List Placed) (free : List Nat) (k : Nat) (p : Placed) : (givenAt l free k p).e = p.e := by unfold givenAt; split <;> rfl
/-- the writes of the first k entries -/
def newWr (l : List Placed) (free : List Nat) : Nat → List (Nat × List UInt8)
  | 0 => []
  | k + 1 => newWr l free k ++ (match l[k]? with | some p => if p.pages = [] then pieceWrites p.e ((free.drop (needTo l k)).take (npieces p.e)) else [] | none => [])
theorem newWr_hit (l : List Placed) (free : List Nat) (k : Nat) (p : Placed) (h : l[k]? = some p) (hp : p.pages = []) : newWr l free (k + 1) = newWr l free k ++ pieceWrites p.e ((free.drop (needTo l k)).take (npieces p.e)) := by
  simp [newWr, h, hp]
theorem newWr_miss (l : List Placed) (free : List Nat) (k : Nat) (p : Placed) (h : l[k]? = some p) (hp : p.pages ≠ []) : newWr l free (k + 1) = newWr l free k := by
  simp [newWr, h, hp]
theorem pieceWrites_length (e : Ent) (pages : List Nat) : (pieceWrites e pages).length = pages.length := by simp [pieceWrites]
theorem pieceWrites_64 (e : Ent) (pages : List Nat) : ∀ x ∈ pieceWrites e pages, x.2.length = 64 := by
  intro x hx
  simp only [pieceWrites, List.mem_map] at hx
  obtain ⟨i, _, rfl⟩ := hx
  exact sealP_length _ _ (pieceRaw_length _ _ _)
theorem newWr_64 (l : List Placed) (free : List Nat) : ∀ k, ∀ x ∈ newWr l free k, x.2.length = 64 := by
  intro k
  induction k with
  | zero => intro x hx; cases hx
  | succ k ih =>
    intro x hx
    rcases List.mem_append.1 hx with h | h
    · exact ih x h
    · split at h
      · split at h
        · exact pieceWrites_64 _ _ x h
        · cases h
      · cases h
theorem newWr_length (l : List Placed) (free : List Nat) (hv : ∀ p ∈ l, p.e.valid = true) : ∀ k, k ≤ l.length → (newWr l free k).length ≤ k * 4 := by
  intro k
  induction k with
  | zero => intro _; exact Nat.le_refl _
  | succ k ih =>
    intro hk
    have hp : l[k]? = some l[k] := by simp
    have h4 := npieces_le l[k].e (hv _ (List.getElem_mem _))
    have := ih (by omega)
    by_cases h : l[k].pages = []
    · rw [newWr_hit l free k _ hp h, List.length_append, pieceWrites_length, List.length_take]
      omega
    · rw [newWr_miss l free k _ hp h]; omega

/-- the state behind the change -/
def St.next (cur : St) (l : List Placed) (free : List Nat) : St :=
  { at_ := 1 - cur.at_, houses := cur.houses, gen := cur.gen + 1, entries := given l free, index := (free.drop (needTo l l.length)).take (idxMany l) }
/-- what the entries of a change are -/
structure Fit (l : List Placed) : Prop where
  some : l ≠ []
  few : l.length ≤ 1024
  each : ∀ p ∈ l, p.e.valid = true ∧ p.pages.length ≤ 1024 ∧ ∀ x ∈ p.pages, x < 1024
theorem next_ok {cur : St} {l : List Placed} {free : List Nat} (hc : cur.ok) (hf : Fit l) (hn : needOf l ≤ free.length) (hx : ∀ x ∈ free, x < 1024) (hg : (cur.gen : Int) ≠ 9223372036854775807) : (cur.next l free).ok := by
  obtain ⟨a1, a2, a3, a4, a5, a6, a7, a8⟩ := hc
  have hfl := hf.few
  refine ⟨by simp [St.next], a2, a3, by simp [St.next]; omega, by simp [St.next, given_length]; exact hfl, ?_, ?_, ?_⟩
  · simp only [St.next, List.length_take]
    have : idxMany l ≤ 1024 := by unfold idxMany; omega
    omega
  · intro x h
    exact hx x (List.mem_of_mem_drop (List.mem_of_mem_take h))
  · intro p hp
    obtain ⟨k, hk⟩ := List.getElem?_of_mem hp
    rw [show (cur.next l free).entries = given l free from rfl, given_get] at hk
    cases hq : l[k]? with
    | none => rw [hq] at hk; cases hk
    | some q =>
      rw [hq] at hk
      simp only [Option.map_some, Option.some.injEq] at hk
      subst hk
      have hkl := (List.getElem?_eq_some_iff.1 hq).1
      obtain ⟨v1, v2, v3⟩ := hf.each q (List.mem_of_getElem? hq)
      have h4 := npieces_le q.e v1
      have h1 := npieces_pos q.e
      unfold givenAt
      split
      · rename_i he
        have hs := needTo_succ l k q hq
        have hm := needTo_mono l (k + 1) l.length (by omega)
        have ha : asks q = npieces q.e := by simp [asks, he]
        have hlen : ((free.drop (needTo l k)).take (npieces q.e)).length = npieces q.e := by
          rw [List.length_take, List.length_drop]
          unfold needOf at hn
          omega
        refine ⟨v1, fun h => ?_, by dsimp only; omega, fun x h => hx x (List.mem_of_mem_drop (List.mem_of_mem_take h))⟩
        dsimp only at h
        rw [h] at hlen
        simp at hlen
        omega
      · rename_i he
        exact ⟨v1, he, v2, v3⟩
theorem next_index {cur : St} {l : List Placed} {free : List Nat} (hn : needOf l ≤ free.length) : (cur.next l free).index.length = ((cur.next l free).entries.length + 25) / 26 := by
  simp only [St.next, given_length, List.length_take, List.length_drop]
  unfold needOf at hn
  unfold idxMany at *
  omega
/-- Store.change -/
def changeP (D : Dsk) (cur : St) (former : Option St) (l : List Placed) : Int × Dsk × St × Option St :=
  let free := freeOf D cur former
  if free.length < needOf l ∨ cur.gen = 9223372036854775807 then (92, D, cur, former) else
  let nx := cur.next l free
  let r1 := D.all (newWr l free l.length ++ idxWrites nx)
  if r1.1 ≠ 0 then (r1.1, r1.2, cur, former) else
  let r2 := r1.2.all [(nx.at_, sealP nx.at_ (rootRaw nx))]
  if r2.1 ≠ 0 then (r2.1, r2.2, cur, former) else (0, r2.2, nx, some cur)

/-- the row of entries with the first k of them given pages out of the row at fb -/
def rowTo (r : List (Ent × Value)) (l : List Placed) (fb k : Nat) : List (Ent × Value) :=
  r.mapIdx fun j x => match l[j]? with
    | some p => if j < k ∧ p.pages = [] then (x.1, .slice (some ⟨fb, needTo l j, none⟩) (npieces p.e) (npieces p.e)) else x
    | none => x
theorem rowTo_length (r : List (Ent × Value)) (l : List Placed) (fb k : Nat) : (rowTo r l fb k).length = r.length := by simp [rowTo]
theorem rowTo_zero (r : List (Ent × Value)) (l : List Placed) (fb : Nat) : rowTo r l fb 0 = r := by
  apply List.ext_getElem?
  intro j
  simp only [rowTo, List.getElem?_mapIdx]
  cases r[j]? with
  | none => rfl
  | some x =>
    simp only [Option.map_some, Option.some.injEq]
    split
    · rw [if_neg (by omega)]
    · rfl
theorem rowTo_miss (r : List (Ent × Value)) (l : List Placed) (fb k : Nat) (p : Placed) (h : l[k]? = some p) (hp : p.pages ≠ []) : rowTo r l fb (k + 1) = rowTo r l fb k := by
  apply List.ext_getElem?
  intro j
  simp only [rowTo, List.getElem?_mapIdx]
  cases r[j]? with
  | none => rfl
  | some x =>
    simp only [Option.map_some, Option.some.injEq]
    cases hq : l[j]? with
    | none => rfl
    | some q =>
      dsimp only
      by_cases e : j = k
      · subst e
        rw [h] at hq; cases hq
        rw [if_neg (fun h => hp h.2), if_neg (fun h => hp h.2)]
      · by_cases c : j < k ∧ q.pages = []
        · rw [if_pos c, if_pos ⟨by omega, c.2⟩]
        · rw [if_neg c, if_neg (fun h => c ⟨by omega, h.2⟩)]
theorem rowTo_hit (r : List (Ent × Value)) (l : List Placed) (fb k : Nat) (p : Placed) (x : Ent × Value) (h : l[k]? = some p) (hx : r[k]? = some x) (hp : p.pages = []) :
    rowTo r l fb (k + 1) = (rowTo r l fb k).set k (x.1, .slice (some ⟨fb, needTo l k, none⟩) (npieces p.e) (npieces p.e)) := by
  apply List.ext_getElem?
  intro j
  rw [List.getElem?_set]
  simp only [rowTo, List.getElem?_mapIdx, List.length_mapIdx]
  have hk := (List.getElem?_eq_some_iff.1 hx).1
  by_cases e : k = j
  · subst e
    rw [if_pos rfl, if_pos hk, hx, h]
    simp [hp]
  · rw [if_neg e]
    cases r[j]? with
    | none => rfl
    | some y =>
      simp only [Option.map_some, Option.some.injEq]
      cases hq : l[j]? with
      | none => rfl
      | some q =>
        dsimp only
        by_cases c : j < k ∧ q.pages = []
        · rw [if_pos c, if_pos ⟨by omega, c.2⟩]
        · rw [if_neg c, if_neg (fun h => c ⟨by omega, h.2⟩)]
theorem rowTo_get (r : List (Ent × Value)) (l : List Placed) (fb k : Nat) (x : Ent × Value) (hx : r[k]? = some x) : (rowTo r l fb k)[k]? = some x := by
  simp only [rowTo, List.getElem?_mapIdx, hx, Option.map_some, Option.some.injEq]
  cases l[k]? with
  | none => rfl
  | some q => dsimp only; rw [if_neg (by omega)]
/-- all of them have pages -/
theorem rowTo_pages {w : World} {r : List (Ent × Value)} {l : List Placed} {fb : Nat} {free : List Nat} {cs : Array Value} (h : PagesAt w r l) (hn : needOf l ≤ free.length) (hb : w.heap[fb]? = some (.cells cs 3 (0, 0))) (hc : ∀ (i x : Nat), free[i]? = some x → cs[i]? = some (.int .i64 (x : Int))) :
    PagesAt w (rowTo r l fb l.length) (given l free) := by
  refine ⟨by rw [rowTo_length, given_length, h.1], fun i x p hx hp => ?_⟩
  rw [given_get] at hp
  cases hq : l[i]? with
  | none => rw [hq] at hp; cases hp
  | some q =>
    rw [hq] at hp
    simp only [Option.map_some, Option.some.injEq] at hp
    have hil := (List.getElem?_eq_some_iff.1 hq).1
    have hri : i < r.length := by rw [h.1]; exact hil
    simp only [rowTo, List.getElem?_mapIdx, hq, List.getElem?_eq_getElem hri, Option.map_some, Option.some.injEq] at hx
    obtain ⟨g1, g2⟩ := h.2 i r[i] q (by simp [hri]) hq
    subst hp
    by_cases he : q.pages = []
    · rw [if_pos ⟨hil, he⟩] at hx
      subst hx
      have hs := needTo_succ l i q hq
      have hm := needTo_mono l (i + 1) l.length (by omega)
      have ha : asks q = npieces q.e := by simp [asks, he]
      have h1 := npieces_pos q.e
      have hlen : ((free.drop (needTo l i)).take (npieces q.e)).length = npieces q.e := by
        rw [List.length_take, List.length_drop]
        unfold needOf at hn
        omega
      have hga : givenAt l free i q = ⟨q.e, (free.drop (needTo l i)).take (npieces q.e)⟩ := by simp [givenAt, he]
      rw [hga]
      refine ⟨g1, .inr ⟨fb, needTo l i, npieces q.e, cs, by dsimp only; rw [hlen], ⟨fun h => ?_, by dsimp only; omega⟩, hb, fun j y hj => ?_⟩⟩
      · dsimp only at h
        rw [h] at hlen
        simp at hlen
        omega
      · dsimp only at hj
        rw [List.getElem?_take] at hj
        split at hj
        · rw [List.getElem?_drop] at hj
          exact hc _ _ hj
        · cases hj
    · rw [if_neg (fun h => he h.2)] at hx
      subst hx
      have hga : givenAt l free i q = q := by simp [givenAt, he]
      rw [hga]
      exact ⟨g1, g2⟩
/-- a row of entries with pages -/
theorem rplaced_of_own {w : World} {base : Nat} {v : Value} {r : List (Ent × Value)} {l : List Placed} (h : w.ownsRow base 121 4 v r.length (plCells r)) (hp : PagesAt w r l) (hl : l ≠ []) : RPlaced w v l := by
  rcases h.2 with ⟨rfl, hn⟩ | ⟨g, cap, cur, rfl, hg, hh, hc, _, _, ht⟩
  · refine .inl ⟨by first | rfl | rw [hn], List.eq_nil_of_length_eq_zero (by rw [← hp.1]; exact hn)⟩
  · refine .inr ⟨g, 0, cap, cur, by rw [hp.1], ⟨hl, by rw [← hp.1]; exact hc⟩, hh, fun i p hi => ?_⟩
    have hri : i < r.length := by rw [hp.1]; exact (List.getElem?_eq_some_iff.1 hi).1
    obtain ⟨e1, e2⟩ := hp.2 i r[i] p (by simp [hri]) hi
    obtain ⟨g0, g1, g2, g3⟩ := plCells_get r i r[i] (by simp [hri])
    rw [e1] at g0 g1 g2
    have hcur : ∀ j v, (plCells r)[j]? = some v → cur[j]? = some v := fun j v hj => by
      rw [← ht, List.getElem?_take] at hj
      split at hj
      · simpa using hj
      · cases hj
    refine ⟨_, e2, ?_, ?_, ?_, ?_⟩ <;> rw [Nat.zero_add]
    · exact hcur _ _ g0
    · exact hcur _ _ g1
    · exact hcur _ _ g2
    · exact hcur _ _ g3
end Go.Proofs.YtlbaagjbehdmgaaGreat

namespace Go.Proofs.YtlbaagjbehdmgaaGreat
open Go.RowKit

def offTo (off cap n : Nat) : Nat := if cap = n then off else off + n
set_option maxHeartbeats 1000000 in
theorem take_any (w : World) (bx fb off len cap n : Nat) (hb : w.heap[bx]? = some (.cells #[.slice (some ⟨fb, off, none⟩) len cap] 47 (0, 0))) (hn : n ≤ len) (hc : len ≤ cap) :
    Calls Tryz.prog 117 #[.int .i64 n, .pointer (some ⟨bx, 0, none⟩)] w fun e w' => e = .returned (.slice (some ⟨fb, off, none⟩) n n) ∧ w' = w.setCell ⟨bx, 0, none⟩ (.slice (some ⟨fb, offTo off cap n, none⟩) (len - n) (cap - n)) := by
  have c0 := cell_of_blk hb 0 rfl
  have f0 := free_of_blk hb 0
  have hnl : (n : Int) ≤ (len : Int) := by omega
  have hnc : (n : Int) ≤ (cap : Int) := by omega
  clear hb
  by_cases h : cap = n
  · have e : offTo off cap n = off := by simp [offTo, h]
    rw [e]
    clear e
    go_enter Tryz.func117, Tryz.ntmps117
    go_wp2
    go_ret
    exact ⟨rfl, by first | rfl | rw [h, Nat.sub_self]⟩
  · have e : offTo off cap n = off + n := by simp [offTo, h]
    rw [e]
    clear e
    go_enter Tryz.func117, Tryz.ntmps117
    go_wp2
    go_ret
    exact ⟨rfl, rfl⟩

/-- append of one owned row to another one, whatever the elements -/
theorem list_append_rowsG {w : World} {ops : Array Oper} {rest : List Oper} {o : Oper} {a : Act} {Q : Exit → Act → World → Prop} (hgd : o.guard = none) (s x : Operand) (t : TypeId)
    (ho : o.op = .call { callee := .builtin .append, args := #[s, x], argTypes := #[t, t] })
    (base base2 : Nat) (e : TypeId) (i : TypeInfo) (z : Value) (size bytes : Nat) (ht : Tryz.prog.underlying t = some (.slice e)) (hi : Tryz.prog.info? e = some i) (hz : i.zero = some z) (hs1 : i.size = size) (hs2 : i.bytes = bytes) (hzc : z.cells.size = size) (hp : 0 < size)
    (v v2 : Value) (n n2 : Nat) (xs xs2 : List Value) (hs : a.eval s = v) (hown : w.ownsRow base e size v n xs) (hx : a.eval x = v2) (hown2 : w.ownsRow base2 e size v2 n2 xs2) (h1 : ∀ u ∈ xs2, u.oneCell' = true)
    (hl : n + n2 ≤ maxLen) (hl2 : (n + n2) * bytes ≤ 140737488355328) (hbase : base ≤ w.heap.size)
    (h : ∀ v' w', w'.ownsRow base e size v' (n + n2) (xs ++ xs2) → w.grownBy w' v.ownBlock → wpList Tryz.prog ops Q rest (a.put o.dst v') w') : wpList Tryz.prog ops Q (o :: rest) a w := by
  rcases hown2.2 with ⟨rfl, hm⟩ | ⟨g, cap, cur, rfl, _⟩
  · have h2 : xs2 = [] := List.eq_nil_of_length_eq_zero (by rw [hown2.1, hm]; simp)
    subst h2; subst hm
    refine wpList_append_own_none hgd s x _ ho base e i size ht hi v _ _ hs hown hx (h v w (by simpa using hown) ⟨rfl, rfl, rfl, Nat.le_refl _, fun _ _ _ => rfl⟩)
  · exact list_append_own hgd s x _ ho base e i z size bytes ht hi hz hs1 hs2 hzc hp v _ _ hs hown ⟨g, 0, none⟩ n2 cap xs2 hx hown2.1 (fun j u hj => by rw [Addr.add_lit]; exact own_range hown2 j u hj) h1 hl hl2 hbase (fun v' w' h1 h2 _ => h v' w' h1 h2)
theorem writeCells_one (l : List (Nat × List UInt8)) : ∀ u ∈ writeCells l, u.oneCell' = true := by
  intro u hu
  simp only [writeCells, List.mem_flatten, List.mem_map] at hu
  obtain ⟨c, ⟨x, _, rfl⟩, hu⟩ := hu
  exact one_cells x.1 x.2 u hu
theorem writeCells_append (a b : List (Nat × List UInt8)) : writeCells (a ++ b) = writeCells a ++ writeCells b := by simp [writeCells]
end Go.Proofs.YtlbaagjbehdmgaaGreat

namespace Go.Proofs.YtlbaagjbehdmgaaGreat
open Go.RowKit

theorem plCells_set3 (R : List (Ent × Value)) (k : Nat) (x : Ent × Value) (pv : Value) (hx : R[k]? = some x) : plCells (R.set k (x.1, pv)) = lay (plCells R) (k * 4 + 3) [pv] := by
  have hk := (List.getElem?_eq_some_iff.1 hx).1
  rw [plCells_set R k _ hk]
  have hl := plCells_length R
  have h4 : (plCells [(x.1, pv)]).length = 4 := plCells_length _
  obtain ⟨g0, g1, g2, g3⟩ := plCells_get R k x hx
  apply List.ext_getElem?
  intro j
  rw [lay_get _ _ _ _ (by omega), lay_get _ _ _ _ (by simp; omega), h4, show ([pv] : List Value).length = 1 from rfl]
  by_cases h : k * 4 ≤ j ∧ j < k * 4 + 4
  · rw [if_pos h]
    have hj : j = k * 4 ∨ j = k * 4 + 1 ∨ j = k * 4 + 2 ∨ j = k * 4 + 3 := by omega
    rcases hj with rfl | rfl | rfl | rfl
    · rw [if_neg (by omega), g0, Nat.sub_self]; rfl
    · rw [if_neg (by omega), g1, show k * 4 + 1 - k * 4 = 1 by omega]; rfl
    · rw [if_neg (by omega), g2, show k * 4 + 2 - k * 4 = 2 by omega]; rfl
    · rw [if_pos (by omega), show k * 4 + 3 - k * 4 = 3 by omega, Nat.sub_self]; rfl
  · rw [if_neg h, if_neg (by omega)]

/-- k entries have their pages, j of them their writes -/
structure Ch2At (w0 : World) (l : List Placed) (r : List (Ent × Value)) (free : List Nat) (bx fb g cap fcap tb base fbase : Nat) (st : Array Value) (k j : Nat) (wvv : Value) (wv : World) : Prop where
  keeps : Keeps None' w0 wv
  thenB : wv.heap[tb]? = some (.cells st 119 (0, 0))
  row : wv.ownsRow w0.heap.size 121 4 (.slice (some ⟨g, 0, none⟩) r.length cap) r.length (plCells (rowTo r l fb k))
  writes : wv.ownsRow base 110 65 wvv (newWr l free j).length (writeCells (newWr l free j))
  box : ∃ o c, wv.heap[bx]? = some (.cells #[.slice (some ⟨fb, o, none⟩) (free.length - needTo l k) c] 47 (0, 0)) ∧ free.length - needTo l k ≤ c ∧ (0 < free.length - needTo l k → o = needTo l k)
  free : wv.ownsRow fbase 3 1 (.slice (some ⟨fb, 0, none⟩) free.length fcap) free.length (ints free)
  size : base ≤ wv.heap.size
  old : w0.heap.size ≤ base ∧ w0.heap.size ≤ bx
theorem Ch2At.keep {w0 : World} {l : List Placed} {r : List (Ent × Value)} {free : List Nat} {bx fb g cap fcap tb base fbase : Nat} {st : Array Value} {k j : Nat} {wvv : Value} {wv w' : World}
    (h : Ch2At w0 l r free bx fb g cap fcap tb base fbase st k j wvv wv) (hk : Keeps None' wv w') : Ch2At w0 l r free bx fb g cap fcap tb base fbase st k j wvv w' := by
  obtain ⟨o, c, h1, h2, h3⟩ := h.box
  exact ⟨h.keeps.trans hk, hk.blk h.thenB (fun h => h), own_keep h.row hk (fun _ _ h => h), own_keep h.writes hk (fun _ _ h => h), ⟨o, c, hk.blk h1 (fun h => h), h2, h3⟩, own_keep h.free hk (fun _ _ h => h), Nat.le_trans h.size hk.size, h.old⟩
theorem Ch2At.skip {w0 : World} {l : List Placed} {r : List (Ent × Value)} {free : List Nat} {bx fb g cap fcap tb base fbase : Nat} {st : Array Value} {k : Nat} {wvv : Value} {wv : World} {p : Placed}
    (h : Ch2At w0 l r free bx fb g cap fcap tb base fbase st k k wvv wv) (hp : l[k]? = some p) (hpg : p.pages ≠ []) : Ch2At w0 l r free bx fb g cap fcap tb base fbase st (k + 1) (k + 1) wvv wv := by
  have e : needTo l (k + 1) = needTo l k := by rw [needTo_succ l k p hp]; simp [asks, hpg]
  have e2 := newWr_miss l free k p hp hpg
  have e3 := rowTo_miss r l fb k p hp hpg
  exact ⟨h.keeps, h.thenB, by rw [e3]; exact h.row, by rw [e2]; exact h.writes, by rw [e]; exact h.box, h.free, h.size, h.old⟩
theorem blk_ne {w : World} {a b : Nat} {ca cb : Array Value} {ta tb : TypeId} {fa fb : Nat × Nat} (h1 : w.heap[a]? = some (.cells ca ta fa)) (h2 : w.heap[b]? = some (.cells cb tb fb)) (ht : ta ≠ tb) : a ≠ b := fun e => by
  rw [e, h2] at h1
  injection h1 with h1
  injection h1 with _ h1 _
  exact ht h1.symm
theorem own_ne {w : World} {base : Nat} {e : TypeId} {size : Nat} {v : Value} {n : Nat} {xs : List Value} (h : w.ownsRow base e size v n xs) {b : Nat} {cs : Array Value} {t : TypeId} {fr : Nat × Nat} (hb : w.heap[b]? = some (.cells cs t fr)) (ht : t ≠ e) : ∀ k, v.ownBlock = some k → k ≠ b := fun k hk e' => own_ne_type h hb ht (by rw [hk, e'])
theorem Ch2At.give {w0 : World} {l : List Placed} {r : List (Ent × Value)} {free : List Nat} {bx fb g cap fcap tb base fbase : Nat} {st : Array Value} {k j : Nat} {wvv : Value} {wv : World} {p : Placed} {x : Ent × Value} {o c : Nat}
    (h : Ch2At w0 l r free bx fb g cap fcap tb base fbase st k j wvv wv) (hp : l[k]? = some p) (hpg : p.pages = []) (hx : r[k]? = some x) (hn : needTo l (k + 1) ≤ free.length)
    (hb : wv.heap[bx]? = some (.cells #[.slice (some ⟨fb, o, none⟩) (free.length - needTo l k) c] 47 (0, 0))) (hc : free.length - needTo l k ≤ c) (ho : 0 < free.length - needTo l k → o = needTo l k) :
    Ch2At w0 l r free bx fb g cap fcap tb base fbase st (k + 1) j wvv ((wv.setCell ⟨bx, 0, none⟩ (.slice (some ⟨fb, offTo o c (npieces p.e), none⟩) (free.length - needTo l k - npieces p.e) (c - npieces p.e))).setCell ⟨g, k * 4 + 3, none⟩ (.slice (some ⟨fb, needTo l k, none⟩) (npieces p.e) (npieces p.e))) := by
  have hs := needTo_succ l k p hp
  rw [show asks p = npieces p.e by simp [asks, hpg]] at hs
  have h1 := npieces_pos p.e
  have hgr := rowTo_hit r l fb k p x hp hx hpg
  have hkr := (List.getElem?_eq_some_iff.1 hx).1
  obtain ⟨cg, hcg⟩ := own_type h.row (b := g) rfl
  obtain ⟨cf, hcf⟩ := own_type h.free (b := fb) rfl
  have hgs : w0.heap.size ≤ g := (h.row.lt g rfl).1
  have k1 := Keeps.set1 wv bx 0 (.slice (some ⟨fb, offTo o c (npieces p.e), none⟩) (free.length - needTo l k - npieces p.e) (c - npieces p.e))
  have hb1 := heap_setCell_same _ _ 0 _ _ (.slice (some ⟨fb, offTo o c (npieces p.e), none⟩) (free.length - needTo l k - npieces p.e) (c - npieces p.e)) hb
  have n1 : tb ≠ bx := blk_ne h.thenB hb (by decide)
  have n2 : g ≠ bx := blk_ne hcg hb (by decide)
  have n3 : fb ≠ bx := blk_ne hcf hb (by decide)
  have n4 : tb ≠ g := blk_ne h.thenB hcg (by decide)
  have n5 : fb ≠ g := blk_ne hcf hcg (by decide)
  have n6 := own_ne h.writes hb (by decide)
  have n7 := own_ne h.writes hcg (by decide)
  have hrow1 := own_keep h.row k1 (fun b hb e => by cases hb; exact n2 e)
  generalize wv.setCell ⟨bx, 0, none⟩ (.slice (some ⟨fb, offTo o c (npieces p.e), none⟩) (free.length - needTo l k - npieces p.e) (c - npieces p.e)) = W1 at *
  have k2 := Keeps.set1 W1 g (k * 4 + 3) (.slice (some ⟨fb, needTo l k, none⟩) (npieces p.e) (npieces p.e))
  have hlay := own_lay hrow1 (k * 4 + 3) [.slice (some ⟨fb, needTo l k, none⟩) (npieces p.e) (npieces p.e)] (by simp; omega)
  rw [← plCells_set3 _ k x _ (rowTo_get r l fb k x hx), ← hgr] at hlay
  refine ⟨(h.keeps.trans' k1 (fun i hi e => ?_)).trans' k2 (fun i hi e => ?_), ?_, hlay, ?_, ⟨offTo o c (npieces p.e), c - npieces p.e, ?_, ?_, ?_⟩, ?_, Nat.le_trans h.size (Nat.le_trans k1.size k2.size), h.old⟩
  · have := h.old.2; rw [show i = bx from e] at hi; omega
  · rw [show i = g from e] at hi; omega
  · exact k2.blk (k1.blk h.thenB (fun e => n1 e)) (fun e => n4 e)
  · exact own_keep (own_keep h.writes k1 (fun b hb e => n6 b hb e)) k2 (fun b hb e => n7 b hb e)
  · have := k2.blk hb1 (fun e => n2 e.symm)
    rw [hs, Nat.sub_add_eq]
    simpa using this
  · omega
  · intro hpos
    have := ho (by omega)
    unfold offTo
    rw [if_neg (by omega), this, hs]
  · exact own_keep (own_keep h.free k1 (fun b hb e => by cases hb; exact n3 e)) k2 (fun b hb e => by cases hb; exact n5 e)
theorem Ch2At.wrote {w0 : World} {l : List Placed} {r : List (Ent × Value)} {free : List Nat} {bx fb g cap fcap tb base fbase : Nat} {st : Array Value} {k j j' : Nat} {wvv v' : Value} {wv w' : World}
    (h : Ch2At w0 l r free bx fb g cap fcap tb base fbase st k j wvv wv) (ho : w'.ownsRow base 110 65 v' (newWr l free j').length (writeCells (newWr l free j'))) (hg : wv.grownBy w' wvv.ownBlock) :
    Ch2At w0 l r free bx fb g cap fcap tb base fbase st k j' v' w' := by
  have hk := grownBy_keeps hg
  obtain ⟨o, c, h1, h2, h3⟩ := h.box
  obtain ⟨cg, hcg⟩ := own_type h.row (b := g) rfl
  obtain ⟨cf, hcf⟩ := own_type h.free (b := fb) rfl
  have n1 := own_ne h.writes h.thenB (by decide)
  have n2 := own_ne h.writes hcg (by decide)
  have n3 := own_ne h.writes h1 (by decide)
  have n4 := own_ne h.writes hcf (by decide)
  refine ⟨h.keeps.trans' hk (fun i hi e => ?_), hk.blk h.thenB (fun e => n1 tb e.symm rfl), own_keep h.row hk (fun b hb e => ?_), ho, ⟨o, c, hk.blk h1 (fun e => n3 bx e.symm rfl), h2, h3⟩, own_keep h.free hk (fun b hb e => ?_), Nat.le_trans h.size hk.size, h.old⟩
  · have := (h.writes.lt i e.symm).1
    have := h.old.1
    omega
  · cases hb; exact n2 g e.symm rfl
  · cases hb; exact n4 fb e.symm rfl
/-- some of the free pages, as a slice -/
theorem ri_free {w : World} {base fb cap : Nat} {free : List Nat} (h : w.ownsRow base 3 1 (.slice (some ⟨fb, 0, none⟩) free.length cap) free.length (ints free)) (m n : Nat) (hm : m + n ≤ free.length) (hn : 0 < n) : RInts w (.slice (some ⟨fb, m, none⟩) n n) ((free.drop m).take n) := by
  obtain ⟨g, c, cur, he, hb, hc, hmax, hs, ht⟩ := own_block h (by omega)
  injection he with he _ _
  injection he with he
  injection he with he
  subst he
  have hlen : ((free.drop m).take n).length = n := by rw [List.length_take, List.length_drop]; omega
  refine .inr ⟨fb, m, n, cur, by rw [hlen], ⟨fun h => ?_, by omega⟩, hb, fun i x hx => ?_⟩
  · rw [h] at hlen; simp at hlen; omega
  · rw [List.getElem?_take] at hx
    split at hx
    · rw [List.getElem?_drop] at hx
      have h1 : (ints free)[m + i]? = some (.int .i64 (x : Int)) := by simp [ints, hx]
      rw [← ht, List.getElem?_take] at h1
      split at h1
      · simpa using h1
      · cases h1
    · cases hx
theorem newWr_hit2 (l : List Placed) (free : List Nat) (k : Nat) (p : Placed) (h : l[k]? = some p) (hp : p.pages = []) :
    (newWr l free (k + 1)).length = (newWr l free k).length + (pieceWrites p.e ((free.drop (needTo l k)).take (npieces p.e))).length ∧ writeCells (newWr l free (k + 1)) = writeCells (newWr l free k) ++ writeCells (pieceWrites p.e ((free.drop (needTo l k)).take (npieces p.e))) := by
  rw [newWr_hit l free k p h hp]
  exact ⟨List.length_append, writeCells_append _ _⟩
theorem PagesAt.keep {S : Nat → Prop} {w w' : World} {r : List (Ent × Value)} {l : List Placed} (h : PagesAt w r l) (k : Keeps S w w') (hs : Spares S w) : PagesAt w' r l :=
  ⟨h.1, fun i x p hx hp => ⟨(h.2 i x p hx hp).1, (h.2 i x p hx hp).2.keep k (fun b cs fr hb hc => (hs b cs _ fr hb hc).1 rfl)⟩⟩
theorem IsDisk.lt {w : World} {d : Nat} {D : Dsk} {fp : Nat → Prop} (h : IsDisk w d D fp) : ∀ k, fp k → k < w.heap.size := by
  obtain ⟨sv, nv, wv, h, rfl⟩ := h
  rintro k (e | e | e | e)
  · rw [e]; exact lt_of_block h.blk
  · exact (h.safe.lt k e.symm).2
  · exact (h.now.lt k e.symm).2
  · exact (h.writes.lt k e.symm).2
theorem IsDisk.not_of_type {w : World} {d : Nat} {D : Dsk} {fp : Nat → Prop} (h : IsDisk w d D fp) {b : Nat} {cs : Array Value} {t : TypeId} {fr : Nat × Nat} (hb : w.heap[b]? = some (.cells cs t fr)) (h1 : t ≠ 101) (h2 : t ≠ 108) (h3 : t ≠ 110) : ¬ fp b := by
  obtain ⟨sv, nv, wv, h, rfl⟩ := h
  rintro (e | e | e | e)
  · rw [e, h.blk] at hb
    injection hb with hb
    injection hb with _ hb _
    exact h1 hb.symm
  · exact own_ne_type h.safe hb h2 e.symm
  · exact own_ne_type h.now hb h2 e.symm
  · exact own_ne_type h.writes hb h3 e.symm
theorem idxWrites_64 (S : St) : ∀ x ∈ idxWrites S, x.2.length = 64 := by
  intro x hx
  simp only [idxWrites, List.mem_map] at hx
  obtain ⟨i, _, rfl⟩ := hx
  refine sealP_length _ _ ?_
  refine nameInto_length _ _ ?_ _ (namedOf_le S i)
  have hz : (zeros 64).length = 64 := by simp [zeros]
  have h1 : (lay (zeros 64) 0 (low 2 (nextOf S.index i))).length = 64 := by rw [lay_length _ _ _ (by rw [low_length, hz]; omega), hz]
  unfold idxHead
  rw [lay_length _ _ _ (by rw [h1]; simp), h1]
theorem idxWrites_length (S : St) : (idxWrites S).length = S.index.length := by simp [idxWrites]
/-- the new state is whole -/
theorem Ch2At.done {w0 : World} {cur : St} {l : List Placed} {r : List (Ent × Value)} {free : List Nat} {bx fb g cap fcap tb base fbase : Nat} {st : Array Value} {wvv vv : Value} {wv : World} {b0 : Array Value}
    (h : Ch2At w0 l r free bx fb g cap fcap tb base fbase st l.length l.length wvv wv) (hst : #[.int .i64 ((1 - cur.at_ : Nat) : Int), .int .i64 (cur.houses : Int), .int .u64 ((cur.gen + 1 : Nat) : Int), .slice (some ⟨g, 0, none⟩) l.length cap, .slice none 0 0] = st)
    (hf : Fit l) (hn : needOf l ≤ free.length) (hp : PagesAt w0 r l) (hc : cur.ok) (hx : ∀ x ∈ free, x < 1024) (hg : (cur.gen : Int) ≠ 9223372036854775807) (htb : w0.heap.size ≤ tb) (hbx : wv.heap[bx]? = some (.cells b0 47 (0, 0))) :
    let W' := (wv.setCell ⟨bx, 0, none⟩ vv).setCell ⟨tb, 4, none⟩ (.slice (some ⟨fb, needTo l l.length, none⟩) (idxMany l) (idxMany l))
    Keeps None' w0 W' ∧ IsState W' tb (cur.next l free) ∧ W'.ownsRow base 110 65 wvv (newWr l free l.length).length (writeCells (newWr l free l.length)) ∧ base ≤ W'.heap.size := by
  intro W'
  obtain ⟨cg, hcg⟩ := own_type h.row (b := g) rfl
  obtain ⟨cf, hcf⟩ := own_type h.free (b := fb) rfl
  have k1 := Keeps.set1 wv bx 0 vv
  have k2 := Keeps.set1 (wv.setCell ⟨bx, 0, none⟩ vv) tb 4 (.slice (some ⟨fb, needTo l l.length, none⟩) (idxMany l) (idxMany l))
  have n1 : tb ≠ bx := blk_ne h.thenB hbx (by decide)
  have n2 : g ≠ bx := blk_ne hcg hbx (by decide)
  have n3 : fb ≠ bx := blk_ne hcf hbx (by decide)
  have n4 : g ≠ tb := blk_ne hcg h.thenB (by decide)
  have n5 : fb ≠ tb := blk_ne hcf h.thenB (by decide)
  have n6 := own_ne h.writes hbx (by decide)
  have n7 := own_ne h.writes h.thenB (by decide)
  have hK : Keeps None' w0 W' := (h.keeps.trans' k1 (fun i hi e => by have := h.old.2; rw [show i = bx from e] at hi; omega)).trans' k2 (fun i hi e => by rw [show i = tb from e] at hi; omega)
  have hrow := own_keep (own_keep h.row k1 (fun b hb e => by cases hb; exact n2 e)) k2 (fun b hb e => by cases hb; exact n4 e)
  have hfree := own_keep (own_keep h.free k1 (fun b hb e => by cases hb; exact n3 e)) k2 (fun b hb e => by cases hb; exact n5 e)
  have hwr := own_keep (own_keep h.writes k1 (fun b hb e => n6 b hb e)) k2 (fun b hb e => n7 b hb e)
  have hblk := heap_setCell_same _ _ 4 _ _ (.slice (some ⟨fb, needTo l l.length, none⟩) (idxMany l) (idxMany l)) (k1.blk h.thenB (fun e => n1 e))
  rw [← hst] at hblk
  have hl1 : 1 ≤ l.length := List.length_pos_iff.2 hf.some
  have hi1 : 0 < idxMany l := by unfold idxMany; omega
  have hneed : needOf l = idxMany l + needTo l l.length := rfl
  refine ⟨hK, ⟨_, _, ⟨hblk, ?_, ?_, next_ok hc hf hn hx hg⟩⟩, hwr, Nat.le_trans h.size (Nat.le_trans k1.size k2.size)⟩
  · obtain ⟨gf, cf2, cur2, he, hb2, hc2, hmax, hs2, ht2⟩ := own_block hfree (by omega)
    injection he with he _ _
    injection he with he
    injection he with he
    subst he
    have hpg := rowTo_pages (fb := fb) (free := free) (cs := cur2) (hp.keep hK (spares_none _)) hn hb2 (fun i x hxi => by
      have h1 : (ints free)[i]? = some (.int .i64 (x : Int)) := by simp [ints, hxi]
      rw [← ht2, List.getElem?_take] at h1
      split at h1
      · simpa using h1
      · cases h1)
    have := rplaced_of_own (r := rowTo r l fb l.length) (by rw [rowTo_length]; exact hrow) hpg (fun e => by rw [← List.length_eq_zero_iff, given_length] at e; omega)
    rw [hp.1] at this
    exact this
  · exact ri_free hfree _ _ (by omega) hi1
theorem Dsk.sync_writes (D : Dsk) : D.sync.2.writes.length ≤ D.writes.length := by
  unfold Dsk.sync
  split
  · exact Nat.le_refl _
  · split
    · rw [Dsk.fails_writes]; exact Nat.le_refl _
    · simp
theorem Dsk.all_writes (l : List (Nat × List UInt8)) : ∀ D : Dsk, (D.all l).2.writes.length ≤ D.writes.length + l.length := by
  induction l with
  | nil => intro D; exact D.sync_writes
  | cons x l ih =>
    intro D
    have h1 := D.write_writes x.1 x.2
    simp only [Dsk.all, List.length_cons]
    split
    · have := ih (D.write x.1 x.2).2; omega
    · dsimp only; omega
/-- building a write, and a slice of writes, kept shut -/
def buildWr (xs : Array (Nat × Value)) : Sem Value := Instr.build 110 xs
theorem buildWr_eq (xs : Array (Nat × Value)) : Instr.build 110 xs = buildWr xs := rfl
def sliceWr (n : Nat) (xs : Array (Nat × Value)) : Sem Value := Instr.buildSlice 99 n xs
theorem sliceWr_eq (n : Nat) (xs : Array (Nat × Value)) : Instr.buildSlice 99 n xs = sliceWr n xs := rfl
theorem run_buildWr (w : World) (i : Int) (p : List UInt8) (hp : p.length = 64) : (buildWr #[(0, .int .i64 i), (1, .agg (bvs p))]).run Tryz.prog w = .ok (.agg (#[.int .i64 i] ++ bvs p)) w := run_build_write w i (bvs p) (by simpa using hp)
theorem run_sliceWr1 (w : World) (i : Int) (p : List UInt8) (hp : p.length = 64) : (sliceWr 1 #[(0, .agg (#[.int .i64 i] ++ bvs p))]).run Tryz.prog w = .ok (.slice (some ⟨w.heap.size, 0, none⟩) 1 1) (w.alloc (.cells (#[.int .i64 i] ++ bvs p) 110)) :=
  run_buildSlice_one (P := Tryz.prog) w 99 110 65 _ _ Tryz.underlying99 info_write (zero_write w) (by simp [zeros]) (by simp [hp]) (by omega) (by omega)
/-- one write in a block of its own -/
theorem own_write1 {w : World} {g : Nat} {i : Nat} {p : List UInt8} (hp : p.length = 64) (h : w.heap[g]? = some (.cells (#[.int .i64 (i : Int)] ++ bvs p) 110 (0, 0))) (base : Nat) (hb : base ≤ g) : w.ownsRow base 110 65 (.slice (some ⟨g, 0, none⟩) 1 1) [(i, p)].length (writeCells [(i, p)]) := by
  have hl : (writeCells [(i, p)]).length = 65 := by rw [writeCells_length _ (fun x hx => by simp at hx; rw [hx]; exact hp)]; rfl
  refine ⟨hl, .inr ⟨g, 1, _, rfl, hb, h, Nat.le_refl _, by unfold maxLen; omega, by simp [hp], ?_⟩⟩
  rw [List.take_of_length_le (by simp [hp])]
  simp [writeCells, bvs]
theorem spares_own {w : World} {base : Nat} {e : TypeId} {size : Nat} {v : Value} {n : Nat} {xs : List Value} (h : w.ownsRow base e size v n xs) (ht : e ≠ 3 ∧ e ≠ 121 ∧ e ≠ 119) : Spares (fun k => some k = v.ownBlock) w := fun b cs t fr hb hc => by
  obtain ⟨cs', hc'⟩ := own_type h hb.symm
  rw [hc'] at hc
  injection hc with hc
  injection hc with _ hc _
  subst hc; exact ht
end Go.Proofs.YtlbaagjbehdmgaaGreat
