/- Add. -/
import Derived.BigRegion
import Derived.Deep.QuietTactic
import Derived.BigQuiet
import Derived.Test.YtlbaagjbehdmgaaGreatM23
namespace Go.Proofs.YtlbaagjbehdmgaaGreat
open Go.RowKit

def placedWith (cur : St) (e : Ent) : List Placed := withRow cur.entries (posOf (entsOf cur) e.house e.no) (hitL (entsOf cur) (posOf (entsOf cur) e.house e.no) e.house e.no) ⟨e, []⟩
/-- Store.Add -/
def addP (D : Dsk) (cur : St) (former : Option St) (falls : Int) (e : Ent) : Int × Dsk × St × Option St :=
  if D.falls ≠ falls then (91, D, cur, former) else
  if e.valid = false ∨ (cur.houses : Int) ≤ e.house then (90, D, cur, former) else
  if (entsOf cur)[posOf (entsOf cur) e.house e.no]? = some e then (0, D, cur, former) else
  if (e.no : Int) ≠ (((haveOf cur)[e.house.toNat]?).getD 0 : Nat) then (90, D, cur, former) else
  changeP D cur former (placedWith cur e)
/-- the entries of a state are in order, and of its houses -/
structure St.good (S : St) : Prop where
  sorted : Sorted (entsOf S)
  houses : ∀ p ∈ S.entries, p.e.house < S.houses

theorem hitL_lt {l : List Ent} {pos : Nat} {h n : Int} (e : hitL l pos h n = true) : pos < l.length := by
  unfold hitL at e
  cases hq : l[pos]? with
  | none => rw [hq] at e; cases e
  | some p => exact (List.getElem?_eq_some_iff.1 hq).1
theorem with_fit {cur : St} (hok : cur.ok) (hl : cur.entries.length ≤ 600) (e : Ent) (hv : e.valid = true) : Fit (placedWith cur e) := by
  have hp := posOf_le (entsOf cur) e.house e.no
  have hle : (entsOf cur).length = cur.entries.length := by simp [entsOf]
  have hlt := fun h => hitL_lt (l := entsOf cur) (pos := posOf (entsOf cur) e.house e.no) (h := e.house) (n := e.no) h
  unfold placedWith
  generalize posOf (entsOf cur) e.house e.no = pos at *
  generalize hitL (entsOf cur) pos e.house e.no = hit at *
  have hlen := withRow_length cur.entries pos hit (⟨e, []⟩ : Placed) (by omega)
  have hmem : ∀ p ∈ withRow cur.entries pos hit (⟨e, []⟩ : Placed), p ∈ cur.entries ∨ p = ⟨e, []⟩ := by
    intro p h
    unfold withRow at h
    split at h
    · exact List.mem_or_eq_of_mem_set h
    · rcases List.mem_append.1 h with h | h
      · exact .inl (List.mem_of_mem_take h)
      · rcases List.mem_cons.1 h with h | h
        · exact .inr h
        · exact .inl (List.mem_of_mem_drop h)
  refine ⟨?_, ?_, ?_⟩
  · intro h
    rw [h] at hlen
    unfold withRow at h
    split at h
    · rename_i hh
      rw [if_pos hh] at hlen
      have := hlt hh
      simp at hlen
      omega
    · simp at h
  · rw [hlen]; split <;> omega
  · intro p h
    rcases hmem p h with h | h
    · obtain ⟨a, _, b, c⟩ := hok.each p h
      exact ⟨a, b, c⟩
    · subst h
      exact ⟨hv, Nat.zero_le _, fun x hx => by cases hx⟩
theorem withRow_map {α β : Type} (f : α → β) (l : List α) (pos : Nat) (hit : Bool) (x : α) : (withRow l pos hit x).map f = withRow (l.map f) pos hit (f x) := by
  unfold withRow
  split
  · simp
  · simp
/-- the values of the pages behind the coming of an entry -/
theorem with_pages {w : World} {r : List (Ent × Value)} {l : List Placed} (h : PagesAt w r l) (pos : Nat) (hit : Bool) (e : Ent) : PagesAt w (withRow r pos hit (e, .slice none 0 0)) (withRow l pos hit ⟨e, []⟩) := by
  obtain ⟨hl, hp⟩ := h
  have h0 : RInts w (.slice none 0 0) [] := .inl ⟨rfl, rfl⟩
  unfold withRow
  split
  · refine ⟨by simp [hl], fun i x p hx hpp => ?_⟩
    have hi : i < r.length := by have := (List.getElem?_eq_some_iff.1 hx).1; simpa using this
    have hi' : i < l.length := by omega
    rw [List.getElem?_set] at hx hpp
    by_cases e1 : pos = i
    · subst e1
      rw [if_pos rfl, if_pos hi] at hx
      rw [if_pos rfl, if_pos hi'] at hpp
      simp only [Option.some.injEq] at hx hpp
      subst hx; subst hpp
      exact ⟨rfl, h0⟩
    · rw [if_neg e1] at hx hpp
      exact hp i x p hx hpp
  · refine ⟨by simp [hl], fun i x p hx hpp => ?_⟩
    by_cases c1 : i < (r.take pos).length
    · have c2 : i < (l.take pos).length := by simpa [hl] using c1
      have c3 : i < pos := by simp at c1; omega
      rw [List.getElem?_append_left c1, List.getElem?_take, if_pos c3] at hx
      rw [List.getElem?_append_left c2, List.getElem?_take, if_pos c3] at hpp
      exact hp i x p hx hpp
    · have c2 : ¬ i < (l.take pos).length := by simpa [hl] using c1
      have hll : (r.take pos).length = (l.take pos).length := by simp [hl]
      rw [List.getElem?_append_right (by omega), hll] at hx
      rw [List.getElem?_append_right (by omega)] at hpp
      cases hk : i - (l.take pos).length with
      | zero =>
        rw [hk] at hx hpp
        simp only [List.getElem?_cons_zero, Option.some.injEq] at hx hpp
        subst hx; subst hpp
        exact ⟨rfl, h0⟩
      | succ k =>
        rw [hk] at hx hpp
        simp only [List.getElem?_cons_succ, List.getElem?_drop] at hx hpp
        exact hp _ x p hx hpp
theorem pagesAt_ents {w : World} {r : List (Ent × Value)} {l : List Placed} (h : PagesAt w r l) : r.map (·.1) = l.map (·.e) := by
  apply List.ext_getElem?
  intro i
  rw [List.getElem?_map, List.getElem?_map]
  by_cases hi : i < r.length
  · have hi' : i < l.length := by rw [← h.1]; exact hi
    rw [List.getElem?_eq_getElem hi, List.getElem?_eq_getElem hi']
    have := (h.2 i r[i] l[i] (by simp [hi]) (by simp [hi'])).1
    simp [this]
  · rw [List.getElem?_eq_none (by omega), List.getElem?_eq_none (by rw [← h.1]; omega)]
    rfl
theorem pagesAt_one {w : World} {r : List (Ent × Value)} {l : List Placed} (h : PagesAt w r l) : OneEach r := fun x hx => by
  obtain ⟨i, hi⟩ := List.getElem?_of_mem hx
  have hil : i < l.length := by rw [← h.1]; exact (List.getElem?_eq_some_iff.1 hi).1
  obtain ⟨a, c, e⟩ := (h.2 i x l[i] hi (by simp [hil])).2.shape
  rw [e]; rfl

theorem find_any (b : Nat) (S : St) (h n : Int) (w : World) (hS : IsState w b S) (hs : Sorted (entsOf S)) :
    Calls Tryz.prog 73 #[.pointer (some ⟨b, 0, none⟩), .int .i64 h, .int .i64 n] w fun r w' => r = .returned (.tuple #[.int .i64 (posOf (entsOf S) h n : Nat), .bool (hitL (entsOf S) (posOf (entsOf S) h n) h n)]) ∧ Keeps None' w w' := by
  obtain ⟨ev, iv, hS⟩ := hS
  obtain ⟨r, hr, hpr⟩ := hS.entries.rowP
  have hpe : r.map (·.1) = entsOf S := pagesAt_ents hpr
  have hle : r.length = (entsOf S).length := by rw [← hpe, List.length_map]
  have := find_row b ev r h n (posOf (entsOf S) h n) w hS.c3 hr (by rw [hpr.1]; exact hS.ok.few) (by rw [hle]; exact posOf_le _ _ _) (fun m p hm => posOf_spec hs h n m p.1 (by rw [← hpe, List.getElem?_map, hm]; rfl))
  rw [hitE_map, hpe] at this
  exact this
def WithRet (w : World) (l : List Placed) (e : Ending) (w' : World) : Prop := ∃ v r, e = .returned v ∧ w'.ownsRow w.heap.size 121 4 v r.length (plCells r) ∧ PagesAt w r l ∧ Keeps None' w w'
theorem with_st (b : Nat) (S : St) (e : Ent) (w : World) (hS : IsState w b S) (hs : Sorted (entsOf S)) :
    Calls Tryz.prog 74 #[.pointer (some ⟨b, 0, none⟩), e.val] w fun r w' => WithRet w (placedWith S e) r w' := by
  obtain ⟨ev, iv, hS⟩ := hS
  obtain ⟨r, hr, hpr⟩ := hS.entries.rowP
  have hpe : r.map (·.1) = entsOf S := pagesAt_ents hpr
  have hle : r.length = (entsOf S).length := by rw [← hpe, List.length_map]
  have := with_any w b ev r e (posOf (entsOf S) e.house e.no) hS.c3 hr (pagesAt_one hpr) (by rw [hpr.1]; exact hS.ok.few) (by rw [hle]; exact posOf_le _ _ _) (fun m p hm => posOf_spec hs _ _ m p.1 (by rw [← hpe, List.getElem?_map, hm]; rfl))
  rw [hitE_map, hpe] at this
  refine this.mono ?_
  rintro x w' ⟨v, rfl, ho, hk⟩
  exact ⟨v, _, rfl, ho, with_pages hpr _ _ _, hk⟩

theorem SStep.same {w w' : World} {s d : Nat} {fp : Nat → Prop} {D : Dsk} {cur : St} {former : Option St} {falls : Int} (hs : IsStore w s d cur former falls) (hd : IsDisk w d D fp) (hk : Keeps None' w w') : SStep w s d fp w' D cur former falls fp := by
  refine ⟨?_, hd.keep hk (fun _ _ h => h), hk.mono (fun _ _ h => h.elim), fun _ h => .inl h⟩
  obtain ⟨cb, fv, h⟩ := hs
  exact ⟨cb, fv, h.keep hk (spares_none _) (fun h => h)⟩

set_option maxRecDepth 100000 in
set_option maxHeartbeats 2000000 in
theorem add_any (w : World) (s d : Nat) (D : Dsk) (fp : Nat → Prop) (cur : St) (former : Option St) (falls : Int) (e : Ent) (hs : IsStore w s d cur former falls) (hd : IsDisk w d D fp) (h2 : 2 ≤ D.now.length) (hr : D.writes.length ≤ 20000) (hg : cur.good) (hl : cur.entries.length ≤ 600) :
    Calls Tryz.prog 44 #[.pointer (some ⟨s, 0, none⟩), e.val] w fun r w' =>
      SRet w s d fp (.int .i64 (addP D cur former falls e).1) (addP D cur former falls e).2.1 (addP D cur former falls e).2.2.1 (addP D cur former falls e).2.2.2 falls r w' := by
  have HS := Lib.hid hs
  have HD := Lib.hid hd
  have HSAME := Lib.hid (fun w' (hk : Keeps None' w w') => SStep.same hs hd hk)
  have HDN := Lib.hid (fun W (hk : Keeps None' w W) => down_any W s d D fp cur former falls (by
    obtain ⟨cb, fv, h⟩ := hs
    exact ⟨cb, fv, h.keep hk (spares_none _) (fun h => h)⟩) (hd.keep hk (fun _ _ h => h)))
  have HCK := Lib.hid (fun W => check_any e W)
  clear hs hd
  have hK0 : Keeps None' w (w.alloc (.cells #[.int .i64 e.house, .int .i64 e.no, .string (str e.body)] 64)) := (Keeps.refl _ _).alloc _
  have hE0 := heap_alloc_new w (.cells #[.int .i64 e.house, .int .i64 e.no, .string (str e.body)] 64)
  by_cases hdn : D.falls = falls
  case neg =>
    have hb : (D.falls != falls) = true := by simpa using hdn
    have HP := Lib.hid (show addP D cur former falls e = (91, D, cur, former) by simp [addP, hdn])
    rw [hb] at HDN
    clear hdn hb
    obtain ⟨eh, en, eb⟩ := e
    unfold Ent.val
    dsimp only at *
    go_enter Tryz.func44, Tryz.ntmps44
    go_wp2_with (first | (refine (HDN.out _ hK0).mono ?_; rintro r W1 ⟨rfl, hk1⟩; have HK1 := Lib.hid (hK0.trans hk1); clear hk1))
    go_ret
    refine ⟨by rw [HP.out]; rfl, fp, ?_⟩
    rw [HP.out]
    exact HSAME.out _ HK1.out
  have hb : (D.falls != falls) = false := by simpa using hdn
  rw [hb] at HDN
  clear hb
  have hE := fun (W : World) (hk : Keeps None' (w.alloc (.cells #[.int .i64 e.house, .int .i64 e.no, .string (str e.body)] 64)) W) => hk.blk hE0 (fun h => h)
  have HE := Lib.hid hE
  obtain ⟨cb, fv, hS⟩ := HS.out
  have hslt := lt_of_block hS.blk
  obtain ⟨ev0, iv0, hC⟩ := hS.cur
  have hcblt := lt_of_block hC.blk
  have hcc := hC.c1
  have hcs := hS.c0
  have hh8 := hC.ok.houses
  have HCU := Lib.hid (show IsState w cb cur from ⟨ev0, iv0, hC⟩)
  have HSA := Lib.hid hS
  clear hS hC hE hE0
  have hvd : e.valid = true → (0 ≤ e.house ∧ e.house < 8) ∧ 0 ≤ e.no ∧ e.no < 64 := fun h => by simp [Ent.valid] at h; omega
  have HVD := Lib.hid hvd
  have HEN := Lib.hid (show ∃ q, q = e from ⟨e, rfl⟩)
  obtain ⟨eh, en, eb⟩ := e
  unfold Ent.val
  dsimp only at *
  clear hvd
  by_cases hv : (Ent.mk eh en eb).valid = true
  case neg =>
    have hv' : (Ent.mk eh en eb).valid = false := by simpa using hv
    have HP := Lib.hid (show addP D cur former falls ⟨eh, en, eb⟩ = (90, D, cur, former) by simp [addP, hdn, hv'])
    rw [chk_bad hv'] at HCK
    clear hv hv'
    go_enter Tryz.func44, Tryz.ntmps44
    go_upto_region 3 with (first | (refine (HDN.out _ hK0).mono ?_; rintro r W1 ⟨rfl, hk1⟩))
    have hb1 := HE.out W1 hk1
    have a0 : W1.drew.cell? ⟨w.heap.size, 0, none⟩ = some (.int .i64 eh) := cell_of_blk (w := W1.drew) hb1 0 rfl
    have a1 : W1.drew.cell? ⟨w.heap.size, 1, none⟩ = some (.int .i64 en) := cell_of_blk (w := W1.drew) hb1 1 rfl
    have a2 : W1.drew.cell? ⟨w.heap.size, 2, none⟩ = some (.string (str eb)) := cell_of_blk (w := W1.drew) hb1 2 rfl
    have HK1 := Lib.hid (hK0.trans hk1)
    have HC := Lib.hid (HCK.out W1.drew)
    clear hk1 hb1 hcc hcs hK0
    refine wp_region_held_drew (S := fun W => W.cell? ⟨w.heap.size, 0, none⟩ = some (.int .i64 eh) ∧ W.cell? ⟨w.heap.size, 1, none⟩ = some (.int .i64 en) ∧ W.cell? ⟨w.heap.size, 2, none⟩ = some (.string (str eb))) (by kernel_rfl) ⟨a0, a1, a2⟩ (fun hHeld => ?_)
    refine wpAnyH_take (i := 0) (v := .agg #[.int .i64 eh, .int .i64 en, .string (str eb)]) rfl (by kernel_rfl) (by kernel_rfl) (by kernel_rfl) (fun _ _ _ h => h) (Or.inl ⟨by rfl, fun W hS => by obtain ⟨s0, s1, s2⟩ := hS; go_simp⟩) (by assumption) ?_
    try simp only [List.getElem_toArray, List.getElem_cons_succ, List.getElem_cons_zero, Act.put, List.setIfInBounds_toArray, List.set_cons_zero, List.set_cons_succ]
    refine wpAnyH_ready (rs := [1]) (by kernel_rfl) (by simp) ?_
    refine AllReadyH.cons rfl (fun K hK => ?_) AllReadyH.nil
    go_simp
    refine HC.out.mono ?_
    rintro r W2 ⟨rfl, hk2⟩
    have g0 := (hk2.cell (p := ⟨w.heap.size, 0, none⟩) (block_lt_of_cell a0) (fun h => h)).trans a0
    have g1 := (hk2.cell (p := ⟨w.heap.size, 1, none⟩) (block_lt_of_cell a1) (fun h => h)).trans a1
    have g2 := (hk2.cell (p := ⟨w.heap.size, 2, none⟩) (block_lt_of_cell a2) (fun h => h)).trans a2
    refine hK.out _ _ ⟨g0, g1, g2⟩ (fun hHeld2 => ?_)
    clear hK K hHeld
    try simp only [List.getElem_toArray, List.getElem_cons_succ, List.getElem_cons_zero, Act.put, List.setIfInBounds_toArray, List.set_cons_zero, List.set_cons_succ]
    refine wpAnyH_take (i := 2) (v := .bool true) rfl (by kernel_rfl) (by kernel_rfl) (by kernel_rfl) (fun _ _ _ h => h) (Or.inl ⟨by rfl, fun W hS => by go_simp⟩) (by assumption) ?_
    try simp only [List.getElem_toArray, List.getElem_cons_succ, List.getElem_cons_zero, Act.put, List.setIfInBounds_toArray, List.set_cons_zero, List.set_cons_succ]
    refine wpAnyH_take (i := 3) (v := .bool true) rfl (by kernel_rfl) (by kernel_rfl) (by kernel_rfl) (fun _ _ _ h => h) (Or.inl ⟨by rfl, fun W hS => by go_simp⟩) (by assumption) ?_
    try simp only [List.getElem_toArray, List.getElem_cons_succ, List.getElem_cons_zero, Act.put, List.setIfInBounds_toArray, List.set_cons_zero, List.set_cons_succ]
    refine wpAnyH_take (i := 4) (v := undef) rfl (by kernel_rfl) (by kernel_rfl) (by kernel_rfl) (fun _ _ _ h => h) (Or.inr ⟨by rfl, rfl⟩) (by assumption) ?_
    try simp only [List.getElem_toArray, List.getElem_cons_succ, List.getElem_cons_zero, Act.put, List.setIfInBounds_toArray, List.set_cons_zero, List.set_cons_succ]
    refine wpAnyH_take (i := 5) (v := undef) rfl (by kernel_rfl) (by kernel_rfl) (by kernel_rfl) (fun _ _ _ h => h) (Or.inr ⟨by rfl, rfl⟩) (by assumption) ?_
    try simp only [List.getElem_toArray, List.getElem_cons_succ, List.getElem_cons_zero, Act.put, List.setIfInBounds_toArray, List.set_cons_zero, List.set_cons_succ]
    refine wpAnyH_take (i := 6) (v := undef) rfl (by kernel_rfl) (by kernel_rfl) (by kernel_rfl) (fun _ _ _ h => h) (Or.inr ⟨by rfl, rfl⟩) (by assumption) ?_
    try simp only [List.getElem_toArray, List.getElem_cons_succ, List.getElem_cons_zero, Act.put, List.setIfInBounds_toArray, List.set_cons_zero, List.set_cons_succ]
    refine wpAnyH_take (i := 7) (v := undef) rfl (by kernel_rfl) (by kernel_rfl) (by kernel_rfl) (fun _ _ _ h => h) (Or.inr ⟨by rfl, rfl⟩) (by assumption) ?_
    try simp only [List.getElem_toArray, List.getElem_cons_succ, List.getElem_cons_zero, Act.put, List.setIfInBounds_toArray, List.set_cons_zero, List.set_cons_succ]
    refine wpAnyH_take (i := 8) (v := undef) rfl (by kernel_rfl) (by kernel_rfl) (by kernel_rfl) (fun _ _ _ h => h) (Or.inr ⟨by rfl, rfl⟩) (by assumption) ?_
    try simp only [List.getElem_toArray, List.getElem_cons_succ, List.getElem_cons_zero, Act.put, List.setIfInBounds_toArray, List.set_cons_zero, List.set_cons_succ]
    refine wpAnyH_take (i := 9) (v := undef) rfl (by kernel_rfl) (by kernel_rfl) (by kernel_rfl) (fun _ _ _ h => h) (Or.inr ⟨by rfl, rfl⟩) (by assumption) ?_
    try simp only [List.getElem_toArray, List.getElem_cons_succ, List.getElem_cons_zero, Act.put, List.setIfInBounds_toArray, List.set_cons_zero, List.set_cons_succ]
    refine wpAnyH_take (i := 10) (v := undef) rfl (by kernel_rfl) (by kernel_rfl) (by kernel_rfl) (fun _ _ _ h => h) (Or.inr ⟨by rfl, rfl⟩) (by assumption) ?_
    try simp only [List.getElem_toArray, List.getElem_cons_succ, List.getElem_cons_zero, Act.put, List.setIfInBounds_toArray, List.set_cons_zero, List.set_cons_succ]
    refine wpAnyH_take (i := 11) (v := undef) rfl (by kernel_rfl) (by kernel_rfl) (by kernel_rfl) (fun _ _ _ h => h) (Or.inr ⟨by rfl, rfl⟩) (by assumption) ?_
    try simp only [List.getElem_toArray, List.getElem_cons_succ, List.getElem_cons_zero, Act.put, List.setIfInBounds_toArray, List.set_cons_zero, List.set_cons_succ]
    refine wpAnyH_take (i := 12) (v := undef) rfl (by kernel_rfl) (by kernel_rfl) (by kernel_rfl) (fun _ _ _ h => h) (Or.inr ⟨by rfl, rfl⟩) (by assumption) ?_
    try simp only [List.getElem_toArray, List.getElem_cons_succ, List.getElem_cons_zero, Act.put, List.setIfInBounds_toArray, List.set_cons_zero, List.set_cons_succ]
    refine wpAnyH_take (i := 13) (v := undef) rfl (by kernel_rfl) (by kernel_rfl) (by kernel_rfl) (fun _ _ _ h => h) (Or.inr ⟨by rfl, rfl⟩) (by assumption) ?_
    try simp only [List.getElem_toArray, List.getElem_cons_succ, List.getElem_cons_zero, Act.put, List.setIfInBounds_toArray, List.set_cons_zero, List.set_cons_succ]
    refine wpAnyH_take (i := 14) (v := .bool true) rfl (by kernel_rfl) (by kernel_rfl) (by kernel_rfl) (fun _ _ _ h => h) (Or.inl ⟨by rfl, fun W hS => by go_simp⟩) (by assumption) ?_
    try simp only [List.getElem_toArray, List.getElem_cons_succ, List.getElem_cons_zero, Act.put, List.setIfInBounds_toArray, List.set_cons_zero, List.set_cons_succ]
    refine wpAnyH_done (by kernel_rfl) ?_ _
    try simp only [Exit.then]
    go_wp2
    go_ret
    refine ⟨by rw [HP.out]; rfl, fp, ?_⟩
    rw [HP.out]
    exact HSAME.out _ (HK1.out.drew.trans hk2)
  rw [chk_ok hv] at HCK
  have hvd := HVD.out hv
  obtain ⟨n, rfl⟩ := Int.eq_ofNat_of_zero_le hvd.1.1
  have hS1 := fun (W : World) (hk : Keeps None' w W) => (hk.cell (p := ⟨s, 0, none⟩) hslt (fun h => h)).trans hcs
  have hC1 := fun (W : World) (hk : Keeps None' w W) => (hk.cell (p := ⟨cb, 1, none⟩) hcblt (fun h => h)).trans hcc
  have HS1 := Lib.hid hS1
  have HC1 := Lib.hid hC1
  clear hS1 hC1 hcs hcc
  by_cases hho : (cur.houses : Int) ≤ (n : Int)
  case pos =>
    have HP := Lib.hid (show addP D cur former falls ⟨(n : Int), en, eb⟩ = (90, D, cur, former) by simp [addP, hdn, hho])
    have hhb : decide ((cur.houses : Int) ≤ (n : Int)) = true := decide_eq_true hho
    clear hv
    go_enter Tryz.func44, Tryz.ntmps44
    go_upto_region 3 with (first | (refine (HDN.out _ hK0).mono ?_; rintro r W1 ⟨rfl, hk1⟩))
    have hb1 := HE.out W1 hk1
    have a0 : W1.drew.cell? ⟨w.heap.size, 0, none⟩ = some (.int .i64 (n : Int)) := cell_of_blk (w := W1.drew) hb1 0 rfl
    have a1 : W1.drew.cell? ⟨w.heap.size, 1, none⟩ = some (.int .i64 en) := cell_of_blk (w := W1.drew) hb1 1 rfl
    have a2 : W1.drew.cell? ⟨w.heap.size, 2, none⟩ = some (.string (str eb)) := cell_of_blk (w := W1.drew) hb1 2 rfl
    have a3 := HS1.out W1.drew (hK0.trans hk1).drew
    have a4 := HC1.out W1.drew (hK0.trans hk1).drew
    have HK1 := Lib.hid (hK0.trans hk1)
    have HC := Lib.hid (HCK.out W1.drew)
    clear hk1 hb1 hK0
    go_region_held3 (fun W => W.cell? ⟨w.heap.size, 0, none⟩ = some (.int .i64 (n : Int)) ∧ W.cell? ⟨w.heap.size, 1, none⟩ = some (.int .i64 en) ∧ W.cell? ⟨w.heap.size, 2, none⟩ = some (.string (str eb)) ∧ W.cell? ⟨s, 0, none⟩ = some (.pointer (some ⟨cb, 0, none⟩)) ∧ W.cell? ⟨cb, 1, none⟩ = some (.int .i64 (cur.houses : Int))) (first | exact ⟨a0, a1, a2, a3, a4⟩ | exact ⟨g0, g1, g2, g3, g4⟩) (first | (go_at_call 72; refine HC.out.mono ?_; rintro r W2 ⟨rfl, hk2⟩; have g0 := (hk2.cell (p := ⟨w.heap.size, 0, none⟩) (block_lt_of_cell a0) (fun h => h)).trans a0; have g1 := (hk2.cell (p := ⟨w.heap.size, 1, none⟩) (block_lt_of_cell a1) (fun h => h)).trans a1; have g2 := (hk2.cell (p := ⟨w.heap.size, 2, none⟩) (block_lt_of_cell a2) (fun h => h)).trans a2; have g3 := (hk2.cell (p := ⟨s, 0, none⟩) (block_lt_of_cell a3) (fun h => h)).trans a3; have g4 := (hk2.cell (p := ⟨cb, 1, none⟩) (block_lt_of_cell a4) (fun h => h)).trans a4))
    try simp only [Exit.then]
    go_wp2
    go_ret
    refine ⟨by rw [HP.out]; rfl, fp, ?_⟩
    rw [HP.out]
    exact HSAME.out _ (HK1.out.drew.trans hk2)
  have hhb : decide ((cur.houses : Int) ≤ (n : Int)) = false := decide_eq_false hho
  have hP : addP D cur former falls ⟨(n : Int), en, eb⟩ = (if (entsOf cur)[posOf (entsOf cur) (n : Int) en]? = some ⟨(n : Int), en, eb⟩ then (0, D, cur, former) else
      if (en : Int) ≠ (((haveOf cur)[(n : Int).toNat]?).getD 0 : Nat) then (90, D, cur, former) else changeP D cur former (placedWith cur ⟨(n : Int), en, eb⟩)) := by
    unfold addP
    rw [if_neg (fun h => h hdn), if_neg (fun h => h.elim (fun h => by rw [hv] at h; cases h) hho)]
  have HPE := Lib.hid hP
  have hrow : ∀ W, Keeps None' w W → (entsOf cur)[posOf (entsOf cur) (n : Int) en]? ≠ none → ∃ b off, True := fun _ _ _ => ⟨0, 0, trivial⟩
  have HFI := Lib.hid (fun W (hk : Keeps None' w W) => find_any cb cur (n : Int) en W (HCU.out.keep hk (spares_none _)) hg.sorted)
  have HHI := Lib.hid (fun W (hk : Keeps None' w W) => have_any cb cur W (HCU.out.keep hk (spares_none _)) hg.houses)
  have HWI := Lib.hid (fun W (hk : Keeps None' w W) => with_st cb cur ⟨(n : Int), en, eb⟩ W (HCU.out.keep hk (spares_none _)) hg.sorted)
  have HGS := Lib.hid hg
  clear hrow hg hP
  go_enter Tryz.func44, Tryz.ntmps44
  go_upto_region 3 with (first | (refine (HDN.out _ hK0).mono ?_; rintro r W1 ⟨rfl, hk1⟩))
  have hb1 := HE.out W1 hk1
  have a0 : W1.drew.cell? ⟨w.heap.size, 0, none⟩ = some (.int .i64 (n : Int)) := cell_of_blk (w := W1.drew) hb1 0 rfl
  have a1 : W1.drew.cell? ⟨w.heap.size, 1, none⟩ = some (.int .i64 en) := cell_of_blk (w := W1.drew) hb1 1 rfl
  have a2 : W1.drew.cell? ⟨w.heap.size, 2, none⟩ = some (.string (str eb)) := cell_of_blk (w := W1.drew) hb1 2 rfl
  have a3 := HS1.out W1.drew (hK0.trans hk1).drew
  have a4 := HC1.out W1.drew (hK0.trans hk1).drew
  have HK1 := Lib.hid (hK0.trans hk1)
  have HC := Lib.hid (HCK.out W1.drew)
  have HKE1 := Lib.hid hk1
  clear hk1 hb1 hK0
  go_region_held3 (fun W => W.cell? ⟨w.heap.size, 0, none⟩ = some (.int .i64 (n : Int)) ∧ W.cell? ⟨w.heap.size, 1, none⟩ = some (.int .i64 en) ∧ W.cell? ⟨w.heap.size, 2, none⟩ = some (.string (str eb)) ∧ W.cell? ⟨s, 0, none⟩ = some (.pointer (some ⟨cb, 0, none⟩)) ∧ W.cell? ⟨cb, 1, none⟩ = some (.int .i64 (cur.houses : Int))) (first | exact ⟨a0, a1, a2, a3, a4⟩ | exact ⟨g0, g1, g2, g3, g4⟩) (first | (go_at_call 72; refine HC.out.mono ?_; rintro r W2 ⟨rfl, hk2⟩; have g0 := (hk2.cell (p := ⟨w.heap.size, 0, none⟩) (block_lt_of_cell a0) (fun h => h)).trans a0; have g1 := (hk2.cell (p := ⟨w.heap.size, 1, none⟩) (block_lt_of_cell a1) (fun h => h)).trans a1; have g2 := (hk2.cell (p := ⟨w.heap.size, 2, none⟩) (block_lt_of_cell a2) (fun h => h)).trans a2; have g3 := (hk2.cell (p := ⟨s, 0, none⟩) (block_lt_of_cell a3) (fun h => h)).trans a3; have g4 := (hk2.cell (p := ⟨cb, 1, none⟩) (block_lt_of_cell a4) (fun h => h)).trans a4))
  try simp only [Exit.then]
  have HKE2 := Lib.hid (HKE1.out.drew.trans hk2)
  have HK2 := Lib.hid (HK1.out.drew.trans hk2)
  clear a0 a1 a2 a3 a4 g4 hk2 HCK HDN HC HK1 HKE1
  go_upto_region 5 with (first | fail)
  have d0 : W2.drew.cell? ⟨w.heap.size, 0, none⟩ = some (.int .i64 (n : Int)) := g0
  have d1 : W2.drew.cell? ⟨w.heap.size, 1, none⟩ = some (.int .i64 en) := g1
  have d3 : W2.drew.cell? ⟨s, 0, none⟩ = some (.pointer (some ⟨cb, 0, none⟩)) := g3
  have HFD := Lib.hid (HFI.out W2.drew HK2.out.drew)
  clear g0 g1 g2 g3 HFI
  go_region_held3 (fun W => W.cell? ⟨w.heap.size, 0, none⟩ = some (.int .i64 (n : Int)) ∧ W.cell? ⟨w.heap.size, 1, none⟩ = some (.int .i64 en) ∧ W.cell? ⟨s, 0, none⟩ = some (.pointer (some ⟨cb, 0, none⟩))) (first | exact ⟨d0, d1, d3⟩ | exact ⟨f0, f1, f3⟩) (first | (go_at_call 73; refine HFD.out.mono ?_; rintro r W3 ⟨rfl, hk3⟩; have f0 := (hk3.cell (p := ⟨w.heap.size, 0, none⟩) (block_lt_of_cell d0) (fun h => h)).trans d0; have f1 := (hk3.cell (p := ⟨w.heap.size, 1, none⟩) (block_lt_of_cell d1) (fun h => h)).trans d1; have f3 := (hk3.cell (p := ⟨s, 0, none⟩) (block_lt_of_cell d3) (fun h => h)).trans d3))
  all_goals try simp only [Exit.then]
  have HK3 := Lib.hid (HK2.out.drew.trans hk3)
  have HKE3 := Lib.hid (HKE2.out.drew.trans hk3)
  clear d0 d1 d3 f0 f1 f3 HFD hk3 HK2 HKE2
  by_cases hsame : (entsOf cur)[posOf (entsOf cur) (n : Int) en]? = some ⟨(n : Int), en, eb⟩
  case pos =>
    have HP := Lib.hid (show addP D cur former falls ⟨(n : Int), en, eb⟩ = (0, D, cur, former) by rw [HPE.out, if_pos hsame])
    have hhit : hitL (entsOf cur) (posOf (entsOf cur) (n : Int) en) (n : Int) en = true := by
      unfold hitL
      rw [hsame]
      simp [(cmpKey_eq _ _ _).2]
    rw [hhit]
    have hlt : posOf (entsOf cur) (n : Int) en < cur.entries.length := by have := (List.getElem?_eq_some_iff.1 hsame).1; simpa [entsOf] using this
    generalize posOf (entsOf cur) (n : Int) en = pos at *
    have hpe : (cur.entries[pos]).e = ⟨(n : Int), en, eb⟩ := by
      rw [entsOf, List.getElem?_map, List.getElem?_eq_getElem hlt] at hsame
      simpa using hsame
    obtain ⟨ev, iv, hCs⟩ := HCU.out.keep HK3.out (spares_none _)
    obtain ⟨ae, capE, rfl⟩ := hCs.entries.shape
    have c3 := hCs.c3
    obtain ⟨be, oe, pv, rfl, hblt, hcap, hpv, q0, q1, q2, q3⟩ := hCs.entries.get pos hlt
    rw [hpe] at q0 q1 q2
    have hb3 := HE.out W3 HKE3.out
    have a0 := cell_of_blk hb3 0 (v := .int .i64 (n : Int)) rfl
    have a1 := cell_of_blk hb3 1 (v := .int .i64 en) rfl
    have a2 := cell_of_blk hb3 2 (v := .string (str eb)) rfl
    have a3 := HS1.out W3 HK3.out
    have hq := fun W => run_eql_ent ⟨(n : Int), en, eb⟩ ⟨(n : Int), en, eb⟩ W
    rw [show decide (Ent.mk (n : Int) en eb = Ent.mk (n : Int) en eb) = true from decide_eq_true rfl] at hq
    have hpI : (pos : Int) < (cur.entries.length : Int) := by omega
    have HBK := Lib.hid HE
    clear hb3 hsame hhit hlt hpe hCs hpv HE hv HPE HHI HWI
    dsimp only at *
    go_wp2_with fail
    go_quiet (fail)
    go_wp2
    go_ret
    refine ⟨by rw [HP.out]; rfl, fp, ?_⟩
    rw [HP.out]
    exact HSAME.out _ (HK3.out.drewN _)
  have HPE2 := Lib.hid (show addP D cur former falls ⟨(n : Int), en, eb⟩ = (if (en : Int) ≠ (((haveOf cur)[(n : Int).toNat]?).getD 0 : Nat) then (90, D, cur, former) else changeP D cur former (placedWith cur ⟨(n : Int), en, eb⟩)) by rw [HPE.out, if_neg hsame])
  clear HPE
  by_cases hhit : hitL (entsOf cur) (posOf (entsOf cur) (n : Int) en) (n : Int) en = true
  case' pos =>
    rw [hhit]
    have hlt : posOf (entsOf cur) (n : Int) en < cur.entries.length := by have := hitL_lt hhit; simpa [entsOf] using this
    generalize posOf (entsOf cur) (n : Int) en = pos at *
    have hpe : ¬ (cur.entries[pos]).e = ⟨(n : Int), en, eb⟩ := by
      rw [entsOf, List.getElem?_map, List.getElem?_eq_getElem hlt] at hsame
      simpa using hsame
    obtain ⟨ev, iv, hCs⟩ := HCU.out.keep HK3.out (spares_none _)
    obtain ⟨ae, capE, rfl⟩ := hCs.entries.shape
    have c3 := hCs.c3
    obtain ⟨be, oe, pv, rfl, hblt, hcap, hpv, q0, q1, q2, q3⟩ := hCs.entries.get pos hlt
    have hb3 := HE.out W3 HKE3.out
    have a0 := cell_of_blk hb3 0 (v := .int .i64 (n : Int)) rfl
    have a1 := cell_of_blk hb3 1 (v := .int .i64 en) rfl
    have a2 := cell_of_blk hb3 2 (v := .string (str eb)) rfl
    have a3 := HS1.out W3 HK3.out
    have hq := fun W => run_eql_ent (cur.entries[pos]).e ⟨(n : Int), en, eb⟩ W
    rw [show decide ((cur.entries[pos]).e = Ent.mk (n : Int) en eb) = false from decide_eq_false hpe] at hq
    have hpI : (pos : Int) < (cur.entries.length : Int) := by omega
    clear hb3 hsame hhit hpe hCs hpv
    generalize cur.entries[pos] = pe at *
    dsimp only at *
    go_wp2_with fail
    go_quiet (fail)
    go_upto_region 8 with (first | fail)
    refine gen_wp (fun W => Keeps None' W3 W) ((Keeps.refl _ _).drewN _) ?_
    rintro W4 hk4
    clear hq a0 a1 a2 a3 q0 q1 q2 q3 c3
  case' neg =>
    have hhit' : hitL (entsOf cur) (posOf (entsOf cur) (n : Int) en) (n : Int) en = false := by simpa using hhit
    rw [hhit']
    generalize posOf (entsOf cur) (n : Int) en = pos at *
    clear hhit hhit' hsame
    go_wp2_with fail
    go_region
    go_upto_region 8 with (first | fail)
    refine gen_wp (fun W => Keeps None' W3 W) ((Keeps.refl _ _).drew) ?_
    rintro W4 hk4
  all_goals
    have HK4 := Lib.hid (HK3.out.trans hk4)
    have HKE4 := Lib.hid (HKE3.out.trans hk4)
    clear hk4
    have hb4 := HE.out W4 HKE4.out
    have a0 : W4.drew.cell? ⟨w.heap.size, 0, none⟩ = some (.int .i64 (n : Int)) := cell_of_blk (w := W4.drew) hb4 0 rfl
    have a1 : W4.drew.cell? ⟨w.heap.size, 1, none⟩ = some (.int .i64 en) := cell_of_blk (w := W4.drew) hb4 1 rfl
    have a3 := HS1.out W4.drew HK4.out.drew
    have HV := Lib.hid (HHI.out W4.drew HK4.out.drew)
    have hxlt : n < (haveOf cur).length := by rw [haveOf, haveTo_length]; omega
    obtain ⟨x, hx⟩ : ∃ x, (haveOf cur)[n]? = some x := ⟨_, List.getElem?_eq_getElem hxlt⟩
    have HX := Lib.hid hx
    have HPE3 := HPE2.out
    rw [Int.toNat_natCast, hx, Option.getD_some] at HPE3
    have HPF := Lib.hid HPE3
    have hnI : (n : Int) < (cur.houses : Int) := by omega
    clear hx hxlt HPE3 HPE2 hb4 HHI
    refine wp_region_held_drew (S := fun W => W.cell? ⟨w.heap.size, 0, none⟩ = some (.int .i64 (n : Int)) ∧ W.cell? ⟨w.heap.size, 1, none⟩ = some (.int .i64 en) ∧ W.cell? ⟨s, 0, none⟩ = some (.pointer (some ⟨cb, 0, none⟩))) (by kernel_rfl) ⟨a0, a1, a3⟩ (fun hHeld => ?_)
    refine wpAnyH_take (i := 0) (v := .pointer (some ⟨w.heap.size, 1, none⟩)) rfl (by kernel_rfl) (by kernel_rfl) (by kernel_rfl) (fun _ _ _ h => h) (Or.inl ⟨by rfl, fun W hS => by obtain ⟨s0, s1, s2⟩ := hS; go_simp⟩) (by assumption) ?_
    try simp only [List.getElem_toArray, List.getElem_cons_succ, List.getElem_cons_zero, Act.put, List.setIfInBounds_toArray, List.set_cons_zero, List.set_cons_succ]
    refine wpAnyH_take (i := 1) (v := .int .i64 en) rfl (by kernel_rfl) (by kernel_rfl) (by kernel_rfl) (fun _ _ _ h => h) (Or.inl ⟨by rfl, fun W hS => by obtain ⟨s0, s1, s2⟩ := hS; go_simp⟩) (by assumption) ?_
    try simp only [List.getElem_toArray, List.getElem_cons_succ, List.getElem_cons_zero, Act.put, List.setIfInBounds_toArray, List.set_cons_zero, List.set_cons_succ]
    refine wpAnyH_take (i := 2) (v := .pointer (some ⟨s, 0, none⟩)) rfl (by kernel_rfl) (by kernel_rfl) (by kernel_rfl) (fun _ _ _ h => h) (Or.inl ⟨by rfl, fun W hS => by obtain ⟨s0, s1, s2⟩ := hS; go_simp⟩) (by assumption) ?_
    try simp only [List.getElem_toArray, List.getElem_cons_succ, List.getElem_cons_zero, Act.put, List.setIfInBounds_toArray, List.set_cons_zero, List.set_cons_succ]
    refine wpAnyH_take (i := 3) (v := .pointer (some ⟨s, 0, none⟩)) rfl (by kernel_rfl) (by kernel_rfl) (by kernel_rfl) (fun _ _ _ h => h) (Or.inl ⟨by rfl, fun W hS => by obtain ⟨s0, s1, s2⟩ := hS; go_simp⟩) (by assumption) ?_
    try simp only [List.getElem_toArray, List.getElem_cons_succ, List.getElem_cons_zero, Act.put, List.setIfInBounds_toArray, List.set_cons_zero, List.set_cons_succ]
    refine wpAnyH_take (i := 4) (v := .pointer (some ⟨s, 0, none⟩)) rfl (by kernel_rfl) (by kernel_rfl) (by kernel_rfl) (fun _ _ _ h => h) (Or.inl ⟨by rfl, fun W hS => by obtain ⟨s0, s1, s2⟩ := hS; go_simp⟩) (by assumption) ?_
    try simp only [List.getElem_toArray, List.getElem_cons_succ, List.getElem_cons_zero, Act.put, List.setIfInBounds_toArray, List.set_cons_zero, List.set_cons_succ]
    refine wpAnyH_take (i := 5) (v := .pointer (some ⟨cb, 0, none⟩)) rfl (by kernel_rfl) (by kernel_rfl) (by kernel_rfl) (fun _ _ _ h => h) (Or.inl ⟨by rfl, fun W hS => by obtain ⟨s0, s1, s2⟩ := hS; go_simp⟩) (by assumption) ?_
    try simp only [List.getElem_toArray, List.getElem_cons_succ, List.getElem_cons_zero, Act.put, List.setIfInBounds_toArray, List.set_cons_zero, List.set_cons_succ]
    refine wpAnyH_take (i := 7) (v := .pointer (some ⟨w.heap.size, 0, none⟩)) rfl (by kernel_rfl) (by kernel_rfl) (by kernel_rfl) (fun _ _ _ h => h) (Or.inl ⟨by rfl, fun W hS => by obtain ⟨s0, s1, s2⟩ := hS; go_simp⟩) (by assumption) ?_
    try simp only [List.getElem_toArray, List.getElem_cons_succ, List.getElem_cons_zero, Act.put, List.setIfInBounds_toArray, List.set_cons_zero, List.set_cons_succ]
    refine wpAnyH_take (i := 8) (v := .int .i64 (n : Int)) rfl (by kernel_rfl) (by kernel_rfl) (by kernel_rfl) (fun _ _ _ h => h) (Or.inl ⟨by rfl, fun W hS => by obtain ⟨s0, s1, s2⟩ := hS; go_simp⟩) (by assumption) ?_
    try simp only [List.getElem_toArray, List.getElem_cons_succ, List.getElem_cons_zero, Act.put, List.setIfInBounds_toArray, List.set_cons_zero, List.set_cons_succ]
    refine wpAnyH_ready (rs := [6]) (by kernel_rfl) (by simp) ?_
    refine AllReadyH.cons rfl (fun K hK => ?_) AllReadyH.nil
    go_simp
    refine HV.out.mono ?_
    rintro r W5 ⟨rfl, hbv, hk5⟩
    have v5 : W5.cell? ⟨W4.heap.size, n, none⟩ = some (.int .i64 (x : Int)) := cell_of_blk hbv n (by have := HX.out; simp [ints, this])
    have f0 := (hk5.cell (p := ⟨w.heap.size, 0, none⟩) (block_lt_of_cell a0) (fun h => h)).trans a0
    have f1 := (hk5.cell (p := ⟨w.heap.size, 1, none⟩) (block_lt_of_cell a1) (fun h => h)).trans a1
    have f3 := (hk5.cell (p := ⟨s, 0, none⟩) (block_lt_of_cell a3) (fun h => h)).trans a3
    have HK5 := Lib.hid hk5
    clear hk5 hbv
    refine hK.out _ _ ⟨f0, f1, f3⟩ (fun hHeld2 => ?_)
    clear hK K hHeld
    try simp only [List.getElem_toArray, List.getElem_cons_succ, List.getElem_cons_zero, Act.put, List.setIfInBounds_toArray, List.set_cons_zero, List.set_cons_succ]
    refine wpAnyH_take (i := 9) (v := .pointer (some ⟨W4.heap.size, n, none⟩)) rfl (by kernel_rfl) (by kernel_rfl) (by kernel_rfl) (fun _ _ _ h => h) (Or.inl ⟨by rfl, fun W hS => by obtain ⟨s0, s1, s2⟩ := hS; go_simp⟩) (by assumption) ?_
    try simp only [List.getElem_toArray, List.getElem_cons_succ, List.getElem_cons_zero, Act.put, List.setIfInBounds_toArray, List.set_cons_zero, List.set_cons_succ]
    refine wpAnyH_ready (rs := [10]) (by kernel_rfl) (by simp) ?_
    refine AllReadyH.cons rfl (fun K hK => ?_) AllReadyH.nil
    go_simp
    refine hK.out _ _ ⟨f0, f1, f3⟩ (fun hHeld3 => ?_)
    clear hK K hHeld2
    try simp only [List.getElem_toArray, List.getElem_cons_succ, List.getElem_cons_zero, Act.put, List.setIfInBounds_toArray, List.set_cons_zero, List.set_cons_succ]
    refine wpAnyH_take (i := 11) (v := .bool (en != (x : Int))) rfl (by kernel_rfl) (by kernel_rfl) (by kernel_rfl) (fun _ _ _ h => h) (Or.inl ⟨by rfl, fun W hS => by obtain ⟨s0, s1, s2⟩ := hS; go_simp⟩) (by assumption) ?_
    try simp only [List.getElem_toArray, List.getElem_cons_succ, List.getElem_cons_zero, Act.put, List.setIfInBounds_toArray, List.set_cons_zero, List.set_cons_succ]
    refine wpAnyH_done (by kernel_rfl) ?_ _
    try simp only [Exit.then]
    have HK6 := Lib.hid (HK4.out.drew.trans HK5.out)
    have HKE6 := Lib.hid (HKE4.out.drew.trans HK5.out)
    clear f0 f1 f3 a0 a1 a3 v5 HV
    by_cases hno : en = (x : Int)
    case neg =>
      have HP := Lib.hid (HPF.out.trans (if_pos hno))
      have hnb : (en != (x : Int)) = true := by simpa using hno
      clear hno HPF
      go_wp2
      go_ret
      refine ⟨by rw [HP.out]; rfl, fp, ?_⟩
      rw [HP.out]
      exact HSAME.out _ HK6.out
    case pos =>
      have HP := Lib.hid (HPF.out.trans (if_neg (fun h => h hno)))
      have hnb : (en != (x : Int)) = false := by simpa using hno
      clear hno HPF
      go_upto_region 10 with (first | fail)
      have hb6 := HE.out W5 HKE6.out
      have a0 : W5.drew.cell? ⟨w.heap.size, 0, none⟩ = some (.int .i64 (n : Int)) := cell_of_blk (w := W5.drew) hb6 0 rfl
      have a1 : W5.drew.cell? ⟨w.heap.size, 1, none⟩ = some (.int .i64 en) := cell_of_blk (w := W5.drew) hb6 1 rfl
      have a2 : W5.drew.cell? ⟨w.heap.size, 2, none⟩ = some (.string (str eb)) := cell_of_blk (w := W5.drew) hb6 2 rfl
      have a3 := HS1.out W5.drew HK6.out.drew
      have HWW := Lib.hid (HWI.out W5.drew HK6.out.drew)
      have HCH := Lib.hid (fun (W : World) (k : Keeps None' W5.drew W) (v : Value) (r : List (Ent × Value)) (ho : W.ownsRow W5.drew.heap.size 121 4 v r.length (plCells r)) (hp : PagesAt W5.drew r (placedWith cur ⟨n, en, eb⟩)) =>
        change_any W5.drew W s d D fp cur former falls v r (placedWith cur ⟨n, en, eb⟩) k (by
          obtain ⟨cb, fv, h⟩ := HS.out
          exact ⟨cb, fv, h.keep HK6.out.drew (spares_none _) (fun h => h)⟩) (HD.out.keep HK6.out.drew (fun _ _ h => h)) h2 hr (by obtain ⟨_, _, h⟩ := HCU.out; exact with_fit h.ok hl _ hv) hp ho)
      clear hb6 HWI
      go_region_with (first | (go_at_call 74; refine HWW.out.mono ?_; rintro r W7 ⟨v7, r7, rfl, ho7, hp7, hk7⟩; have HC7 := Lib.hid (HCH.out W7 hk7 v7 r7 ho7 hp7); clear ho7 hp7 hk7) | (go_at_call 75; refine HC7.out.mono ?_; rintro r W8 ⟨rfl, fp8, hs8⟩; have HS8 := Lib.hid hs8; clear hs8))
      all_goals
        try simp only [Exit.then]
        go_wp2
        go_ret
        refine ⟨by rw [HP.out]; rfl, fp8, ?_⟩
        rw [HP.out]
        have hs8 := HS8.out
        have hkd := HK6.out.drew
        exact ⟨hs8.store, hs8.disk, (hkd.mono (fun _ _ h => h.elim)).trans hs8.keeps, fun k hk => (hs8.fresh k hk).imp id (fun h => Nat.le_trans hkd.size h)⟩
end Go.Proofs.YtlbaagjbehdmgaaGreat
