/- Finding an entry. The lists that a state gives. All entries; how many. Writing pages, and a sync. -/
import Derived.StillTailTactics
import Derived.BigRegion
import Derived.Test.YtlbaagjbehdmgaaGreatM13
namespace Go.Proofs.YtlbaagjbehdmgaaGreat
open Go.RowKit

def cmpI (a b : Int) : Int := if a < b then -1 else if b < a then 1 else 0
def orI (a b : Int) : Int := if a = 0 then b else a
/-- how an entry lies to a house and a number -/
def cmpKey (e : Ent) (h n : Int) : Int := orI (cmpI e.house h) (cmpI e.no n)

theorem isNaN_any (a : Int) (w : World) : Calls Tryz.prog 150 #[.int .i64 a] w fun e w' => e = .returned (.bool false) ∧ w = w' := by
  go_enter Tryz.func150, Tryz.ntmps150
  go_wp2
  go_ret
  exact ⟨rfl, rfl⟩

set_option maxHeartbeats 1000000 in
theorem compare_any (a b : Int) (w : World) : Calls Tryz.prog 113 #[.int .i64 a, .int .i64 b] w fun e w' => e = .returned (.int .i64 (cmpI a b)) ∧ w = w' := by
  by_cases h1 : a < b
  · have HR := Lib.hid (show cmpI a b = -1 by simp [cmpI, h1])
    go_enter Tryz.func113, Tryz.ntmps113
    go_wp2_with (first | (refine (isNaN_any _ _).mono ?_; rintro e w' ⟨rfl, rfl⟩))
    go_ret
    exact ⟨ret_int HR.out.symm, rfl⟩
  · by_cases h2 : b < a
    · have HR := Lib.hid (show cmpI a b = 1 by simp [cmpI, h1, h2])
      go_enter Tryz.func113, Tryz.ntmps113
      go_wp2_with (first | (refine (isNaN_any _ _).mono ?_; rintro e w' ⟨rfl, rfl⟩))
      go_ret
      exact ⟨ret_int HR.out.symm, rfl⟩
    · have HR := Lib.hid (show cmpI a b = 0 by simp [cmpI, h1, h2])
      go_enter Tryz.func113, Tryz.ntmps113
      go_wp2_with (first | (refine (isNaN_any _ _).mono ?_; rintro e w' ⟨rfl, rfl⟩))
      go_ret
      exact ⟨ret_int HR.out.symm, rfl⟩

set_option maxHeartbeats 1000000 in
theorem or_two (b : Nat) (x y : Int) (w : World) (h : w.heap[b]? = some (.cells #[.int .i64 x, .int .i64 y] 3 (0, 0))) :
    Calls Tryz.prog 112 #[.slice (some ⟨b, 0, none⟩) 2 2] w fun e w' => e = .returned (.int .i64 (orI x y)) ∧ w = w' := by
  have c0 := cell_of_blk h 0 (v := .int .i64 x) rfl
  have c1 := cell_of_blk h 1 (v := .int .i64 y) rfl
  clear h
  go_enter Tryz.func112, Tryz.ntmps112
  go_wp2
  go_loopw [8] (fun i v => v = w ∧ (i = .int .i64 0 ∨ i = .int .i64 1 ∧ x = 0 ∨ i = .int .i64 2 ∧ x = 0 ∧ y = 0)) (fun i _ => 2 - (intOf i).toNat)
  case atStart => exact ⟨rfl, .inl rfl⟩
  case round =>
    obtain ⟨rfl, rfl | ⟨rfl, rfl⟩ | ⟨rfl, rfl, rfl⟩⟩ := hrel
    · by_cases hx : x = 0
      · go_wp2
        go_roundw
        case rel => exact ⟨by first | rfl | trivial, .inr (.inl ⟨by first | rfl | trivial, hx⟩)⟩
        case measure => simp [intOf]
      · have HR := Lib.hid (show orI x y = x by simp [orI, hx])
        go_wp2
        go_ret
        exact ⟨ret_int HR.out.symm, rfl⟩
    · by_cases hy : y = 0
      · go_wp2
        go_roundw
        case rel => exact ⟨by first | rfl | trivial, .inr (.inr ⟨by first | rfl | trivial, by first | rfl | trivial, hy⟩)⟩
        case measure => simp [intOf]
      · have HR := Lib.hid (show orI 0 y = y by simp [orI])
        go_wp2
        go_ret
        exact ⟨ret_int HR.out.symm, rfl⟩
    · go_wp2
      go_ret
      exact ⟨rfl, rfl⟩

set_option maxRecDepth 100000 in
set_option maxHeartbeats 2000000 in
theorem findCmp_any (e : Ent) (pv : Value) (h n : Int) (w : World) :
    Calls Tryz.prog 111 #[placedVal e pv, .agg #[.int .i64 h, .int .i64 n]] w fun r w' => r = .returned (.int .i64 (cmpKey e h n)) ∧ Keeps None' w w' := by
  unfold placedVal
  have HR := Lib.hid (show cmpKey e h n = orI (cmpI e.house h) (cmpI e.no n) from rfl)
  go_enter Tryz.func111, Tryz.ntmps111
  go_wp2_with fail
  refine gen_wp (fun W => W.heap[w.heap.size]? = some (.cells #[.int .i64 e.house, .int .i64 e.no, .string (str e.body), pv] 121 (0, 0)) ∧ W.heap[w.heap.size + 1]? = some (.cells #[.int .i64 h, .int .i64 n] 123 (0, 0)) ∧ Keeps None' w W) ⟨heap_alloc2_old _ _ _, heap_alloc2_new _ _ _, ((Keeps.refl _ _).alloc _).alloc _⟩ ?_
  rintro W0 ⟨hz0, hz1, hk0⟩
  have a0 : W0.drew.cell? ⟨w.heap.size, 0, none⟩ = some (.int .i64 e.house) := cell_of_blk (w := W0.drew) hz0 0 rfl
  have a1 : W0.drew.cell? ⟨w.heap.size, 1, none⟩ = some (.int .i64 e.no) := cell_of_blk (w := W0.drew) hz0 1 rfl
  have b0 : W0.drew.cell? ⟨w.heap.size + 1, 0, none⟩ = some (.int .i64 h) := cell_of_blk (w := W0.drew) hz1 0 rfl
  have b1 : W0.drew.cell? ⟨w.heap.size + 1, 1, none⟩ = some (.int .i64 n) := cell_of_blk (w := W0.drew) hz1 1 rfl
  clear hz0 hz1
  have hcmp : ∀ x y W, Calls Tryz.prog 113 #[.int .i64 x, .int .i64 y] W fun e w' => e = .returned (.int .i64 (cmpI x y)) ∧ w' = W := fun x y W => (compare_any x y W).mono fun e w' h => ⟨h.1, h.2.symm⟩
  have HC := Lib.hid hcmp
  clear hcmp
  refine wp_region_still_tail 12 (by kernel_rfl) (by kernel_rfl) ?_
  simp only [List.take_succ_cons, List.take_zero, List.drop_succ_cons, List.drop_zero]
  iterate 5 still_step
  still_call (HC.out _ _ _)
  iterate 5 still_step
  still_call (HC.out _ _ _)
  refine wpStill_nil ?_
  change wpList _ _ _ _ _ W0.drew
  have hk1 := hk0.drew
  generalize W0.drew = W1 at *
  go_wp2_with (first | (refine (or_two W1.heap.size _ _ _ (heap_alloc_new _ _)).mono ?_; rintro e w' ⟨rfl, rfl⟩))
  go_ret
  exact ⟨ret_int HR.out.symm, hk1.alloc _⟩

/-- the search: as the library does it -/
structure BsAt (w : World) (bk : Nat) (h n : Int) (wr : World) : Prop where
  blk : wr.heap[bk]? = some (.cells #[.int .i64 h, .int .i64 n] 123 (0, 0))
  keeps : Keeps None' w wr

theorem RPlaced.get {w : World} {a : Option Addr} {cap : Nat} {l : List Placed} (h : RPlaced w (.slice a l.length cap) l) (i : Nat) (hi : i < l.length) :
    ∃ b off pv, a = some ⟨b, off, none⟩ ∧ b < w.heap.size ∧ l.length ≤ cap ∧ RInts w pv l[i].pages ∧ w.cell? ⟨b, off + i * 4, none⟩ = some (.int .i64 l[i].e.house) ∧ w.cell? ⟨b, off + i * 4 + 1, none⟩ = some (.int .i64 l[i].e.no) ∧
      w.cell? ⟨b, off + i * 4 + 2, none⟩ = some (.string (str l[i].e.body)) ∧ w.cell? ⟨b, off + i * 4 + 3, none⟩ = some pv := by
  rcases h with ⟨_, h⟩ | ⟨b, off, cap', cs, he, ⟨_, hc⟩, hb, hce⟩
  · rw [h] at hi; simp at hi
  · injection he with h1 h2 h3
    subst h1; subst h3
    obtain ⟨pv, hr, h0, h1, h2, h3⟩ := hce i l[i] (by simp [hi])
    exact ⟨b, off, pv, rfl, lt_of_block hb, hc, hr, cell_of_blk hb _ h0, cell_of_blk hb _ h1, cell_of_blk hb _ h2, cell_of_blk hb _ h3⟩
theorem RInts.get {w : World} {a : Option Addr} {cap : Nat} {l : List Nat} (h : RInts w (.slice a l.length cap) l) (i : Nat) (hi : i < l.length) :
    ∃ b off, a = some ⟨b, off, none⟩ ∧ b < w.heap.size ∧ l.length ≤ cap ∧ w.cell? ⟨b, off + i, none⟩ = some (.int .i64 l[i]) := by
  rcases h with ⟨_, h⟩ | ⟨b, off, cap', cs, he, ⟨_, hc⟩, hb, hce⟩
  · rw [h] at hi; simp at hi
  · injection he with h1 h2 h3
    subst h1; subst h3
    exact ⟨b, off, rfl, lt_of_block hb, hc, cell_of_blk hb _ (hce i l[i] (by simp [hi]))⟩

/-- the cells of entries with the values of their pages -/
def plCells (l : List (Ent × Value)) : List Value := (l.map fun x => [Value.int .i64 x.1.house, Value.int .i64 x.1.no, Value.string (str x.1.body), x.2]).flatten
theorem plCells_append (a b : List (Ent × Value)) : plCells (a ++ b) = plCells a ++ plCells b := by simp [plCells]
theorem plCells_length (l : List (Ent × Value)) : (plCells l).length = l.length * 4 := by
  induction l with
  | nil => rfl
  | cons x l ih =>
    rw [show plCells (x :: l) = [Value.int .i64 x.1.house, Value.int .i64 x.1.no, Value.string (str x.1.body), x.2] ++ plCells l from rfl, List.length_append, ih]
    simp only [List.length_cons, List.length_nil]; omega
theorem plCells_take (l : List (Ent × Value)) (i : Nat) (h : i ≤ l.length) : plCells (l.take i) = (plCells l).take (i * 4) := by
  have e : plCells l = plCells (l.take i) ++ plCells (l.drop i) := by rw [← plCells_append, List.take_append_drop]
  have hl : (plCells (l.take i)).length = i * 4 := by rw [plCells_length, List.length_take, Nat.min_eq_left h]
  rw [e, ← hl, List.take_left]
theorem plCells_drop (l : List (Ent × Value)) (i : Nat) (h : i ≤ l.length) : plCells (l.drop i) = (plCells l).drop (i * 4) := by
  have e : plCells l = plCells (l.take i) ++ plCells (l.drop i) := by rw [← plCells_append, List.take_append_drop]
  have hl : (plCells (l.take i)).length = i * 4 := by rw [plCells_length, List.length_take, Nat.min_eq_left h]
  rw [e, ← hl, List.drop_left]
theorem plCells_get (l : List (Ent × Value)) (i : Nat) (x : Ent × Value) (h : l[i]? = some x) :
    (plCells l)[i * 4]? = some (.int .i64 x.1.house) ∧ (plCells l)[i * 4 + 1]? = some (.int .i64 x.1.no) ∧ (plCells l)[i * 4 + 2]? = some (.string (str x.1.body)) ∧ (plCells l)[i * 4 + 3]? = some x.2 := by
  obtain ⟨hi, hx⟩ := List.getElem?_eq_some_iff.1 h
  have e : plCells l = plCells (l.take i) ++ ([Value.int .i64 x.1.house, Value.int .i64 x.1.no, Value.string (str x.1.body), x.2] ++ plCells (l.drop (i + 1))) := by
    conv => lhs; rw [← List.take_append_drop i l, plCells_append, List.drop_eq_getElem_cons hi, hx]
    rfl
  have hl : (plCells (l.take i)).length = i * 4 := by rw [plCells_length, List.length_take, Nat.min_eq_left (by omega)]
  rw [e]
  refine ⟨?_, ?_, ?_, ?_⟩ <;> rw [List.getElem?_append_right (by omega), hl]
  · rw [Nat.sub_self]; rfl
  · rw [show i * 4 + 1 - i * 4 = 1 by omega]; rfl
  · rw [show i * 4 + 2 - i * 4 = 2 by omega]; rfl
  · rw [show i * 4 + 3 - i * 4 = 3 by omega]; rfl

/-- v reads as entries with the values of their pages -/
def RowP (w : World) (v : Value) (l : List (Ent × Value)) : Prop :=
  (v = .slice none 0 0 ∧ l = []) ∨ ∃ b off cap, v = .slice (some ⟨b, off, none⟩) l.length cap ∧ b < w.heap.size ∧ l.length ≤ cap ∧ w.rangeAt b off (plCells l)
theorem RowP.keep {w w' : World} {v : Value} {l : List (Ent × Value)} (h : RowP w v l) (k : Keeps None' w w') : RowP w' v l := by
  rcases h with h | ⟨b, off, cap, hv, hb, hc, hr⟩
  · exact .inl h
  · exact .inr ⟨b, off, cap, hv, Nat.lt_of_lt_of_le hb k.size, hc, k.range hr (fun h => h)⟩
theorem RowP.shape {w : World} {v : Value} {l : List (Ent × Value)} (h : RowP w v l) : ∃ a cap, v = .slice a l.length cap := by
  rcases h with ⟨rfl, rfl⟩ | ⟨b, off, cap, rfl, _⟩
  · exact ⟨_, _, rfl⟩
  · exact ⟨_, _, rfl⟩
theorem RowP.get {w : World} {a : Option Addr} {cap : Nat} {l : List (Ent × Value)} (h : RowP w (.slice a l.length cap) l) (i : Nat) (hi : i < l.length) :
    ∃ b off, a = some ⟨b, off, none⟩ ∧ b < w.heap.size ∧ l.length ≤ cap ∧ w.cell? ⟨b, off + i * 4, none⟩ = some (.int .i64 l[i].1.house) ∧ w.cell? ⟨b, off + i * 4 + 1, none⟩ = some (.int .i64 l[i].1.no) ∧
      w.cell? ⟨b, off + i * 4 + 2, none⟩ = some (.string (str l[i].1.body)) ∧ w.cell? ⟨b, off + i * 4 + 3, none⟩ = some l[i].2 := by
  rcases h with ⟨_, h⟩ | ⟨b, off, cap', he, hb, hc, hr⟩
  · rw [h] at hi; simp at hi
  · injection he with h1 h2 h3
    subst h1; subst h3
    obtain ⟨g0, g1, g2, g3⟩ := plCells_get l i l[i] (by simp [hi])
    refine ⟨b, off, rfl, hb, hc, hr _ _ g0, ?_, ?_, ?_⟩
    · rw [Nat.add_assoc]; exact hr _ _ g1
    · rw [Nat.add_assoc]; exact hr _ _ g2
    · rw [Nat.add_assoc]; exact hr _ _ g3
/-- entries with pages, as entries with the values of their pages -/
def PagesAt (w : World) (r : List (Ent × Value)) (l : List Placed) : Prop := r.length = l.length ∧ ∀ (i : Nat) (x : Ent × Value) (p : Placed), r[i]? = some x → l[i]? = some p → x.1 = p.e ∧ RInts w x.2 p.pages
theorem RPlaced.rowP {w : World} {v : Value} {l : List Placed} (h : RPlaced w v l) : ∃ r, RowP w v r ∧ PagesAt w r l := by
  rcases h with ⟨rfl, rfl⟩ | ⟨b, off, cap, cs, rfl, ⟨hn, hc⟩, hb, hce⟩
  · exact ⟨[], .inl ⟨rfl, rfl⟩, rfl, fun i x p h => by simp at h⟩
  · have hex : ∀ i : Fin l.length, ∃ pv, RInts w pv l[i].pages ∧ cs[off + i * 4]? = some (.int .i64 l[i].e.house) ∧ cs[off + i * 4 + 1]? = some (.int .i64 l[i].e.no) ∧ cs[off + i * 4 + 2]? = some (.string (str l[i].e.body)) ∧ cs[off + i * 4 + 3]? = some pv := fun i => hce i l[i] (by simp)
    obtain ⟨f, hf⟩ := Classical.axiomOfChoice hex
    refine ⟨List.ofFn fun i => (l[i].e, f i), .inr ⟨b, off, cap, by simp, lt_of_block hb, by simpa using hc, fun j u hj => ?_⟩, by simp, fun i x p hx hp => ?_⟩
    · have hlj : j < l.length * 4 := by have := (List.getElem?_eq_some_iff.1 hj).1; rw [plCells_length] at this; simpa using this
      have hi : j / 4 < l.length := by omega
      have hr : (List.ofFn fun i : Fin l.length => (l[i].e, f i))[j / 4]? = some (l[j / 4].e, f ⟨j / 4, hi⟩) := by simp [hi]
      obtain ⟨g0, g1, g2, g3⟩ := plCells_get _ _ _ hr
      obtain ⟨_, c0, c1, c2, c3⟩ := hf ⟨j / 4, hi⟩
      have hj4 : j = j / 4 * 4 ∨ j = j / 4 * 4 + 1 ∨ j = j / 4 * 4 + 2 ∨ j = j / 4 * 4 + 3 := by omega
      refine cell_of_blk hb _ ?_
      rcases hj4 with e | e | e | e <;> rw [e] at hj ⊢
      · rw [g0] at hj; cases hj; exact c0
      · rw [g1] at hj; cases hj; rw [← Nat.add_assoc]; exact c1
      · rw [g2] at hj; cases hj; rw [← Nat.add_assoc]; exact c2
      · rw [g3] at hj; cases hj; rw [← Nat.add_assoc]; exact c3
    · obtain ⟨hi, hpe⟩ := List.getElem?_eq_some_iff.1 hp
      have hr : (List.ofFn fun i : Fin l.length => (l[i].e, f i))[i]? = some (l[i].e, f ⟨i, hi⟩) := by simp [hi]
      rw [hr] at hx; cases hx; subst hpe
      exact ⟨rfl, (hf ⟨i, hi⟩).1⟩
/-- is the entry there? -/
def hitE (l : List (Ent × Value)) (pos : Nat) (h n : Int) : Bool := match l[pos]? with | some p => cmpKey p.1 h n == 0 | none => false

set_option maxRecDepth 100000 in
set_option maxHeartbeats 4000000 in
theorem bsearch_any (v : Value) (l : List (Ent × Value)) (h n : Int) (pos : Nat) (w : World) (hr : RowP w v l) (hl : l.length ≤ 1024) (hp : pos ≤ l.length) (hs : ∀ (m : Nat) (p : Ent × Value), l[m]? = some p → (cmpKey p.1 h n < 0 ↔ m < pos)) :
    Calls Tryz.prog 110 #[v, .agg #[.int .i64 h, .int .i64 n], .func (.func 111) #[] #[]] w fun r w' =>
      r = .returned (.tuple #[.int .i64 pos, .bool (hitE l pos h n)]) ∧ Keeps None' w w' := by
  obtain ⟨a, cap, rfl⟩ := hr.shape
  have HS := Lib.hid hs
  clear hs
  go_enter Tryz.func110, Tryz.ntmps110
  go_wp2_with fail
  have h0 : BsAt w w.heap.size h n (w.alloc (.cells #[.int .i64 h, .int .i64 n] 123)) := ⟨heap_alloc_new _ _, (Keeps.refl _ _).alloc _⟩
  go_loopw [9, 10] (fun i j wr => ∃ i' j' : Nat, i' ≤ pos ∧ pos ≤ j' ∧ j' ≤ l.length ∧ i = .int .i64 i' ∧ j = .int .i64 j' ∧ BsAt w w.heap.size h n wr) (fun i j _ => (intOf j).toNat - (intOf i).toNat)
  case atStart => exact ⟨0, l.length, Nat.zero_le _, hp, Nat.le_refl _, rfl, rfl, h0⟩
  case round =>
    obtain ⟨i, j, hi, hj, hjl, rfl, rfl, hB⟩ := hrel
    clear h0
    by_cases hij : i < j
    · have hrr := hr.keep hB.keeps
      obtain ⟨m, hm⟩ : ∃ m, m = (i + j) / 2 := ⟨_, rfl⟩
      have hml : m < l.length := by omega
      obtain ⟨b, off, rfl, hblt, hcap, d0, d1, d2, d3⟩ := hrr.get m hml
      have hmI : ((i : Int) + (j : Int)) / 2 = (m : Int) := by omega
      have hms := HS.out m l[m] (by simp [hml])
      have HMS := Lib.hid hms
      have HB := Lib.hid hB
      clear hms hB hrr
      generalize l[m] = p at *
      have HMI := Lib.hid hmI
      have HM := Lib.hid hm
      clear hmI hm
      go_wp2_with fail
      rw [HMI.out]
      have e0 : wr.drew.cell? ⟨b, off + m * 4, none⟩ = some (.int .i64 p.1.house) := d0
      have e1 : wr.drew.cell? ⟨b, off + m * 4 + 1, none⟩ = some (.int .i64 p.1.no) := d1
      have e2 : wr.drew.cell? ⟨b, off + m * 4 + 2, none⟩ = some (.string (str p.1.body)) := d2
      have e3 : wr.drew.cell? ⟨b, off + m * 4 + 3, none⟩ = some p.2 := d3
      have k0 : wr.drew.cell? ⟨w.heap.size, 0, none⟩ = some (.int .i64 h) := cell_of_blk (w := wr.drew) HB.out.blk 0 rfl
      have k1 : wr.drew.cell? ⟨w.heap.size, 1, none⟩ = some (.int .i64 n) := cell_of_blk (w := wr.drew) HB.out.blk 1 rfl
      have hmi : (m : Int) < (l.length : Int) := by omega
      refine wp_region_still_tail 6 (by kernel_rfl) (by kernel_rfl) ?_
      simp only [List.take_succ_cons, List.take_zero, List.drop_succ_cons, List.drop_zero]
      iterate 6 still_step
      refine wpStill_nil ?_
      change wpList _ _ _ _ _ wr.drew
      have hcall : Calls Tryz.prog 111 #[.agg #[.int .i64 p.1.house, .int .i64 p.1.no, .string (str p.1.body), p.2], .agg #[.int .i64 h, .int .i64 n]] wr.drew fun r w' => r = .returned (.int .i64 (cmpKey p.1 h n)) ∧ Keeps None' wr.drew w' := findCmp_any p.1 p.2 h n wr.drew
      have HCA := Lib.hid hcall
      have hB2 : BsAt w w.heap.size h n wr.drew := ⟨HB.out.blk, HB.out.keeps.drew⟩
      have HB2 := Lib.hid hB2
      clear hcall hB2
      by_cases hlt : cmpKey p.1 h n < 0
      · have hmp := HMS.out.1 hlt
        go_wp2_with (first | (refine HCA.out.mono ?_; rintro r W1 ⟨rfl, hk1⟩))
        have hnext : BsAt w w.heap.size h n W1 := ⟨hk1.blk HB2.out.blk (fun h => h), HB2.out.keeps.trans hk1⟩
        go_roundw
        case rel => exact ⟨m + 1, j, by omega, by omega, by omega, by go_num, rfl, hnext⟩
        case measure => have := HM.out; simp [intOf]; omega
      · have hmp : ¬ m < pos := fun h => hlt (HMS.out.2 h)
        go_wp2_with (first | (refine HCA.out.mono ?_; rintro r W1 ⟨rfl, hk1⟩))
        have hnext : BsAt w w.heap.size h n W1 := ⟨hk1.blk HB2.out.blk (fun h => h), HB2.out.keeps.trans hk1⟩
        go_roundw
        case rel => exact ⟨i, m, by omega, by omega, by omega, rfl, rfl, hnext⟩
        case measure => have := HM.out; simp [intOf]; omega
    · obtain rfl : i = pos := by omega
      have hrr := hr.keep hB.keeps
      have HB := Lib.hid hB
      clear hB
      by_cases hin : i < l.length
      · obtain ⟨b, off, rfl, hblt, hcap, d0, d1, d2, d3⟩ := hrr.get i hin
        have hli : l[i]? = some l[i] := by simp [hin]
        have HLI := Lib.hid hli
        clear hli
        generalize l[i] = p at *
        have hii : (i : Int) < (l.length : Int) := by omega
        have HR := Lib.hid (show hitE l i h n = (cmpKey p.1 h n == 0) by rw [hitE, HLI.out])
        have hcall : Calls Tryz.prog 111 #[.agg #[.int .i64 p.1.house, .int .i64 p.1.no, .string (str p.1.body), p.2], .agg #[.int .i64 h, .int .i64 n]] wr.drew fun r w' => r = .returned (.int .i64 (cmpKey p.1 h n)) ∧ Keeps None' wr.drew w' := findCmp_any p.1 p.2 h n wr.drew
        have HCA := Lib.hid hcall
        have e0 : wr.drew.cell? ⟨b, off + i * 4, none⟩ = some (.int .i64 p.1.house) := d0
        have e1 : wr.drew.cell? ⟨b, off + i * 4 + 1, none⟩ = some (.int .i64 p.1.no) := d1
        have e2 : wr.drew.cell? ⟨b, off + i * 4 + 2, none⟩ = some (.string (str p.1.body)) := d2
        have e3 : wr.drew.cell? ⟨b, off + i * 4 + 3, none⟩ = some p.2 := d3
        have k0 : wr.drew.cell? ⟨w.heap.size, 0, none⟩ = some (.int .i64 h) := cell_of_blk (w := wr.drew) HB.out.blk 0 rfl
        have k1 : wr.drew.cell? ⟨w.heap.size, 1, none⟩ = some (.int .i64 n) := cell_of_blk (w := wr.drew) HB.out.blk 1 rfl
        clear hcall hrr d0 d1 d2 d3
        have hib : decide ((i : Int) < (l.length : Int)) = true := decide_eq_true hii
        go_wp2_with fail
        go_region_held3 (fun W => W.cell? ⟨b, off + i * 4, none⟩ = some (.int .i64 p.1.house) ∧ W.cell? ⟨b, off + i * 4 + 1, none⟩ = some (.int .i64 p.1.no) ∧ W.cell? ⟨b, off + i * 4 + 2, none⟩ = some (.string (str p.1.body)) ∧ W.cell? ⟨b, off + i * 4 + 3, none⟩ = some p.2 ∧ W.cell? ⟨w.heap.size, 0, none⟩ = some (.int .i64 h) ∧ W.cell? ⟨w.heap.size, 1, none⟩ = some (.int .i64 n)) (first | exact ⟨e0, e1, e2, e3, k0, k1⟩ | exact ⟨g0, g1, g2, g3, q0, q1⟩) (first | (go_at_call 111; refine HCA.out.mono ?_; rintro r W1 ⟨rfl, hk1⟩; have g0 := (hk1.cell (p := ⟨b, off + i * 4, none⟩) (block_lt_of_cell e0) (fun h => h)).trans e0; have g1 := (hk1.cell (p := ⟨b, off + i * 4 + 1, none⟩) (block_lt_of_cell e1) (fun h => h)).trans e1; have g2 := (hk1.cell (p := ⟨b, off + i * 4 + 2, none⟩) (block_lt_of_cell e2) (fun h => h)).trans e2; have g3 := (hk1.cell (p := ⟨b, off + i * 4 + 3, none⟩) (block_lt_of_cell e3) (fun h => h)).trans e3; have q0 := (hk1.cell (p := ⟨w.heap.size, 0, none⟩) (block_lt_of_cell k0) (fun h => h)).trans k0; have q1 := (hk1.cell (p := ⟨w.heap.size, 1, none⟩) (block_lt_of_cell k1) (fun h => h)).trans k1))
        all_goals
          go_wp2
          go_ret2
          exact ⟨by rw [HR.out]; rfl, HB.out.keeps.drew.trans hk1⟩
      · have hii : ¬ ((i : Int) < (l.length : Int)) := by omega
        have HR := Lib.hid (show hitE l i h n = false by rw [hitE, List.getElem?_eq_none (by omega)])
        clear hrr
        go_wp2_with fail
        have hib : decide ((i : Int) < (l.length : Int)) = false := by simp; omega
        go_region
        all_goals
          go_wp2
          go_ret2
          exact ⟨by rw [HR.out]; rfl, HB.out.keeps.drew⟩

set_option maxRecDepth 100000 in
set_option maxHeartbeats 2000000 in
theorem find_row (b : Nat) (ev : Value) (l : List (Ent × Value)) (h n : Int) (pos : Nat) (w : World) (c3 : w.cell? ⟨b, 3, none⟩ = some ev) (hr : RowP w ev l) (hl : l.length ≤ 1024) (hp : pos ≤ l.length) (hs : ∀ (m : Nat) (p : Ent × Value), l[m]? = some p → (cmpKey p.1 h n < 0 ↔ m < pos)) :
    Calls Tryz.prog 73 #[.pointer (some ⟨b, 0, none⟩), .int .i64 h, .int .i64 n] w fun r w' => r = .returned (.tuple #[.int .i64 pos, .bool (hitE l pos h n)]) ∧ Keeps None' w w' := by
  have HC := Lib.hid (bsearch_any ev l h n pos)
  have HSS := Lib.hid hs
  have HR := Lib.hid hr
  clear hs hr
  go_enter Tryz.func73, Tryz.ntmps73
  go_wp2_with (first | (refine (HC.out _ HR.out hl hp HSS.out).mono ?_; rintro r W1 ⟨rfl, hk1⟩))
  go_ret2
  exact ⟨rfl, hk1⟩
end Go.Proofs.YtlbaagjbehdmgaaGreat

namespace Go.Proofs.YtlbaagjbehdmgaaGreat
open Go.RowKit

def ints (l : List Nat) : List Value := l.map fun (x : Nat) => Value.int .i64 (x : Int)
/-- a new row -/
def FreshRow (w : World) (T : TypeId) (size n : Nat) (xs : List Value) (e : Ending) (w' : World) : Prop := ∃ v, e = .returned v ∧ w'.ownsRow w.heap.size T size v n xs ∧ Keeps None' w w'
theorem info_int3 : (Tryz.prog.info? 3).map (fun i => (i.zero, i.size, i.bytes)) = some (some (.int .i64 0), 1, 8) := by kernel_rfl
theorem ints_one (l : List Nat) : ∀ u ∈ ints l, u.oneCell' = true := fun u hu => by
  obtain ⟨x, _, rfl⟩ := List.mem_map.1 hu
  rfl
theorem ints_length (l : List Nat) : (ints l).length = l.length := by simp [ints]
/-- the cells of a slice that reads as numbers -/
theorem RInts.cells {w : World} {v : Value} {l : List Nat} (h : RInts w v l) (hn : l ≠ []) : ∃ b off cap, v = .slice (some ⟨b, off, none⟩) l.length cap ∧ b < w.heap.size ∧ l.length ≤ cap ∧ w.rangeAt b off (ints l) := by
  rcases h with ⟨_, h⟩ | ⟨b, off, cap, cs, rfl, ⟨_, hc⟩, hb, hce⟩
  · exact absurd h hn
  · refine ⟨b, off, cap, rfl, lt_of_block hb, hc, fun j u hu => ?_⟩
    simp only [ints, List.getElem?_map, Option.map_eq_some_iff] at hu
    obtain ⟨x, hx, rfl⟩ := hu
    exact cell_of_blk hb _ (hce j x hx)

set_option maxRecDepth 100000 in
set_option maxHeartbeats 1000000 in
theorem cloneI_any (v : Value) (l : List Nat) (w : World) (hr : RInts w v l) (hl : l.length ≤ 1048576) :
    Calls Tryz.prog 147 #[v] w fun e w' => FreshRow w 3 1 l.length (ints l) e w' := by
  by_cases hn : l = []
  · subst hn
    rcases hr with ⟨rfl, _⟩ | ⟨_, _, _, _, _, ⟨h, _⟩, _⟩
    · have hq : ∀ W : World, (binOp .eql 47 (.slice none 0 0) (.slice none 0 0)).run Tryz.prog W = .ok (.bool true) W := fun W => Lib.run_eql_slice_nil W _ _ none 0 0 0 0 Tryz.underlying47
      go_enter Tryz.func147, Tryz.ntmps147
      go_wp2
      go_ret
      exact ⟨_, rfl, World.ownsRow_nil w w.heap.size 3 1, Keeps.refl _ _⟩
    · exact absurd rfl h
  · obtain ⟨b, off, cap, rfl, hb, hc, hrange⟩ := hr.cells hn
    have hq : ∀ W : World, (binOp .eql 47 (.slice (some ⟨b, off, none⟩) l.length cap) (.slice none 0 0)).run Tryz.prog W = .ok (.bool false) W := fun W => Lib.run_eql_slice_nil W _ _ (some ⟨b, off, none⟩) l.length cap 0 0 Tryz.underlying47
    obtain ⟨i0, hi, hz0, hz1, hz2⟩ := info_parts info_int3
    have HR := Lib.hid hrange
    clear hrange hr
    go_enter Tryz.func147, Tryz.ntmps147
    go_wp2_with (at_builtin; refine list_append_own rfl _ _ _ rfl w.heap.size 3 i0 (.int .i64 0) 1 8 Tryz.underlying47 hi hz0 hz1 hz2 rfl (by decide) _ _ _ rfl (World.ownsRow_made w #[] 0 (Nat.le_refl _) (Nat.zero_le _) rfl) ⟨b, off, none⟩ l.length cap (ints l) rfl ?qc1 ?qc2 (ints_one l) ?qc4 ?qc5 ?qc6 ?_)
    case qc1 => rw [ints_length]; omega
    case qc2 =>
      intro j u hj
      rw [Addr.add_lit]
      exact Lib.cell?_alloc_some _ (HR.out j u hj)
    case qc4 => unfold maxLen; omega
    case qc5 => omega
    case qc6 => simp
    intro v' w1 hown hgrow hfr
    go_wp2
    go_ret
    refine ⟨v', rfl, by simpa using hown, ((Keeps.refl None' w).alloc _).trans' (grownBy_keeps hgrow) (fun i hi e => ?_)⟩
    simp [Value.ownBlock] at e
    omega

/-- the pages that the index and the first k entries have -/
def usesTo (S : St) (k : Nat) : List Nat := S.index ++ ((S.entries.take k).map (·.pages)).flatten
def usesOf (S : St) : List Nat := usesTo S S.entries.length
theorem usesTo_succ (S : St) (k : Nat) (p : Placed) (h : S.entries[k]? = some p) : usesTo S (k + 1) = usesTo S k ++ p.pages := by
  have hlt : k < S.entries.length := (List.getElem?_eq_some_iff.1 h).1
  have hp : S.entries[k] = p := (List.getElem?_eq_some_iff.1 h).2
  simp [usesTo, List.take_succ_eq_append_getElem hlt, hp]
theorem usesTo_le (S : St) (h : S.ok) : ∀ k, k ≤ S.entries.length → (usesTo S k).length ≤ 1024 + k * 1024 := by
  intro k
  induction k with
  | zero => intro _; have := h.index; simp [usesTo]; exact this
  | succ k ih =>
    intro hk
    have hlt : k < S.entries.length := hk
    rw [usesTo_succ S k S.entries[k] (by simp [hlt]), List.length_append]
    have := ih (by omega)
    have h2 := (h.each _ (List.getElem_mem hlt)).2.2.1
    omega

structure UsesAt (w : World) (S : St) (k : Nat) (v : Value) (wr : World) : Prop where
  own : wr.ownsRow w.heap.size 3 1 v (usesTo S k).length (ints (usesTo S k))
  keeps : Keeps None' w wr

set_option maxRecDepth 100000 in
set_option maxHeartbeats 2000000 in
theorem uses_any (b : Nat) (S : St) (w : World) (h : IsState w b S) :
    Calls Tryz.prog 105 #[.pointer (some ⟨b, 0, none⟩)] w fun e w' => FreshRow w 3 1 (usesOf S).length (ints (usesOf S)) e w' := by
  obtain ⟨ev, iv, h⟩ := h
  have hlt := lt_of_block h.blk
  have c4 := h.c4
  obtain ⟨ae, capE, rfl⟩ := h.entries.shape
  have hfew := h.ok.few
  have hcl := cloneI_any iv S.index w h.index (by have := h.ok.index; omega)
  have HC := Lib.hid hcl
  have H := Lib.hid h
  clear h hcl
  go_enter Tryz.func105, Tryz.ntmps105
  go_wp2_with (first | (refine HC.out.mono ?_; rintro r W1 ⟨v1, rfl, hown, hk1⟩; have c3 := (H.out.keep hk1 (spares_none _)).c3))
  have h0 : UsesAt w S 0 v1 W1 := ⟨by simpa [usesTo] using hown, hk1⟩
  clear hown hk1
  go_loopw [3, 16] (fun v i wr => ∃ k : Nat, k ≤ S.entries.length ∧ i = .int .i64 k ∧ UsesAt w S k v wr) (fun _ i _ => S.entries.length - (intOf i).toNat)
  case atStart => exact ⟨0, Nat.zero_le _, rfl, h0⟩
  case round =>
    obtain ⟨k, hk, rfl, hA⟩ := hrel
    clear h0
    by_cases hkl : k < S.entries.length
    · have hS := H.out.keep hA.keeps (spares_none _)
      obtain ⟨be, oe, pv, rfl, hblt, hcap, hpv, d0, d1, d2, d3⟩ := hS.entries.get k hkl
      have hle := usesTo_le S H.out.ok k hk
      have hqe := H.out.ok.each _ (List.getElem_mem hkl)
      have hsu := usesTo_succ S k S.entries[k] (by simp [hkl])
      generalize S.entries[k] = p at *
      obtain ⟨bq, oq, capq, rfl, hbq, hcq, hrq⟩ := hpv.cells hqe.2.1
      obtain ⟨i0, hi, hz0, hz1, hz2⟩ := info_parts info_int3
      have hpl := hqe.2.2.1
      have hkI : (k : Int) < (S.entries.length : Int) := by omega
      have HA := Lib.hid hA
      have HRQ := Lib.hid hrq
      have HSU := Lib.hid hsu
      have hws : w.heap.size ≤ wr.heap.size := hA.keeps.size
      clear hA hrq hsu hpv hS hqe
      go_wp2_with (at_builtin; refine list_append_own rfl _ _ _ rfl w.heap.size 3 i0 (.int .i64 0) 1 8 Tryz.underlying47 hi hz0 hz1 hz2 rfl (by decide) _ _ _ rfl (own_keep HA.out.own ((Keeps.refl None' wr).alloc _) (fun _ _ h => h)) ⟨bq, oq, none⟩ p.pages.length capq (ints p.pages) rfl ?qc1 ?qc2 (ints_one _) ?qc4 ?qc5 ?qc6 ?_)
      case qc1 => rw [ints_length]; omega
      case qc2 =>
        intro j u hj
        rw [Addr.add_lit]
        exact Lib.cell?_alloc_some _ (HRQ.out j u hj)
      case qc4 => unfold maxLen; omega
      case qc5 => omega
      case qc6 => simp; omega
      intro v' w2 hown hgrow hfr
      have hnext : UsesAt w S (k + 1) v' w2 := by
        refine ⟨?_, (HA.out.keeps.alloc _).trans' (grownBy_keeps hgrow) (fun i hi e => ?_)⟩
        · rw [HSU.out, List.length_append, show ∀ a b, ints (a ++ b) = ints a ++ ints b from fun a b => by simp [ints]]
          exact hown
        · have := (HA.out.own.lt i e.symm).1
          omega
      clear hown hgrow hfr HA
      go_wp2
      go_roundw
      case rel => exact ⟨k + 1, by omega, by go_num, hnext⟩
      case measure => simp [intOf]; omega
    · obtain rfl : k = S.entries.length := by omega
      have HA := Lib.hid hA
      clear hA
      go_wp2
      go_ret
      exact ⟨_, rfl, HA.out.own, HA.out.keeps⟩
end Go.Proofs.YtlbaagjbehdmgaaGreat

namespace Go.Proofs.YtlbaagjbehdmgaaGreat
open Go.RowKit

def entCells (l : List Ent) : List Value := (l.map fun e => [Value.int .i64 e.house, Value.int .i64 e.no, Value.string (str e.body)]).flatten
theorem entCells_append (a b : List Ent) : entCells (a ++ b) = entCells a ++ entCells b := by simp [entCells]
theorem entCells_one (e : Ent) : ∀ u ∈ [Value.int .i64 e.house, Value.int .i64 e.no, Value.string (str e.body)], u.oneCell' = true := fun u hu => by
  simp at hu
  rcases hu with rfl | rfl | rfl <;> rfl
theorem info_ent3 : (Tryz.prog.info? 64).map (fun i => (i.zero, i.size, i.bytes)) = some (some (.agg #[.int .i64 0, .int .i64 0, .string ⟨#[]⟩]), 3, 32) := by kernel_rfl
def entsOf (S : St) : List Ent := S.entries.map (·.e)

structure AllAt (w : World) (S : St) (k : Nat) (v : Value) (wr : World) : Prop where
  own : wr.ownsRow w.heap.size 64 3 v k (entCells ((entsOf S).take k))
  keeps : Keeps None' w wr

set_option maxRecDepth 100000 in
set_option maxHeartbeats 2000000 in
theorem all_any (b : Nat) (S : St) (w : World) (h : IsState w b S) :
    Calls Tryz.prog 36 #[.pointer (some ⟨b, 0, none⟩)] w fun e w' => FreshRow w 64 3 S.entries.length (entCells (entsOf S)) e w' := by
  obtain ⟨ev, iv, h⟩ := h
  have hlt := lt_of_block h.blk
  have c3 := h.c3
  obtain ⟨ae, capE, rfl⟩ := h.entries.shape
  have hfew := h.ok.few
  have H := Lib.hid h
  clear h
  have h0 : AllAt w S 0 (.slice none 0 0) w := ⟨by simpa [entCells] using World.ownsRow_nil w w.heap.size 64 3, Keeps.refl _ _⟩
  go_enter Tryz.func36, Tryz.ntmps36
  go_wp2
  go_loopw [2, 10] (fun v i wr => ∃ k : Nat, k ≤ S.entries.length ∧ i = .int .i64 k ∧ AllAt w S k v wr) (fun _ i _ => S.entries.length - (intOf i).toNat)
  case atStart => exact ⟨0, Nat.zero_le _, rfl, h0⟩
  case round =>
    obtain ⟨k, hk, rfl, hA⟩ := hrel
    clear h0
    by_cases hkl : k < S.entries.length
    · have hS := H.out.keep hA.keeps (spares_none _)
      obtain ⟨be, oe, pv, rfl, hblt, hcap, hpv, d0, d1, d2, d3⟩ := hS.entries.get k hkl
      obtain ⟨ap, capp, rfl⟩ := hpv.shape
      have hek : (entsOf S).take (k + 1) = (entsOf S).take k ++ [S.entries[k].e] := by
        have : (entsOf S)[k]'(by simpa [entsOf] using hkl) = S.entries[k].e := by simp [entsOf]
        rw [List.take_succ_eq_append_getElem (by simpa [entsOf] using hkl), this]
      generalize S.entries[k] = p at *
      obtain ⟨i0, hi, hz0, hz1, hz2⟩ := info_parts info_ent3
      have hkI : (k : Int) < (S.entries.length : Int) := by omega
      have HA := Lib.hid hA
      have HEK := Lib.hid hek
      have hws : w.heap.size ≤ wr.heap.size := hA.keeps.size
      clear hA hek hpv hS
      go_wp2_with (at_builtin; refine list_append_own rfl _ _ _ rfl w.heap.size 64 i0 _ 3 32 Tryz.underlying44 hi hz0 hz1 hz2 rfl (by decide) _ _ _ rfl (own_keep HA.out.own (((Keeps.refl None' wr).alloc _).alloc _) (fun _ _ h => h)) ⟨wr.heap.size + 1, 0, none⟩ 1 1 [.int .i64 p.e.house, .int .i64 p.e.no, .string (str p.e.body)] rfl ?qc1 ?qc2 (entCells_one _) ?qc4 ?qc5 ?qc6 ?_)
      case qc1 => rfl
      case qc2 =>
        intro j u hj
        rw [Addr.add_lit, Nat.zero_add]
        exact cell_of_blk (heap_alloc2_new wr _ _) j (by simpa using hj)
      case qc4 => unfold maxLen; omega
      case qc5 => omega
      case qc6 => simp; omega
      intro v' w2 hown hgrow hfr
      have hnext : AllAt w S (k + 1) v' w2 := by
        refine ⟨?_, ((HA.out.keeps.alloc _).alloc _).trans' (grownBy_keeps hgrow) (fun i hi e => ?_)⟩
        · rw [HEK.out, entCells_append]
          simpa [entCells] using hown
        · have := (HA.out.own.lt i e.symm).1
          omega
      clear hown hgrow hfr HA
      go_wp2
      go_roundw
      case rel => exact ⟨k + 1, by omega, by go_num, hnext⟩
      case measure => simp [intOf]; omega
    · obtain rfl : k = S.entries.length := by omega
      have hown := hA.own
      rw [List.take_of_length_le (by simp [entsOf])] at hown
      have HO := Lib.hid hown
      have HA := Lib.hid hA
      clear hA hown
      go_wp2
      go_ret
      exact ⟨_, rfl, HO.out, HA.out.keeps⟩

/-- how many entries each house has, among the first k -/
def haveTo (S : St) (k : Nat) : List Nat := (List.range S.houses).map fun (h : Nat) => ((entsOf S).take k).countP fun e => e.house == (h : Int)
def haveOf (S : St) : List Nat := haveTo S S.entries.length

theorem haveTo_zero (S : St) : ints (haveTo S 0) = List.replicate S.houses (.int .i64 0) := by
  apply List.ext_getElem
  · simp [ints, haveTo]
  · intro i h1 h2
    simp [ints, haveTo]
theorem haveTo_length (S : St) (k : Nat) : (haveTo S k).length = S.houses := by simp [haveTo]
theorem haveTo_le (S : St) (k i x : Nat) (h : (haveTo S k)[i]? = some x) : x ≤ k := by
  simp [haveTo] at h
  obtain ⟨a, _, rfl⟩ := h
  exact Nat.le_trans List.countP_le_length (by rw [List.length_take]; omega)
theorem haveTo_succ (S : St) (k : Nat) (p : Placed) (hp : S.entries[k]? = some p) (n : Nat) (hn : p.e.house = (n : Int)) (x : Nat) (hx : (haveTo S k)[n]? = some x) : haveTo S (k + 1) = (haveTo S k).set n (x + 1) := by
  have hlt : k < (entsOf S).length := by have := (List.getElem?_eq_some_iff.1 hp).1; simpa [entsOf] using this
  have hpe : (entsOf S)[k] = p.e := by have := (List.getElem?_eq_some_iff.1 hp).2; simp [entsOf, this]
  have hnl : n < S.houses := by have := (List.getElem?_eq_some_iff.1 hx).1; simpa [haveTo] using this
  have hxe : ((entsOf S).take k).countP (fun e => e.house == (n : Int)) = x := by simpa [haveTo, hnl] using hx
  apply List.ext_getElem
  · simp [haveTo]
  · intro i h1 h2
    rw [List.getElem_set]
    have hi : i < S.houses := by simpa [haveTo] using h1
    simp only [haveTo, List.getElem_map, List.getElem_range, List.take_succ_eq_append_getElem hlt, List.countP_append, hpe, List.countP_singleton]
    by_cases h : n = i
    · subst h
      simp [hn, hxe]
    · rw [if_neg h]
      have : ¬ (p.e.house = (i : Int)) := by omega
      simp [this]
theorem made_ints (n : Nat) : madeCells #[.int .i64 0] n = (List.replicate n (Value.int .i64 0)).toArray := by
  apply Array.ext
  · simp [size_madeCells]
  · intro i h1 h2
    simp [madeCells, Nat.mod_one]
theorem run_mkInts (n : Nat) (h2 : n ≤ 1024) (w : World) :
    (Instr.makeSlice 47 (.int .i64 n) (.int .i64 n)).run Tryz.prog w = .ok (.slice (some ⟨w.heap.size, 0, none⟩) n n) (w.alloc (.cells (List.replicate n (Value.int .i64 0)).toArray 3)) := by
  obtain ⟨i0, hi, hz1, hz2, hz3⟩ := info_parts info_int3
  have := run_make (P := Tryz.prog) w 47 3 i0 _ Tryz.underlying47 hi hz1 .i64 .i64 n n (by omega) (by omega) (by rw [hz3]; omega) (by omega)
  rw [this, hz2]
  simp only [Int.toNat_natCast, Nat.mul_one, Value.cells, made_ints]

structure HaveAt (w : World) (S : St) (k : Nat) (wr : World) : Prop where
  blk : wr.heap[w.heap.size]? = some (.cells (ints (haveTo S k)).toArray 3 (0, 0))
  keeps : Keeps None' w wr

set_option maxRecDepth 100000 in
set_option maxHeartbeats 2000000 in
theorem have_any (b : Nat) (S : St) (w : World) (h : IsState w b S) (hh : ∀ p ∈ S.entries, p.e.house < S.houses) :
    Calls Tryz.prog 42 #[.pointer (some ⟨b, 0, none⟩)] w fun e w' => e = .returned (.slice (some ⟨w.heap.size, 0, none⟩) S.houses S.houses) ∧ w'.heap[w.heap.size]? = some (.cells (ints (haveOf S)).toArray 3 (0, 0)) ∧ Keeps None' w w' := by
  obtain ⟨ev, iv, h⟩ := h
  have hlt := lt_of_block h.blk
  have c3 := h.c3
  have c1 := h.c1
  obtain ⟨ae, capE, rfl⟩ := h.entries.shape
  have hfew := h.ok.few
  have hho := h.ok.houses
  have hh1 := h.ok.houses1
  have HH := Lib.hid hh
  have H := Lib.hid h
  clear h hh
  have hmk := run_mkInts S.houses (by omega) w
  rw [← haveTo_zero] at hmk
  have h0 : HaveAt w S 0 (w.alloc (.cells (ints (haveTo S 0)).toArray 3)) := ⟨heap_alloc_new _ _, (Keeps.refl None' w).alloc _⟩
  have c3' := (H.out.keep h0.keeps (spares_none _)).c3
  generalize w.alloc (.cells (ints (haveTo S 0)).toArray 3) = W0 at *
  go_enter Tryz.func42, Tryz.ntmps42
  go_wp2_with fail
  go_loopw [16] (fun i wr => ∃ k : Nat, k ≤ S.entries.length ∧ i = .int .i64 k ∧ HaveAt w S k wr) (fun i _ => S.entries.length - (intOf i).toNat)
  case atStart => exact ⟨0, Nat.zero_le _, rfl, h0⟩
  case round =>
    obtain ⟨k, hk, rfl, hA⟩ := hrel
    clear h0
    by_cases hkl : k < S.entries.length
    · have hS := H.out.keep hA.keeps (spares_none _)
      obtain ⟨be, oe, pv, rfl, hblt, hcap, hpv, d0, d1, d2, d3⟩ := hS.entries.get k hkl
      obtain ⟨ap, capp, rfl⟩ := hpv.shape
      have hpe : S.entries[k]? = some S.entries[k] := by simp [hkl]
      have hhs := HH.out _ (List.getElem_mem hkl)
      have hval := (H.out.ok.each _ (List.getElem_mem hkl)).1
      generalize S.entries[k] = p at *
      have hge : 0 ≤ p.e.house := by simp [Ent.valid] at hval; omega
      obtain ⟨n, hn⟩ := Int.eq_ofNat_of_zero_le hge
      have hnl : n < S.houses := by omega
      have hxl : n < (haveTo S k).length := by rw [haveTo_length]; exact hnl
      have hx : (haveTo S k)[n]? = some (haveTo S k)[n] := List.getElem?_eq_getElem hxl
      have hx2 := haveTo_le S k n _ hx
      have hsu := haveTo_succ S k p hpe n hn _ hx
      generalize (haveTo S k)[n] = x at *
      have hcell := cell_of_blk hA.blk n (v := .int .i64 (x : Int)) (by simp [ints, hx])
      have hfr := free_of_blk hA.blk n
      have hkI : (k : Int) < (S.entries.length : Int) := by omega
      have hnI : (n : Int) < (S.houses : Int) := by omega
      have hcell2 : (wr.alloc (.cells #[.int .i64 (n : Int), .int .i64 p.e.no, .string (str p.e.body), .slice ap p.pages.length capp] 121)).cell? ⟨w.heap.size, n, none⟩ = some (.int .i64 (x : Int)) := Lib.cell?_alloc_some _ hcell
      have hfr2 : (wr.alloc (.cells #[.int .i64 (n : Int), .int .i64 p.e.no, .string (str p.e.body), .slice ap p.pages.length capp] 121)).frozen? ⟨w.heap.size, n, none⟩ = false := (((Keeps.refl None' wr).alloc _).frozen (p := ⟨w.heap.size, n, none⟩) (lt_of_block hA.blk) (fun h => h)).trans hfr
      have hnext : HaveAt w S (k + 1) ((wr.alloc (.cells #[.int .i64 (n : Int), .int .i64 p.e.no, .string (str p.e.body), .slice ap p.pages.length capp] 121)).setCell ⟨w.heap.size, n, none⟩ (.int .i64 ((x : Int) + 1))) := by
        refine ⟨?_, (hA.keeps.alloc _).setCell _ _ (fun h => absurd h (Nat.lt_irrefl _))⟩
        rw [heap_setCell_same _ _ _ _ _ _ (((Keeps.refl None' wr).alloc _).blk hA.blk (fun h => h)), hsu]
        simp [ints, List.map_set]
      have HN := Lib.hid hnext
      rw [hn] at d0
      have HPN := Lib.hid hn
      clear hnext hsu hx hpe hA hpv hS hval hn hge hhs
      go_wp2
      go_roundw
      case rel => exact ⟨k + 1, by omega, by go_num, HN.out⟩
      case measure => simp [intOf]; omega
    · obtain rfl : k = S.entries.length := by omega
      have HA := Lib.hid hA
      clear hA
      go_wp2
      go_ret
      exact ⟨rfl, HA.out.blk, HA.out.keeps⟩
end Go.Proofs.YtlbaagjbehdmgaaGreat

namespace Go.Proofs.YtlbaagjbehdmgaaGreat
open Go.RowKit

/-- Disk.all -/
def Dsk.all (D : Dsk) : List (Nat × List UInt8) → Int × Dsk
  | [] => D.sync
  | x :: r => if (D.write x.1 x.2).1 = 0 then (D.write x.1 x.2).2.all r else ((D.write x.1 x.2).1, (D.write x.1 x.2).2)

/-- what disks are made of is not what states are made of -/
theorem IsDisk.spares {w : World} {d : Nat} {D : Dsk} {fp : Nat → Prop} (h : IsDisk w d D fp) : Spares fp w := by
  obtain ⟨sv, nv, wv, h, rfl⟩ := h
  intro b cs t fr hS hb
  rcases hS with e | e | e | e
  · rw [show b = d from e, h.blk] at hb
    injection hb with hb
    injection hb with _ hb _
    subst hb; decide
  · obtain ⟨cs', hc⟩ := own_type h.safe (b := b) e.symm
    rw [hc] at hb
    injection hb with hb
    injection hb with _ hb _
    subst hb; decide
  · obtain ⟨cs', hc⟩ := own_type h.now (b := b) e.symm
    rw [hc] at hb
    injection hb with hb
    injection hb with _ hb _
    subst hb; decide
  · obtain ⟨cs', hc⟩ := own_type h.writes (b := b) e.symm
    rw [hc] at hb
    injection hb with hb
    injection hb with _ hb _
    subst hb; decide

theorem Dsk.fails_writes (D : Dsk) : D.fails.2.writes = D.writes := by
  unfold Dsk.fails
  split
  · rfl
  · split <;> rfl
theorem Dsk.write_writes (D : Dsk) (i : Int) (s : List UInt8) : (D.write i s).2.writes.length ≤ D.writes.length + 1 := by
  unfold Dsk.write
  split
  · simp
  · split
    · rw [Dsk.fails_writes]; simp [Dsk.put]
    · simp

structure AllWAt (w : World) (d : Nat) (fp : Nat → Prop) (D : Dsk) (l : List (Nat × List UInt8)) (k : Nat) (wr : World) : Prop where
  step : ∃ Dk fpk, DStep w d fp wr Dk fpk ∧ D.all l = Dk.all (l.drop k) ∧ Dk.writes.length ≤ D.writes.length + k

theorem own_zero {w : World} {base : Nat} {e : TypeId} {size : Nat} {v : Value} {n : Nat} {xs : List Value} (h : w.ownsRow base e size v n xs) : w.ownsRow 0 e size v n xs := by
  obtain ⟨h1, h2⟩ := h
  refine ⟨h1, ?_⟩
  rcases h2 with h2 | ⟨g, cap, cur, hv, hg, r⟩
  · exact .inl h2
  · exact .inr ⟨g, cap, cur, hv, Nat.zero_le _, r⟩

set_option maxRecDepth 100000 in
set_option maxHeartbeats 2000000 in
theorem allW_any (w : World) (d : Nat) (D : Dsk) (fp : Nat → Prop) (v : Value) (l : List (Nat × List UInt8)) (base : Nat) (h : IsDisk w d D fp) (hown : w.ownsRow base 110 65 v l.length (writeCells l)) (hv : ∀ b, v.ownBlock = some b → ¬ fp b) (h64 : ∀ x ∈ l, x.2.length = 64) (hl : l.length ≤ 10000) (hr : D.writes.length ≤ 50000) :
    Calls Tryz.prog 97 #[.pointer (some ⟨d, 0, none⟩), v] w fun e w' => DRet w d fp (.int .i64 (D.all l).1) (D.all l).2 e w' := by
  have hown := own_zero hown
  obtain ⟨a, cap, rfl⟩ : ∃ a cap, v = .slice a l.length cap := by
    rcases hown.2 with ⟨rfl, hn⟩ | ⟨g, cap, cur, rfl, _⟩
    · exact ⟨none, 0, by rw [hn]⟩
    · exact ⟨_, _, rfl⟩
  have h0 : AllWAt w d fp D l 0 w := ⟨D, fp, DStep.refl h, rfl, Nat.le_refl _⟩
  have HO := Lib.hid hown
  have HV := Lib.hid hv
  have H64 := Lib.hid h64
  clear hown hv h h64
  go_enter Tryz.func97, Tryz.ntmps97
  go_wp2_with fail
  go_loopw [10] (fun i wr => ∃ k : Nat, k ≤ l.length ∧ i = .int .i64 k ∧ AllWAt w d fp D l k wr) (fun i _ => l.length - (intOf i).toNat)
  case atStart => exact ⟨0, Nat.zero_le _, rfl, h0⟩
  case round =>
    obtain ⟨k, hk, rfl, hA⟩ := hrel
    clear h0
    obtain ⟨Dk, fpk, hS, hall, hwl⟩ := hA.step
    have HS := Lib.hid hS
    have HALL := Lib.hid hall
    clear hA hS hall
    by_cases hkl : k < l.length
    · have hownr := own_keep HO.out HS.out.keeps (fun b hb => HV.out b hb)
      obtain ⟨g, rfl⟩ : ∃ g, a = some ⟨g, 0, none⟩ := by
        rcases hownr.2 with ⟨_, hn⟩ | ⟨g, cap', cur, he, _⟩
        · omega
        · injection he with he _ _
          exact ⟨g, he⟩
      have hrange : wr.rangeAt g (k * 65) (.int .i64 (l[k].1 : Int) :: l[k].2.map bv) := write_range hownr H64.out k hkl
      have h64k := H64.out _ (List.getElem_mem hkl)
      have hdr : l.drop k = l[k] :: l.drop (k + 1) := by simp
      generalize l[k] = x at *
      obtain ⟨at_, p⟩ := x
      dsimp only at hrange h64k
      have hap : (Value.int .i64 (at_ : Int) :: p.map bv).length = 65 := by simp [h64k]
      have hin : (Tryz.prog.info? 110).map (·.size) = some (Value.int .i64 (at_ : Int) :: p.map bv).length := by rw [hap]; exact info_write
      have HDR := Lib.hid hdr
      have hkI : (k : Int) < (l.length : Int) := by omega
      clear hdr hownr
      go_wp2_with (first | (refine wpList_load_mid rfl _ _ rfl g (k * 65) rfl _ _ hrange Tryz.underlying110 rfl hin ?_) | (refine wpList_store_mid rfl _ _ _ rfl wr.heap.size 0 (Value.int .i64 (at_ : Int) :: p.map bv).toArray rfl rfl (there_of_blk (heap_alloc_new _ _) 0 _ (by simp [h64k])) (by rw [List.size_toArray]; exact hin) (all_oneCell_toArray (one_cells at_ p)) ?_))
      have hKV : Keeps None' wr ((wr.alloc (.cells Tryz.zeroCells110 110)).setCells wr.heap.size 0 (.int .i64 (at_ : Int) :: p.map bv)) := ((Keeps.refl None' wr).alloc _).setCells _ _ _ (Nat.le_refl _)
      obtain ⟨cn0, cn1⟩ := rangeAt_cons (World.rangeAt_setCells_same (wr.alloc (.cells Tryz.zeroCells110 110)) wr.heap.size 0 (.int .i64 (at_ : Int) :: p.map bv) (there_of_blk (heap_alloc_new _ _) 0 _ (by rw [hap, zeroCells_write]; simp [zeros])))
      generalize ((wr.alloc (.cells Tryz.zeroCells110 110)).setCells wr.heap.size 0 (.int .i64 (at_ : Int) :: p.map bv)) = V at *
      have cn0d : V.drew.cell? ⟨wr.heap.size, 0, none⟩ = some (.int .i64 (at_ : Int)) := cn0
      have hconv := run_bytes_str (P := Tryz.prog) V.drew 91 5 9 Tryz.underlying91 Tryz.underlying5 Tryz.underlying9 wr.heap.size 1 64 64 p h64k cn1
      have hisV : IsDisk V.drew d Dk fpk := by
        obtain ⟨sv, nv, wv, hd, hf⟩ := HS.out.is
        exact ⟨sv, nv, wv, hd.keep hKV.drew (fun _ _ h => h), hf⟩
      have hW := write_any V.drew d at_ Dk fpk p hisV (by omega)
      have HW := Lib.hid hW
      have HKV := Lib.hid hKV
      clear hW hisV hrange hKV cn0 cn1 hin hap
      go_wp2_with fail
      refine wp_region_still_tail 6 (by kernel_rfl) (by kernel_rfl) ?_
      simp only [List.take_succ_cons, List.take_zero, List.drop_succ_cons, List.drop_zero]
      iterate 6 still_step
      refine wpStill_nil ?_
      change wpList _ _ _ _ _ V.drew
      have hstep : ∀ W4 fp4, DStep V.drew d fpk W4 (Dk.write at_ p).2 fp4 → DStep w d fp W4 (Dk.write at_ p).2 fp4 := fun W4 fp4 h => by
        refine ⟨h.is, (HS.out.keeps.trans' (HKV.out.drew) (fun _ _ h => h.elim)).trans' h.keeps (fun i hi hf => (HS.out.fresh i hf).elim id (fun h' => absurd hi (by omega))), fun i hi => ?_⟩
        rcases h.fresh i hi with h1 | h1
        · exact HS.out.fresh i h1
        · exact .inr (Nat.le_trans (Nat.le_trans HS.out.keeps.size HKV.out.drew.size) h1)
      have HST := Lib.hid hstep
      have hwn := Dsk.write_writes Dk at_ p
      clear hstep hconv cn0d
      by_cases hz : (Dk.write at_ p).1 = 0
      · have HZ := Lib.hid hz
        have hz2 : Dk.all (l.drop k) = (Dk.write at_ p).2.all (l.drop (k + 1)) := by rw [HDR.out, Dsk.all, if_pos hz]
        have HZ2 := Lib.hid hz2
        generalize hE : (Dk.write at_ p).1 = E at *
        subst hz
        clear hE hz2
        go_wp2_with (first | (refine HW.out.mono ?_; rintro r W4 ⟨rfl, fp4, hS4⟩))
        have hnext : AllWAt w d fp D l (k + 1) W4 := ⟨(Dk.write at_ p).2, fp4, HST.out _ _ hS4, by rw [HALL.out, HZ2.out], by omega⟩
        clear hS4
        go_roundw
        case rel => exact ⟨k + 1, by omega, by go_num, hnext⟩
        case measure => simp [intOf]; omega
      · have hz2 : D.all l = ((Dk.write at_ p).1, (Dk.write at_ p).2) := by rw [HALL.out, HDR.out, Dsk.all, if_neg hz]
        have HZ2 := Lib.hid hz2
        clear hz2
        go_wp2_with (first | (refine HW.out.mono ?_; rintro r W4 ⟨rfl, fp4, hS4⟩))
        have HS4 := Lib.hid hS4
        clear hS4
        go_ret
        exact ⟨by rw [HZ2.out]; rfl, fp4, by rw [HZ2.out]; exact HST.out _ _ HS4.out⟩
    · obtain rfl : k = l.length := by omega
      have hall2 : D.all l = Dk.sync := by rw [HALL.out, List.drop_length, Dsk.all]
      have HA2 := Lib.hid hall2
      clear hall2
      have hsy := sync_any wr d Dk fpk HS.out.is
      have HSY := Lib.hid hsy
      clear hsy
      go_wp2_with (first | (refine HSY.out.mono ?_; rintro r W4 ⟨rfl, fp4, hS4⟩))
      have HS4 := Lib.hid hS4
      clear hS4
      go_ret
      exact ⟨by rw [HA2.out]; rfl, fp4, by rw [HA2.out]; exact HS.out.trans HS4.out⟩
end Go.Proofs.YtlbaagjbehdmgaaGreat
