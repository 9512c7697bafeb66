/- Store.Rotten. -/
import Derived.Deep.RegionHeld3
import Derived.Test.YtlbaagjbehdmgaaGreatM29
import Derived.Test.YtlbaagjbehdmgaaGreatM28
namespace Go.Proofs.YtlbaagjbehdmgaaGreat
open Go.RowKit

def sortN (l : List Nat) : List Nat := l.mergeSort fun x y => decide (x ≤ y)
theorem sortZ_map (l : List Nat) : sortZ (l.map fun x : Nat => (x : Int)) = (sortN l).map fun x : Nat => (x : Int) := by
  unfold sortZ sortN
  rw [List.map_mergeSort (s := fun x y : Int => decide (x ≤ y)) (fun a _ b _ => by simp)]
theorem ints_eq (l : List Nat) : ints l = (l.map fun x : Nat => (x : Int)).map (Value.int .i64) := by simp [ints]
theorem mem_sortN {l : List Nat} {x : Nat} : x ∈ sortN l ↔ x ∈ l := by simp [sortN]
theorem sortN_length (l : List Nat) : (sortN l).length = l.length := by simp [sortN]
/-- is the page at an index bad? -/
def badPg (pages : List (List UInt8)) (i : Nat) : Bool := !soundP i ((pages[i]?).getD [])
def rotList (pages : List (List UInt8)) (S : St) : List Nat := (sortN (usesOf S ++ [S.at_])).filter (badPg pages)
def rottenP (D : Dsk) (S : St) (falls : Int) : Int × List Nat := if D.falls ≠ falls then (91, []) else (0, rotList D.now S)
def RottenRet (w : World) (R : Int × List Nat) (e : Ending) (w' : World) : Prop :=
  ∃ v, e = .returned (.tuple #[v, .int .i64 R.1]) ∧ w'.ownsRow w.heap.size 3 1 v R.2.length (ints R.2) ∧ Keeps None' w w'
theorem zints_own {w : World} {base n₀ : Nat} {v : Value} {l : List Nat} (h : w.ownsRow base 3 1 v l.length (ints l)) (hn : w.heap.size ≤ n₀) : ZInts n₀ w v (l.map fun x : Nat => (x : Int)) := by
  rcases h.2 with ⟨rfl, hz⟩ | ⟨g, cap, cur, rfl, hg, hb, hc⟩
  · exact .inl ⟨rfl, by rw [List.eq_nil_of_length_eq_zero hz]; rfl⟩
  · refine .inr ⟨g, 0, cap, by simp, Nat.lt_of_lt_of_le (lt_of_block hb) hn, fun j hj => ?_⟩
    have hj' : j < l.length := by simpa using hj
    have := own_range h j (.int .i64 (l[j] : Int)) (by simp [ints, hj'])
    rw [this]
    simp [hj']
theorem filter_take_succ (p : Nat → Bool) (l : List Nat) (k i : Nat) (h : l[k]? = some i) : (l.take (k + 1)).filter p = if p i = true then (l.take k).filter p ++ [i] else (l.take k).filter p := by
  obtain ⟨hk, rfl⟩ := List.getElem?_eq_some_iff.1 h
  rw [List.take_succ_eq_append_getElem hk, List.filter_append]
  by_cases hp : p l[k] = true
  · rw [if_pos hp]; simp [hp]
  · rw [if_neg hp]; simp [hp]
/-- the sorting of a row of numbers that has just been put into a box -/
theorem sort_step (W3 : World) (b : Nat) (a3 : Option Addr) (c3 n : Nat) (l : List Nat) (hn : n = l.length) (hl : l.length ≤ 1000000) (hown : W3.ownsRow b 3 1 (.slice a3 n c3) n (ints l)) :
    Calls Tryz.prog 103 #[.func (.func 146) #[] #[.pointer (some ⟨W3.heap.size, 0, none⟩)]] (W3.alloc (.cells #[.slice a3 n c3] 47)) fun e W' =>
      ∃ a c, e = .returned (.slice a n c) ∧ W'.ownsRow W3.heap.size 3 1 (.slice a n c) n (ints (sortN l)) ∧ Keeps None' W3 W' := by
  subst hn
  have hk : Keeps None' W3 (W3.alloc (.cells #[.slice a3 l.length c3] 47)) := (Keeps.refl _ _).alloc _
  refine (sorted_any W3.heap.size (.slice a3 l.length c3) (l.map fun x : Nat => (x : Int)) _ (by simpa using hl) (by simp) (cell_of_blk (heap_alloc_new _ _) 0 rfl) (zints_own (own_keep hown hk (fun _ _ h => h)) (Nat.le_refl _))).mono ?_
  rintro e W' ⟨v, rfl, ho, hb⟩
  rw [sortZ_map, ← ints_eq, List.length_map] at ho
  obtain ⟨a, c, rfl⟩ := own_shape ho
  exact ⟨a, c, rfl, own_base ho hk.size, hk.trans (Keeps.of_below hb)⟩
structure RottenAt (w3 : World) (pages : List (List UInt8)) (L : List Nat) (k : Nat) (v : Value) (wr : World) : Prop where
  own : wr.ownsRow w3.heap.size 3 1 v ((L.take k).filter (badPg pages)).length (ints ((L.take k).filter (badPg pages)))
  keeps : Keeps None' w3 wr

set_option maxRecDepth 100000 in
set_option maxHeartbeats 4000000 in
theorem rotten_any (w : World) (s d : Nat) (D : Dsk) (fp : Nat → Prop) (cur : St) (former : Option St) (falls : Int) (hs : IsStore w s d cur former falls) (hd : IsDisk w d D fp)
    (hu : ∀ x ∈ usesOf cur, x < D.now.length) (hl : (usesOf cur).length + 1 ≤ 1000000) (ha : cur.at_ < D.now.length) :
    Calls Tryz.prog 59 #[.pointer (some ⟨s, 0, none⟩)] w fun e w' => RottenRet w (rottenP D cur falls) e w' := by
  have HDN := Lib.hid (down_any w s d D fp cur former falls hs hd)
  have HS := Lib.hid hs
  have HD := Lib.hid hd
  by_cases hf : D.falls = falls
  case neg =>
    have HP := Lib.hid (show rottenP D cur falls = (91, []) by simp [rottenP, hf])
    have hfb : (D.falls != falls) = true := by simpa using hf
    rw [hfb] at HDN
    clear hs hd hf hfb
    go_enter Tryz.func59, Tryz.ntmps59
    go_wp2_with (first | (go_at_call 71; refine HDN.out.mono ?_; rintro e W1 ⟨rfl, hk1⟩))
    go_ret2
    rw [HP.out]
    exact ⟨_, rfl, World.ownsRow_nil _ _ _ _, hk1⟩
  have HP := Lib.hid (show rottenP D cur falls = (0, rotList D.now cur) by simp [rottenP, hf])
  have hfb : (D.falls != falls) = false := by simpa using hf
  rw [hfb] at HDN
  obtain ⟨cb, fv, hst⟩ := hs
  obtain ⟨ev, iv, hcur⟩ := hst.cur
  have hslt := lt_of_block hst.blk
  have hclt := lt_of_block hcur.blk
  have c0 := hst.c0
  have c2 := hst.c2
  have b0 := hcur.c0
  have HCUR := Lib.hid hst.cur
  have hat : cur.at_ ≤ 1 := hcur.ok.at_
  have HU := Lib.hid hu
  clear hst hcur hd hf hfb hu
  go_enter Tryz.func59, Tryz.ntmps59
  go_upto_region 4 with (first | (go_at_call 71; refine HDN.out.mono ?_; rintro e W1 ⟨rfl, hk1⟩))
  have HK1 := Lib.hid hk1
  have a0 : W1.drew.cell? ⟨s, 0, none⟩ = some (.pointer (some ⟨cb, 0, none⟩)) := (hk1.drew.cell (p := ⟨s, 0, none⟩) hslt (fun h => h)).trans c0
  have a1 : W1.drew.cell? ⟨cb, 0, none⟩ = some (.int .i64 (cur.at_ : Int)) := (hk1.drew.cell (p := ⟨cb, 0, none⟩) hclt (fun h => h)).trans b0
  have hsl1 : s < W1.heap.size := Nat.lt_of_lt_of_le hslt hk1.size
  have hcl1 : cb < W1.heap.size := Nat.lt_of_lt_of_le hclt hk1.size
  have HUS := Lib.hid (fun (W : World) (hW : Keeps None' W1.drew W) => uses_any cb cur W ((HCUR.out.keep HK1.out.drew (spares_none _)).keep hW (spares_none _)))
  have HC := Lib.hid (fun (W : World) (hW : Keeps None' W1.drew W) => (⟨(hW.cell (p := ⟨s, 0, none⟩) hsl1 (fun h => h)).trans a0, (hW.cell (p := ⟨cb, 0, none⟩) hcl1 (fun h => h)).trans a1⟩ : W.cell? ⟨s, 0, none⟩ = some (.pointer (some ⟨cb, 0, none⟩)) ∧ W.cell? ⟨cb, 0, none⟩ = some (.int .i64 (cur.at_ : Int))))
  obtain ⟨i0, hi0, hz0, hz1, hz2⟩ := info_parts info_int3
  clear hk1 c0 b0 HDN HCUR
  go_region_held3 (fun W => W.cell? ⟨s, 0, none⟩ = some (.pointer (some ⟨cb, 0, none⟩)) ∧ W.cell? ⟨cb, 0, none⟩ = some (.int .i64 (cur.at_ : Int))) (first | exact HC.out _ HK5.out | exact HC.out _ (HK3.out.alloc _) | exact HC.out _ HK3.out | exact HC.out _ (HK2.out.alloc _) | exact HC.out _ HK2.out | exact HC.out _ ((Keeps.refl _ _).alloc _) | exact HC.out _ (Keeps.refl _ _))
    (first
    | (go_at_call 105; refine (HUS.out _ (by first | exact Keeps.refl _ _ | exact (Keeps.refl _ _).alloc _)).mono ?_; rintro e W2 ⟨v2, rfl, hown2, hk2⟩; obtain ⟨a2, c2', rfl⟩ := own_shape hown2; have HO2 := Lib.hid (own_base (base' := W1.heap.size) hown2 (by simp)); have HKU := Lib.hid hk2; have HK2 : Hid (Keeps None' W1.drew W2) := Lib.hid (Keeps.trans (by first | exact Keeps.refl _ _ | exact (Keeps.refl _ _).alloc _) hk2); clear hown2)
    | (go_at_call 104; refine (values_any _ _ _ _).mono ?_; rintro e W4 ⟨rfl, rfl⟩)
    | (go_at_call 103; refine HSO.out.mono ?_; rintro e W5 ⟨a5, c5, rfl, hown5, hk5⟩; have HO5 := Lib.hid hown5; have HK5 := Lib.hid (HK3.out.trans hk5); clear hown5 hk5)
    | (refine step_append_own rfl _ _ _ rfl W1.heap.size 3 i0 (.int .i64 0) 1 8 Tryz.underlying47 hi0 hz0 hz1 hz2 rfl (by decide) (.slice a2 (usesOf cur).length c2') (usesOf cur).length (ints (usesOf cur)) rfl (by first | exact own_keep HO2.out ((Keeps.refl None' _).alloc _) (fun _ _ h => h) | exact HO2.out) _ 1 1 [.int .i64 (cur.at_ : Int)] rfl rfl (by intro j u hj; rw [Addr.add_lit, Nat.zero_add]; first | exact cell_of_blk (heap_alloc_new W2 _) j (by simpa using hj) | exact cell_of_blk (HKU.out.blk (heap_alloc_new W1.drew _) (fun h => h)) j (by simpa using hj)) (by simp [Value.oneCell']) (by unfold maxLen; omega) (by omega) (by have h : W1.heap.size ≤ W2.heap.size := HK2.out.size; first | exact h | (simp; omega)) ?_; intro v3 W3 hown3 hgrow3 hfr3; obtain ⟨a3, c3, rfl⟩ := own_shape hown3; have HO3 := Lib.hid hown3; have HK3 : Hid (Keeps None' W1.drew W3) := Lib.hid (by first | exact (HK2.out.alloc _).trans' (grownBy_keeps hgrow3) (fun i hi e => by have h1 := (HO2.out.lt i e.symm).1; have h2 : i < W1.heap.size := hi; omega) | exact HK2.out.trans' (grownBy_keeps hgrow3) (fun i hi e => by have h1 := (HO2.out.lt i e.symm).1; have h2 : i < W1.heap.size := hi; omega)); have HSO := Lib.hid (sort_step W3 W1.heap.size a3 c3 ((usesOf cur).length + 1) (usesOf cur ++ [cur.at_]) (by simp) (by simpa using hl) (by simpa [ints] using hown3)); clear hown3 hgrow3 hfr3))
  all_goals
    try simp only [Exit.then]
    have hLl : (usesOf cur).length + 1 = (sortN (usesOf cur ++ [cur.at_])).length := by rw [sortN_length]; simp
    have hLx : ∀ x ∈ sortN (usesOf cur ++ [cur.at_]), x < D.now.length := fun x hx => by
      rw [mem_sortN] at hx
      rcases List.mem_append.1 hx with hx | hx
      · exact HU.out x hx
      · simp only [List.mem_singleton] at hx; rw [hx]; exact ha
    have HPL := Lib.hid (show rottenP D cur falls = (0, (sortN (usesOf cur ++ [cur.at_])).filter (badPg D.now)) from HP.out)
    have hO5 := HO5.out
    have hKw : Keeps None' w W5 := (HK1.out.drew).trans HK5.out
    rw [hLl] at hO5
    have hl2 : (sortN (usesOf cur ++ [cur.at_])).length ≤ 1000000 := by omega
    have HLL := Lib.hid hLl
    have HO := Lib.hid hO5
    have HKW := Lib.hid hKw
    clear hO5 hKw hLl a0 a1 HUS HC HK2 HK3 HK5 HO2 HKU HO3 HSO HO5
    obtain ⟨sv, nv, wv, hd, hfp⟩ := HD.out
    have hfew := hd.ok.few
    obtain ⟨gn, cap, cur0, rfl, hgb, hcap, hmax, -⟩ := own_block hd.now hd.pos
    have c1 := hd.c1
    have hdl := lt_of_block hd.blk
    have hgl := lt_of_block hgb
    have HDD := Lib.hid hd
    clear hd hfp hgb
    have h0 : RottenAt W5 D.now (sortN (usesOf cur ++ [cur.at_])) 0 (.slice none 0 0) W5 := ⟨World.ownsRow_nil _ _ _ _, Keeps.refl _ _⟩
    have HH0 := Lib.hid h0
    clear h0
    generalize sortN (usesOf cur ++ [cur.at_]) = L at *
    go_wp2_with fail
    go_loopw [4, 26] (fun v i wr => ∃ k : Nat, k ≤ L.length ∧ i = .int .i64 k ∧ RottenAt W5 D.now L k v wr) (fun _ i _ => L.length - (intOf i).toNat)
    case atStart => exact ⟨0, Nat.zero_le _, rfl, HH0.out⟩
    case round =>
      obtain ⟨k, hk, rfl, hA⟩ := hrel
      have HA := Lib.hid hA
      clear hA HH0
      by_cases hkl : k < L.length
      case neg =>
        obtain rfl : k = L.length := by omega
        have hkI : ¬ ((L.length : Int) < ((usesOf cur).length : Int) + 1) := by have := HLL.out; omega
        go_wp2_with fail
        go_ret2
        rw [HPL.out]
        have ho := HA.out.own
        rw [List.take_length] at ho
        exact ⟨_, rfl, own_base ho HKW.out.size, HKW.out.trans HA.out.keeps⟩
      have hkI : (k : Int) < ((usesOf cur).length : Int) + 1 := by have := HLL.out; omega
      have hkN : k < (usesOf cur).length + 1 := by have := HLL.out; omega
      obtain ⟨x, hx⟩ : ∃ x, L[k]? = some x := ⟨L[k], by simp [hkl]⟩
      have hxl := hLx x (List.mem_of_getElem? hx)
      have hoL := own_keep HO.out HA.out.keeps (fun _ _ h => h)
      obtain ⟨ar, cr, her, hcr⟩ := ISlice.of_own hoL
      injection her with e1 _ e3
      subst e1
      subst e3
      obtain ⟨bx, ox, rfl, hcell⟩ := hcr k x hx
      have hkr := HKW.out.trans HA.out.keeps
      have d2 : wr.cell? ⟨s, 2, none⟩ = some (.pointer (some ⟨d, 0, none⟩)) := (hkr.cell (p := ⟨s, 2, none⟩) hslt (fun h => h)).trans c2
      have d1 : wr.cell? ⟨d, 1, none⟩ = some (.slice (some ⟨gn, 0, none⟩) D.now.length cap) := (hkr.cell (p := ⟨d, 1, none⟩) hdl (fun h => h)).trans c1
      have hxI : (x : Int) < (D.now.length : Int) := by omega
      have hsd := sound_any gn (x * 64) x wr D.now[x] (HDD.out.ok.now64 _ (List.getElem_mem hxl)) (Nat.lt_of_lt_of_le hgl hkr.size) (by rw [Nat.mul_comm]; exact page_range (own_keep HDD.out.now hkr (fun _ _ h => h)) HDD.out.ok.now64 x hxl)
      have hbp : badPg D.now x = !soundP x D.now[x] := by simp [badPg, hxl]
      have hfs := filter_take_succ (badPg D.now) L k x hx
      have hfl : ((L.take k).filter (badPg D.now)).length ≤ k := Nat.le_trans (List.length_filter_le _ _) (by simp; omega)
      have hws : W5.heap.size ≤ wr.heap.size := HA.out.keeps.size
      have HSD := Lib.hid hsd
      have HFS := Lib.hid hfs
      have HBP := Lib.hid hbp
      clear hcr hoL hkr hsd hfs hbp hx
      generalize soundP x D.now[x] = ok at *
      cases ok with
      | true =>
        go_wp2_with (first | (go_at_call 106; refine HSD.out.mono ?_; rintro e W6 ⟨rfl, hk6⟩))
        have hnext : RottenAt W5 D.now L (k + 1) u4 W6 := ⟨by rw [HFS.out, if_neg (by rw [HBP.out]; decide)]; exact own_keep HA.out.own hk6 (fun _ _ h => h), HA.out.keeps.trans hk6⟩
        have HN := Lib.hid hnext
        clear hnext
        go_roundw
        case rel => exact ⟨k + 1, by omega, by go_num, HN.out⟩
        case measure => simp [intOf]; omega
      | false =>
        go_wp2_with (first | (go_at_call 106; refine HSD.out.mono ?_; rintro e W6 ⟨rfl, hk6⟩; have HK6 := Lib.hid hk6; clear hk6) | (at_builtin; refine list_append_own rfl _ _ _ rfl W5.heap.size 3 i0 (.int .i64 0) 1 8 Tryz.underlying47 hi0 hz0 hz1 hz2 rfl (by decide) u4 ((L.take k).filter (badPg D.now)).length (ints ((L.take k).filter (badPg D.now))) rfl (own_keep HA.out.own (HK6.out.alloc _) (fun _ _ h => h)) ⟨W6.heap.size, 0, none⟩ 1 1 [.int .i64 (x : Int)] rfl rfl (by intro j u hj; rw [Addr.add_lit, Nat.zero_add]; exact cell_of_blk (heap_alloc_new W6 _) j (by simpa using hj)) (by simp [Value.oneCell']) (by unfold maxLen; omega) (by omega) (by have := HK6.out.size; simp; omega) ?_; intro v7 W7 hown7 hgrow7 hfr7; have HO7 := Lib.hid hown7; have HG7 := Lib.hid hgrow7; clear hown7 hgrow7 hfr7))
        have hnext : RottenAt W5 D.now L (k + 1) v7 W7 := by
          refine ⟨?_, ((HA.out.keeps.trans HK6.out).alloc _).trans' (grownBy_keeps HG7.out) (fun i hi e => ?_)⟩
          · rw [HFS.out, if_pos (by rw [HBP.out]; decide), List.length_append, show ∀ a b, ints (a ++ b) = ints a ++ ints b from fun a b => by simp [ints]]
            exact HO7.out
          · have := (HA.out.own.lt i e.symm).1
            omega
        have HN := Lib.hid hnext
        clear hnext
        go_roundw
        case rel => exact ⟨k + 1, by omega, by go_num, HN.out⟩
        case measure => simp [intOf]; omega
end Go.Proofs.YtlbaagjbehdmgaaGreat
