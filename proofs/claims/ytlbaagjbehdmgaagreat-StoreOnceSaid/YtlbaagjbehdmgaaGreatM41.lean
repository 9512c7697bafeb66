/- state.Wanted. -/
import Derived.Test.YtlbaagjbehdmgaaGreatM38
import Derived.Test.YtlbaagjbehdmgaaGreatM33
namespace Go.Proofs.YtlbaagjbehdmgaaGreat
open Go.RowKit

/-- v reads as the numbers zs -/
def NumSl (w : World) (v : Value) (zs : List Int) : Prop := ∃ a c, v = .slice a zs.length c ∧ ∀ j z, zs[j]? = some z → ∃ b o, a = some ⟨b, o, none⟩ ∧ w.cell? ⟨b, o + j, none⟩ = some (.int .i64 z)
theorem NumSl.keep {w w' : World} {v : Value} {zs : List Int} (h : NumSl w v zs) (k : Keeps None' w w') : NumSl w' v zs := by
  obtain ⟨a, c, hv, hc⟩ := h
  refine ⟨a, c, hv, fun j z hz => ?_⟩
  obtain ⟨b, o, ha, hcell⟩ := hc j z hz
  exact ⟨b, o, ha, (k.cell (p := ⟨b, o + j, none⟩) (block_lt_of_cell hcell) (fun h => h)).trans hcell⟩
theorem ISlice.num {w : World} {v : Value} {l : List Nat} (h : ISlice w v l) : NumSl w v (l.map fun x : Nat => (x : Int)) := by
  obtain ⟨a, c, hv, hc⟩ := h
  refine ⟨a, c, by rw [List.length_map]; exact hv, fun j z hz => ?_⟩
  rw [List.getElem?_map] at hz
  cases hq : l[j]? with
  | none => rw [hq] at hz; cases hz
  | some x =>
    rw [hq] at hz
    obtain ⟨b, o, ha, hcell⟩ := hc j x hq
    exact ⟨b, o, ha, by rw [← Option.some.inj hz]; exact hcell⟩
def IdxZ (w : World) (zs : List Int) (p : Int → Bool) (e : Ending) (w' : World) : Prop := ∃ n : Int, e = .returned (.int .i64 n) ∧ (0 ≤ n ↔ zs.any p = true) ∧ Keeps None' w w'
set_option maxHeartbeats 1000000 in
theorem want1_any (z : Int) (w : World) : Calls Tryz.prog 78 #[.int .i64 z] w fun r w' => r = .returned (.bool (decide (z < 0))) ∧ Keeps None' w w' := by
  go_enter Tryz.func78, Tryz.ntmps78
  go_wp2
  go_ret
  exact ⟨rfl, Keeps.refl _ _⟩
set_option maxRecDepth 100000 in
set_option maxHeartbeats 1000000 in
theorem indexZ_any (w : World) (v : Value) (zs : List Int) (hv : NumSl w v zs) (hL : zs.length ≤ 100000) :
    Calls Tryz.prog 120 #[v, .func (.func 78) #[] #[]] w fun e w' => IdxZ w zs (fun z => decide (z < 0)) e w' := by
  obtain ⟨va, vcap, rfl, hc⟩ := hv
  have HC := Lib.hid hc
  clear hc
  go_enter Tryz.func120, Tryz.ntmps120
  go_wp2_with fail
  go_loopw [8] (fun j wr => ∃ k : Nat, k ≤ zs.length ∧ j = .int .i64 k ∧ Keeps None' w wr ∧ (zs.take k).any (fun z => decide (z < 0)) = false) (fun j _ => zs.length - (intOf j).toNat)
  case atStart => exact ⟨0, Nat.zero_le _, rfl, Keeps.refl _ _, rfl⟩
  case round =>
    obtain ⟨k, hk, rfl, hkp, hno⟩ := hrel
    have HK := Lib.hid hkp
    by_cases hlt : k < zs.length
    · obtain ⟨b, off, rfl, d0⟩ := HC.out k zs[k] (by simp [hlt])
      have d0 := (hkp.cell (p := ⟨b, off + k, none⟩) (block_lt_of_cell d0) (fun h => h)).trans d0
      have hts := List.take_succ_eq_append_getElem hlt
      have hkI : (k : Int) < (zs.length : Int) := by omega
      have hany : zs[k] ∈ zs := List.getElem_mem hlt
      have HNO := Lib.hid hno
      have HTS := Lib.hid hts
      clear hkp hno hts
      generalize zs[k] = z at *
      have HCC := Lib.hid (want1_any z)
      by_cases hz : z < 0
      · have HY := Lib.hid (show zs.any (fun z => decide (z < 0)) = true from List.any_eq_true.2 ⟨z, hany, by simpa using hz⟩)
        rw [decide_eq_true hz] at HCC
        clear hz
        go_wp2_with (first | (refine (HCC.out _).mono ?_; rintro r W4 ⟨rfl, hk4⟩))
        go_ret
        exact ⟨_, rfl, ⟨fun _ => HY.out, fun _ => by omega⟩, HK.out.trans hk4⟩
      · have HN := Lib.hid (show (zs.take (k + 1)).any (fun z => decide (z < 0)) = false by rw [HTS.out, List.any_append, HNO.out]; simpa using hz)
        rw [decide_eq_false hz] at HCC
        clear hz
        go_wp2_with (first | (refine (HCC.out _).mono ?_; rintro r W4 ⟨rfl, hk4⟩))
        go_roundw
        case rel => exact ⟨k + 1, by omega, by go_num, HK.out.trans hk4, HN.out⟩
        case measure => simp [intOf]; omega
    · obtain rfl : k = zs.length := by omega
      rw [List.take_length] at hno
      have HN2 := Lib.hid hno
      clear hno hkp
      go_wp2
      go_ret
      exact ⟨_, rfl, ⟨fun h => absurd h (by decide), fun h => by rw [HN2.out] at h; cases h⟩, HK.out⟩
set_option maxHeartbeats 1000000 in
theorem containsZ_any (w : World) (v : Value) (zs : List Int) (hv : NumSl w v zs) (hL : zs.length ≤ 100000) :
    Calls Tryz.prog 77 #[v, .func (.func 78) #[] #[]] w fun e w' => e = .returned (.bool (zs.any (fun z => decide (z < 0)))) ∧ Keeps None' w w' := by
  have HI := Lib.hid (indexZ_any w v zs hv hL)
  clear hv
  go_enter Tryz.func77, Tryz.ntmps77
  go_wp2_with (first | (refine HI.out.mono ?_; rintro r W4 ⟨n, rfl, hn, hk4⟩; have HN := Lib.hid hn; clear hn))
  go_ret
  have hn := HN.out
  refine ⟨ret_bool ?_, hk4⟩
  cases ha : zs.any (fun z => decide (z < 0)) with
  | true => exact decide_eq_true (hn.2 ha)
  | false => exact decide_eq_false (fun h => by rw [hn.1 h] at ha; cases ha)
/-- what a store with so many entries of each house lacks -/
def wantTo (S : St) (zs : List Int) (k : Nat) : List Ent := ((List.range k).map fun h : Nat => fromOf S h ((zs[h]?).getD 0)).flatten
def wantedP (S : St) (zs : List Int) : Int × List Ent := if zs.length ≠ S.houses ∨ zs.any (fun z => decide (z < 0)) = true then (1, []) else (0, wantTo S zs zs.length)
theorem wantTo_succ (S : St) (zs : List Int) (k : Nat) (z : Int) (h : zs[k]? = some z) : wantTo S zs (k + 1) = wantTo S zs k ++ fromOf S k z := by
  unfold wantTo
  rw [List.range_succ, List.map_append, List.flatten_append]
  simp [h]
structure WantAt (w : World) (S : St) (zs : List Int) (k : Nat) (v : Value) (wr : World) : Prop where
  own : wr.ownsRow w.heap.size 64 3 v (wantTo S zs k).length (entCells (wantTo S zs k))
  keeps : Keeps None' w wr
theorem wantTo_len (S : St) (hok : S.ok) (zs : List Int) : ∀ k, (wantTo S zs k).length ≤ k * 1024
  | 0 => by simp [wantTo]
  | k + 1 => by
    have h1 := wantTo_len S hok zs k
    have h2 : (fromOf S k ((zs[k]?).getD 0)).length ≤ 1024 := Nat.le_trans (List.length_filter_le _ _) (by rw [show (entsOf S).length = S.entries.length by simp [entsOf]]; exact hok.few)
    have : wantTo S zs (k + 1) = wantTo S zs k ++ fromOf S k ((zs[k]?).getD 0) := by unfold wantTo; rw [List.range_succ, List.map_append, List.flatten_append]; simp
    rw [this, List.length_append]; omega
theorem entCells_ones (L : List Ent) : ∀ u ∈ entCells L, u.oneCell' = true := by
  intro u hu
  simp only [entCells, List.mem_flatten, List.mem_map] at hu
  obtain ⟨_, ⟨e, _, rfl⟩, hu⟩ := hu
  exact entCells_one e u hu
set_option maxRecDepth 100000 in
set_option maxHeartbeats 2000000 in
theorem wanted_any (b : Nat) (S : St) (w : World) (v : Value) (zs : List Int) (h : IsState w b S) (hv : NumSl w v zs) (hL : zs.length ≤ 100000) :
    Calls Tryz.prog 41 #[.pointer (some ⟨b, 0, none⟩), v] w fun e w' => EntsRet w (wantedP S zs) e w' := by
  have HCN := Lib.hid (containsZ_any w v zs hv hL)
  have HFR := Lib.hid (fun W (k : Keeps None' w W) (hh no : Int) => from_any b S W hh no (h.keep k (spares_none _)))
  obtain ⟨ev, iv, hS⟩ := h
  have c1 := hS.c1
  have hh8 := hS.ok.houses
  have HOK := Lib.hid hS.ok
  obtain ⟨va, vcap, rfl, hc⟩ := hv
  have HC := Lib.hid hc
  clear hc hS
  by_cases hlen : zs.length = S.houses
  case neg =>
    have HP := Lib.hid (show wantedP S zs = (1, []) by simp [wantedP, hlen])
    have hlI : ((zs.length : Int) != (S.houses : Int)) = true := by rw [bne_iff_ne]; omega
    clear hlen
    go_enter Tryz.func41, Tryz.ntmps41
    go_wp2
    go_ret2
    rw [HP.out]
    exact ⟨_, rfl, World.ownsRow_nil _ _ _ _, Keeps.refl _ _⟩
  have hlI : ((zs.length : Int) != (S.houses : Int)) = false := by rw [hlen]; simp
  have hz8 : (zs.length : Int) ≤ 8 := by omega
  cases hneg : zs.any (fun z => decide (z < 0)) with
  | true =>
    have HP := Lib.hid (show wantedP S zs = (1, []) by unfold wantedP; rw [if_pos (.inr hneg)])
    rw [hneg] at HCN
    clear hlen hneg
    go_enter Tryz.func41, Tryz.ntmps41
    go_wp2_with (first | (go_at_call 77; refine HCN.out.mono ?_; rintro r W4 ⟨rfl, hk4⟩))
    go_ret2
    rw [HP.out]
    exact ⟨_, rfl, World.ownsRow_nil _ _ _ _, hk4⟩
  | false =>
    have HP := Lib.hid (show wantedP S zs = (0, wantTo S zs zs.length) by unfold wantedP; rw [if_neg (fun h => by rcases h with h | h; exact h hlen; rw [hneg] at h; cases h)])
    rw [hneg] at HCN
    clear hlen hneg
    obtain ⟨i0, hi, hz0, hz1, hz2⟩ := info_parts info_ent3
    go_enter Tryz.func41, Tryz.ntmps41
    go_wp2_with (first | (go_at_call 77; refine HCN.out.mono ?_; rintro r W4 ⟨rfl, hk4⟩; have HK4 := Lib.hid hk4; clear hk4))
    go_loopw [6, 22] (fun v i wr => ∃ k : Nat, k ≤ zs.length ∧ i = .int .i64 k ∧ WantAt w S zs k v wr) (fun _ i _ => zs.length - (intOf i).toNat)
    case atStart => exact ⟨0, Nat.zero_le _, rfl, ⟨by simpa [wantTo, entCells] using World.ownsRow_nil _ _ _ _, HK4.out⟩⟩
    case round =>
      obtain ⟨k, hk, rfl, hA⟩ := hrel
      by_cases hlt : k < zs.length
      · have hzk : zs[k]? = some zs[k] := by simp [hlt]
        obtain ⟨bb, off, rfl, d0⟩ := HC.out k zs[k] hzk
        have d0 := (hA.keeps.cell (p := ⟨bb, off + k, none⟩) (block_lt_of_cell d0) (fun h => h)).trans d0
        have hkI : (k : Int) < (zs.length : Int) := by omega
        have hsn := wantTo_succ S zs k _ hzk
        have hwl := wantTo_len S HOK.out zs k
        have hwl2 := wantTo_len S HOK.out zs (k + 1)
        rw [hsn, List.length_append] at hwl2
        have HSN := Lib.hid hsn
        have HA := Lib.hid hA
        have HFK := Lib.hid (HFR.out wr hA.keeps (k : Int) zs[k])
        have hws : w.heap.size ≤ wr.heap.size := hA.keeps.size
        clear hA hsn hzk
        generalize zs[k] = z at *
        generalize fromOf S (k : Int) z = FL at *
        go_wp2_with (first
          | (go_at_call 79; refine HFK.out.mono ?_; rintro r W5 ⟨v5, rfl, ho5, hk5⟩; have HO5 := Lib.hid ho5; have HK5 := Lib.hid hk5; have hw5 : wr.heap.size ≤ W5.heap.size := hk5.size; clear ho5 hk5)
          | (at_builtin; refine list_append_rowsG rfl _ _ _ rfl w.heap.size _ 64 i0 _ 3 32 Tryz.underlying44 hi hz0 hz1 hz2 rfl (by decide) _ _ (wantTo S zs k).length FL.length _ _ rfl (own_keep HA.out.own HK5.out (fun _ _ h => h)) rfl HO5.out (entCells_ones _) (by unfold maxLen; omega) (by omega) (by omega) ?_; intro v' w2 hown hgrow))
        have hnext : WantAt w S zs (k + 1) v' w2 := by
          refine ⟨?_, (HA.out.keeps.trans HK5.out).trans' (grownBy_keeps hgrow) (fun i hi e => ?_)⟩
          · rw [HSN.out, entCells_append, List.length_append]; exact hown
          · have := (HA.out.own.lt i e.symm).1; omega
        clear hown hgrow
        go_wp2
        go_roundw
        case rel => exact ⟨k + 1, by omega, by go_num, hnext⟩
        case measure => simp [intOf]; omega
      · obtain rfl : k = zs.length := by omega
        have HA := Lib.hid hA
        clear hA
        go_wp2
        go_ret2
        rw [HP.out]
        exact ⟨_, rfl, HA.out.own, HA.out.keeps⟩
end Go.Proofs.YtlbaagjbehdmgaaGreat
