/- state.Wanted. Two stores that tell each other what they have: in plain Lean. -/
import Derived.Test.YtlbaagjbehdmgaaGreatM38
import Derived.Test.YtlbaagjbehdmgaaGreatM33
import Derived.Test.YtlbaagjbehdmgaaGreatM40
namespace Go.Proofs.YtlbaagjbehdmgaaGreat
open Go.RowKit

/-- v reads as the numbers zs -/
def NumSl (w : World) (v : Value) (zs : List Int) : Prop := ∃ a c, v = .slice a zs.length c ∧ ∀ j z, zs[j]? = some z → ∃ b o, a = some ⟨b, o, none⟩ ∧ w.cell? ⟨b, o + j, none⟩ = some (.int .i64 z)
theorem NumSl.keep {w w' : World} {v : Value} {zs : List Int} (h : NumSl w v zs) (k : Keeps None' w w') : NumSl w' v zs := by
  obtain ⟨a, c, hv, hc⟩ := h
  refine ⟨a, c, hv, fun j z hz => ?_⟩
  obtain ⟨b, o, ha, hcell⟩ := hc j z hz
  exact ⟨b, o, ha, (k.cell (p := ⟨b, o + j, none⟩) (block_lt_of_cell hcell) (fun h => h)).trans hcell⟩
theorem ISlice.num {w : World} {v : Value} {l : List Nat} (h : ISlice w v l) : NumSl w v (l.map fun x : Nat => (x : Int)) := by
  obtain ⟨a, c, hv, hc⟩ := h
  refine ⟨a, c, by rw [List.length_map]; exact hv, fun j z hz => ?_⟩
  rw [List.getElem?_map] at hz
  cases hq : l[j]? with
  | none => rw [hq] at hz; cases hz
  | some x =>
    rw [hq] at hz
    obtain ⟨b, o, ha, hcell⟩ := hc j x hq
    exact ⟨b, o, ha, by rw [← Option.some.inj hz]; exact hcell⟩
def IdxZ (w : World) (zs : List Int) (p : Int → Bool) (e : Ending) (w' : World) : Prop := ∃ n : Int, e = .returned (.int .i64 n) ∧ (0 ≤ n ↔ zs.any p = true) ∧ Keeps None' w w'
set_option maxHeartbeats 1000000 in
theorem want1_any (z : Int) (w : World) : Calls Tryz.prog 78 #[.int .i64 z] w fun r w' => r = .returned (.bool (decide (z < 0))) ∧ Keeps None' w w' := by
  go_enter Tryz.func78, Tryz.ntmps78
  go_wp2
  go_ret
  exact ⟨rfl, Keeps.refl _ _⟩
set_option maxRecDepth 100000 in
set_option maxHeartbeats 1000000 in
theorem indexZ_any (w : World) (v : Value) (zs : List Int) (hv : NumSl w v zs) (hL : zs.length ≤ 100000) :
    Calls Tryz.prog 120 #[v, .func (.func 78) #[] #[]] w fun e w' => IdxZ w zs (fun z => decide (z < 0)) e w' := by
  obtain ⟨va, vcap, rfl, hc⟩ := hv
  have HC := Lib.hid hc
  clear hc
  go_enter Tryz.func120, Tryz.ntmps120
  go_wp2_with fail
  go_loopw [8] (fun j wr => ∃ k : Nat, k ≤ zs.length ∧ j = .int .i64 k ∧ Keeps None' w wr ∧ (zs.take k).any (fun z => decide (z < 0)) = false) (fun j _ => zs.length - (intOf j).toNat)
  case atStart => exact ⟨0, Nat.zero_le _, rfl, Keeps.refl _ _, rfl⟩
  case round =>
    obtain ⟨k, hk, rfl, hkp, hno⟩ := hrel
    have HK := Lib.hid hkp
    by_cases hlt : k < zs.length
    · obtain ⟨b, off, rfl, d0⟩ := HC.out k zs[k] (by simp [hlt])
      have d0 := (hkp.cell (p := ⟨b, off + k, none⟩) (block_lt_of_cell d0) (fun h => h)).trans d0
      have hts := List.take_succ_eq_append_getElem hlt
      have hkI : (k : Int) < (zs.length : Int) := by omega
      have hany : zs[k] ∈ zs := List.getElem_mem hlt
      have HNO := Lib.hid hno
      have HTS := Lib.hid hts
      clear hkp hno hts
      generalize zs[k] = z at *
      have HCC := Lib.hid (want1_any z)
      by_cases hz : z < 0
      · have HY := Lib.hid (show zs.any (fun z => decide (z < 0)) = true from List.any_eq_true.2 ⟨z, hany, by simpa using hz⟩)
        rw [decide_eq_true hz] at HCC
        clear hz
        go_wp2_with (first | (refine (HCC.out _).mono ?_; rintro r W4 ⟨rfl, hk4⟩))
        go_ret
        exact ⟨_, rfl, ⟨fun _ => HY.out, fun _ => by omega⟩, HK.out.trans hk4⟩
      · have HN := Lib.hid (show (zs.take (k + 1)).any (fun z => decide (z < 0)) = false by rw [HTS.out, List.any_append, HNO.out]; simpa using hz)
        rw [decide_eq_false hz] at HCC
        clear hz
        go_wp2_with (first | (refine (HCC.out _).mono ?_; rintro r W4 ⟨rfl, hk4⟩))
        go_roundw
        case rel => exact ⟨k + 1, by omega, by go_num, HK.out.trans hk4, HN.out⟩
        case measure => simp [intOf]; omega
    · obtain rfl : k = zs.length := by omega
      rw [List.take_length] at hno
      have HN2 := Lib.hid hno
      clear hno hkp
      go_wp2
      go_ret
      exact ⟨_, rfl, ⟨fun h => absurd h (by decide), fun h => by rw [HN2.out] at h; cases h⟩, HK.out⟩
set_option maxHeartbeats 1000000 in
theorem containsZ_any (w : World) (v : Value) (zs : List Int) (hv : NumSl w v zs) (hL : zs.length ≤ 100000) :
    Calls Tryz.prog 77 #[v, .func (.func 78) #[] #[]] w fun e w' => e = .returned (.bool (zs.any (fun z => decide (z < 0)))) ∧ Keeps None' w w' := by
  have HI := Lib.hid (indexZ_any w v zs hv hL)
  clear hv
  go_enter Tryz.func77, Tryz.ntmps77
  go_wp2_with (first | (refine HI.out.mono ?_; rintro r W4 ⟨n, rfl, hn, hk4⟩; have HN := Lib.hid hn; clear hn))
  go_ret
  have hn := HN.out
  refine ⟨ret_bool ?_, hk4⟩
  cases ha : zs.any (fun z => decide (z < 0)) with
  | true => exact decide_eq_true (hn.2 ha)
  | false => exact decide_eq_false (fun h => by rw [hn.1 h] at ha; cases ha)
/-- what a store with so many entries of each house lacks -/
def wantTo (S : St) (zs : List Int) (k : Nat) : List Ent := ((List.range k).map fun h : Nat => fromOf S h ((zs[h]?).getD 0)).flatten
def wantedP (S : St) (zs : List Int) : Int × List Ent := if zs.length ≠ S.houses ∨ zs.any (fun z => decide (z < 0)) = true then (1, []) else (0, wantTo S zs zs.length)
theorem wantTo_succ (S : St) (zs : List Int) (k : Nat) (z : Int) (h : zs[k]? = some z) : wantTo S zs (k + 1) = wantTo S zs k ++ fromOf S k z := by
  unfold wantTo
  rw [List.range_succ, List.map_append, List.flatten_append]
  simp [h]
structure WantAt (w : World) (S : St) (zs : List Int) (k : Nat) (v : Value) (wr : World) : Prop where
  own : wr.ownsRow w.heap.size 64 3 v (wantTo S zs k).length (entCells (wantTo S zs k))
  keeps : Keeps None' w wr
theorem wantTo_len (S : St) (hok : S.ok) (zs : List Int) : ∀ k, (wantTo S zs k).length ≤ k * 1024
  | 0 => by simp [wantTo]
  | k + 1 => by
    have h1 := wantTo_len S hok zs k
    have h2 : (fromOf S k ((zs[k]?).getD 0)).length ≤ 1024 := Nat.le_trans (List.length_filter_le _ _) (by rw [show (entsOf S).length = S.entries.length by simp [entsOf]]; exact hok.few)
    have : wantTo S zs (k + 1) = wantTo S zs k ++ fromOf S k ((zs[k]?).getD 0) := by unfold wantTo; rw [List.range_succ, List.map_append, List.flatten_append]; simp
    rw [this, List.length_append]; omega
theorem entCells_ones (L : List Ent) : ∀ u ∈ entCells L, u.oneCell' = true := by
  intro u hu
  simp only [entCells, List.mem_flatten, List.mem_map] at hu
  obtain ⟨_, ⟨e, _, rfl⟩, hu⟩ := hu
  exact entCells_one e u hu
set_option maxRecDepth 100000 in
set_option maxHeartbeats 2000000 in
theorem wanted_any (b : Nat) (S : St) (w : World) (v : Value) (zs : List Int) (h : IsState w b S) (hv : NumSl w v zs) (hL : zs.length ≤ 100000) :
    Calls Tryz.prog 41 #[.pointer (some ⟨b, 0, none⟩), v] w fun e w' => EntsRet w (wantedP S zs) e w' := by
  have HCN := Lib.hid (containsZ_any w v zs hv hL)
  have HFR := Lib.hid (fun W (k : Keeps None' w W) (hh no : Int) => from_any b S W hh no (h.keep k (spares_none _)))
  obtain ⟨ev, iv, hS⟩ := h
  have c1 := hS.c1
  have hh8 := hS.ok.houses
  have HOK := Lib.hid hS.ok
  obtain ⟨va, vcap, rfl, hc⟩ := hv
  have HC := Lib.hid hc
  clear hc hS
  by_cases hlen : zs.length = S.houses
  case neg =>
    have HP := Lib.hid (show wantedP S zs = (1, []) by simp [wantedP, hlen])
    have hlI : ((zs.length : Int) != (S.houses : Int)) = true := by rw [bne_iff_ne]; omega
    clear hlen
    go_enter Tryz.func41, Tryz.ntmps41
    go_wp2
    go_ret2
    rw [HP.out]
    exact ⟨_, rfl, World.ownsRow_nil _ _ _ _, Keeps.refl _ _⟩
  have hlI : ((zs.length : Int) != (S.houses : Int)) = false := by rw [hlen]; simp
  have hz8 : (zs.length : Int) ≤ 8 := by omega
  cases hneg : zs.any (fun z => decide (z < 0)) with
  | true =>
    have HP := Lib.hid (show wantedP S zs = (1, []) by unfold wantedP; rw [if_pos (.inr hneg)])
    rw [hneg] at HCN
    clear hlen hneg
    go_enter Tryz.func41, Tryz.ntmps41
    go_wp2_with (first | (go_at_call 77; refine HCN.out.mono ?_; rintro r W4 ⟨rfl, hk4⟩))
    go_ret2
    rw [HP.out]
    exact ⟨_, rfl, World.ownsRow_nil _ _ _ _, hk4⟩
  | false =>
    have HP := Lib.hid (show wantedP S zs = (0, wantTo S zs zs.length) by unfold wantedP; rw [if_neg (fun h => by rcases h with h | h; exact h hlen; rw [hneg] at h; cases h)])
    rw [hneg] at HCN
    clear hlen hneg
    obtain ⟨i0, hi, hz0, hz1, hz2⟩ := info_parts info_ent3
    go_enter Tryz.func41, Tryz.ntmps41
    go_wp2_with (first | (go_at_call 77; refine HCN.out.mono ?_; rintro r W4 ⟨rfl, hk4⟩; have HK4 := Lib.hid hk4; clear hk4))
    go_loopw [6, 22] (fun v i wr => ∃ k : Nat, k ≤ zs.length ∧ i = .int .i64 k ∧ WantAt w S zs k v wr) (fun _ i _ => zs.length - (intOf i).toNat)
    case atStart => exact ⟨0, Nat.zero_le _, rfl, ⟨by simpa [wantTo, entCells] using World.ownsRow_nil _ _ _ _, HK4.out⟩⟩
    case round =>
      obtain ⟨k, hk, rfl, hA⟩ := hrel
      by_cases hlt : k < zs.length
      · have hzk : zs[k]? = some zs[k] := by simp [hlt]
        obtain ⟨bb, off, rfl, d0⟩ := HC.out k zs[k] hzk
        have d0 := (hA.keeps.cell (p := ⟨bb, off + k, none⟩) (block_lt_of_cell d0) (fun h => h)).trans d0
        have hkI : (k : Int) < (zs.length : Int) := by omega
        have hsn := wantTo_succ S zs k _ hzk
        have hwl := wantTo_len S HOK.out zs k
        have hwl2 := wantTo_len S HOK.out zs (k + 1)
        rw [hsn, List.length_append] at hwl2
        have HSN := Lib.hid hsn
        have HA := Lib.hid hA
        have HFK := Lib.hid (HFR.out wr hA.keeps (k : Int) zs[k])
        have hws : w.heap.size ≤ wr.heap.size := hA.keeps.size
        clear hA hsn hzk
        generalize zs[k] = z at *
        generalize fromOf S (k : Int) z = FL at *
        go_wp2_with (first
          | (go_at_call 79; refine HFK.out.mono ?_; rintro r W5 ⟨v5, rfl, ho5, hk5⟩; have HO5 := Lib.hid ho5; have HK5 := Lib.hid hk5; have hw5 : wr.heap.size ≤ W5.heap.size := hk5.size; clear ho5 hk5)
          | (at_builtin; refine list_append_rowsG rfl _ _ _ rfl w.heap.size _ 64 i0 _ 3 32 Tryz.underlying44 hi hz0 hz1 hz2 rfl (by decide) _ _ (wantTo S zs k).length FL.length _ _ rfl (own_keep HA.out.own HK5.out (fun _ _ h => h)) rfl HO5.out (entCells_ones _) (by unfold maxLen; omega) (by omega) (by omega) ?_; intro v' w2 hown hgrow))
        have hnext : WantAt w S zs (k + 1) v' w2 := by
          refine ⟨?_, (HA.out.keeps.trans HK5.out).trans' (grownBy_keeps hgrow) (fun i hi e => ?_)⟩
          · rw [HSN.out, entCells_append, List.length_append]; exact hown
          · have := (HA.out.own.lt i e.symm).1; omega
        clear hown hgrow
        go_wp2
        go_roundw
        case rel => exact ⟨k + 1, by omega, by go_num, hnext⟩
        case measure => simp [intOf]; omega
      · obtain rfl : k = zs.length := by omega
        have HA := Lib.hid hA
        clear hA
        go_wp2
        go_ret2
        rw [HP.out]
        exact ⟨_, rfl, HA.out.own, HA.out.keeps⟩
end Go.Proofs.YtlbaagjbehdmgaaGreat

namespace Go.Proofs.YtlbaagjbehdmgaaGreat
theorem leastB_nil {L : List Ent} {h n : Nat} (hn : ∀ e ∈ L, e.house = (h : Int) → e.no = (n : Int) → False) : leastB L h n = none := by
  unfold leastB
  have := leastP_is L h n
  cases hl : leastP L h n with
  | none => rfl
  | some e =>
    rw [hl] at this
    exact (hn e this.1 this.2.2.1 this.2.2.2.1).elim
theorem leastB_one {L : List Ent} {h n : Nat} {b : List UInt8} (hm : (⟨h, n, b⟩ : Ent) ∈ L) (hv : (Ent.mk h n b).valid = true) (hu : ∀ e ∈ L, e.house = (h : Int) → e.no = (n : Int) → e.body = b) : leastB L h n = some b := by
  unfold leastB
  have := leastP_is L h n
  cases hl : leastP L h n with
  | none =>
    rw [hl] at this
    exact (this _ hm hv rfl rfl).elim
  | some e =>
    rw [hl] at this
    show some e.body = some b
    rw [hu e this.1 this.2.2.1 this.2.2.2.1]
theorem wantTo_mem {S : St} {zs : List Int} {k : Nat} {e : Ent} : e ∈ wantTo S zs k ↔ ∃ h : Nat, h < k ∧ e ∈ entsOf S ∧ e.house = h ∧ (zs[h]?).getD 0 ≤ e.no := by
  unfold wantTo
  rw [List.mem_flatten]
  constructor
  · rintro ⟨l, hl, he⟩
    obtain ⟨h, hh, rfl⟩ := List.mem_map.1 hl
    have := fromOf_mem.1 he
    exact ⟨h, List.mem_range.1 hh, this⟩
  · rintro ⟨h, hh, he⟩
    exact ⟨_, List.mem_map.2 ⟨h, List.mem_range.2 hh, rfl⟩, fromOf_mem.2 he⟩
/-- what a store sends to another -/
def sent (S S2 : St) : List Ent := wantTo S ((haveOf S2).map fun x : Nat => (x : Int)) S.houses
theorem have_at {S : St} {B : Nat → List (List UInt8)} (hb : ByH S B) {h : Nat} (hh : h < S.houses) : ((((haveOf S).map fun x : Nat => (x : Int))[h]?).getD 0) = ((B h).length : Int) := by
  rw [haveOf_join hb]
  simp [hh]
theorem sent_least {S S2 : St} {B B2 : Nat → List (List UInt8)} (hb : ByH S B) (hb2 : ByH S2 B2) (h8 : S.houses ≤ 8) (hh : S2.houses = S.houses) {h : Nat} (hlt : h < S.houses) (i : Nat) :
    leastB (sent S S2) h i = if i < (B2 h).length then none else (B h)[i]? := by
  have hz := have_at hb2 (h := h) (by omega)
  have mem : ∀ e ∈ sent S S2, e.house = (h : Int) → e.no = (i : Int) → (B2 h).length ≤ i ∧ (B h)[i]? = some e.body := fun e he e1 e2 => by
    obtain ⟨h', hh', m1, m2, m3⟩ := wantTo_mem.1 he
    have eh : h' = h := by omega
    subst eh
    rw [hz] at m3
    rw [hb.ents] at m1
    obtain ⟨h3, i3, b3, _, g, rfl⟩ := joinH_mem.1 m1
    dsimp only at e1 e2 m3 ⊢
    have e3 : h3 = h' := by omega
    have e4 : i3 = i := by omega
    subst e3 e4
    exact ⟨by omega, g⟩
  by_cases c : i < (B2 h).length
  · rw [if_pos c]
    exact leastB_nil fun e he e1 e2 => by have := (mem e he e1 e2).1; omega
  · rw [if_neg c]
    cases hg : (B h)[i]? with
    | none => exact leastB_nil fun e he e1 e2 => by have := (mem e he e1 e2).2; rw [hg] at this; cases this
    | some b =>
      have hm : (⟨h, i, b⟩ : Ent) ∈ joinH B S.houses := joinH_mem.2 ⟨h, i, b, hlt, hg, rfl⟩
      refine leastB_one (wantTo_mem.2 ⟨h, hlt, by rw [hb.ents]; exact hm, rfl, ?_⟩) (join_valid h8 hb.len hb.body _ hm).1 fun e he e1 e2 => ?_
      · rw [hz]
        show ((B2 h).length : Int) ≤ (i : Int)
        omega
      · have := (mem e he e1 e2).2
        rw [hg] at this
        exact (Option.some.inj this).symm
def longer (a b : List (List UInt8)) : List (List UInt8) := if a.length < b.length then b else a
theorem sent_new {S S2 : St} {B B2 : Nat → List (List UInt8)} (hb : ByH S B) (hb2 : ByH S2 B2) (h8 : S.houses ≤ 8) (hh : S2.houses = S.houses) {h : Nat} (hlt : h < S.houses)
    (hp : ∀ i, i < (B h).length → i < (B2 h).length → (B h)[i]? = (B2 h)[i]?) : newB (sent S S2) B2 h = longer (B2 h) (B h) := by
  have hl := hb2.len h (by omega)
  refine (newB_grown (sent S S2) B2 h hl).1.unique ⟨?_, ?_, ?_, ?_⟩
  · unfold longer; split <;> omega
  · intro i b hi
    have il := (List.getElem?_eq_some_iff.1 hi).1
    rw [sent_least hb hb2 h8 hh hlt, if_pos il]
    dsimp only
    unfold longer
    split
    · rw [hp i (by omega) il]; exact hi
    · exact hi
  · intro i h1 h2
    rw [sent_least hb hb2 h8 hh hlt, if_neg (by omega)]
    unfold longer at h2 ⊢
    split
    · rfl
    · rename_i c
      rw [if_neg c] at h2
      omega
  · rw [sent_least hb hb2 h8 hh hlt]
    unfold longer
    split
    · rw [if_neg (by omega), List.getElem?_eq_none (Nat.le_refl _)]
    · rw [if_neg (by omega), List.getElem?_eq_none (by omega)]
theorem longer_comm {a b : List (List UInt8)} (hp : ∀ i, i < a.length → i < b.length → a[i]? = b[i]?) : longer a b = longer b a := by
  unfold longer
  split
  · rw [if_neg (by omega)]
  · split
    · rfl
    · apply List.ext_getElem?
      intro i
      by_cases c : i < a.length
      · exact hp i c (by omega)
      · rw [List.getElem?_eq_none (by omega), List.getElem?_eq_none (by omega)]
/-- what one sends to the other -/
theorem agree_new {S S2 : St} {B B2 : Nat → List (List UInt8)} (hb : ByH S B) (hb2 : ByH S2 B2) (h8 : S.houses ≤ 8) (hh : S2.houses = S.houses) {h : Nat} (hlt : h < S.houses)
    (hp : ∀ i, i < (B h).length → i < (B2 h).length → (B h)[i]? = (B2 h)[i]?) : newB (sent S S2) B2 h = newB (sent S2 S) B h := by
  rw [sent_new hb hb2 h8 hh hlt hp, sent_new hb2 hb (by omega) hh.symm (by omega) fun i a b => (hp i b a).symm]
  exact longer_comm fun i a b => (hp i b a).symm
theorem wanted_sent {S S2 : St} {B2 : Nat → List (List UInt8)} (hb2 : ByH S2 B2) (hh : S2.houses = S.houses) : wantedP S ((haveOf S2).map fun x : Nat => (x : Int)) = (0, sent S S2) := by
  have hj := haveOf_join hb2
  have hl : ((haveOf S2).map fun x : Nat => (x : Int)).length = S.houses := by rw [List.length_map, hj]; simp [hh]
  have hn : ((haveOf S2).map fun x : Nat => (x : Int)).any (fun z => decide (z < 0)) = false := by
    rw [List.any_eq_false]
    intro z hz
    obtain ⟨x, _, rfl⟩ := List.mem_map.1 hz
    simp
  unfold wantedP sent
  rw [if_neg (fun h => by rcases h with h | h; exact h hl; rw [hn] at h; cases h), hl]
theorem sent_len {S S2 : St} (h8 : S.houses ≤ 8) (hok : S.ok) : (sent S S2).length ≤ 10000 := by
  have := wantTo_len S hok ((haveOf S2).map fun x : Nat => (x : Int)) S.houses
  unfold sent
  omega
/-- what a store sends is of its own -/
theorem sent_mem {S S2 : St} {e : Ent} (h : e ∈ sent S S2) : e ∈ entsOf S := by
  obtain ⟨_, _, h1, _⟩ := wantTo_mem.1 h
  exact h1
/-! ### begins -/
theorem filter_join (B : Nat → List (List UInt8)) (h : Nat) : ∀ H, (joinH B H).filter (fromE h 0) = if h < H then houseL h (B h) else []
  | 0 => by simp [joinH]
  | H + 1 => by
    rw [joinH, List.filter_append, filter_join B h H]
    have hf : (houseL H (B H)).filter (fromE h 0) = if h = H then houseL H (B H) else [] := by
      split
      · rename_i e
        refine List.filter_eq_self.2 fun x hx => ?_
        obtain ⟨i, b, _, rfl⟩ := houseL_mem.1 hx
        simp [fromE, e]
      · rename_i e
        refine List.filter_eq_nil_iff.2 fun x hx => ?_
        obtain ⟨i, b, _, rfl⟩ := houseL_mem.1 hx
        simp [fromE]
        omega
    rw [hf]
    by_cases c : h < H
    · rw [if_pos c, if_neg (by omega), if_pos (by omega), List.append_nil]
    · rw [if_neg c, List.nil_append]
      by_cases c2 : h = H
      · rw [if_pos c2, if_pos (by omega), c2]
      · rw [if_neg c2, if_neg (by omega)]
theorem ByH.from0 {S : St} {B : Nat → List (List UInt8)} (hb : ByH S B) {h : Nat} (hh : h < S.houses) : fromOf S h 0 = houseL h (B h) := by
  unfold fromOf
  rw [hb.ents, filter_join, if_pos hh]
/-- do two stores begin alike? -/
def beginsP (S S2 : St) (h : Nat) : Bool := decide ((fromOf S h 0).take (min (fromOf S h 0).length (fromOf S2 h 0).length) = (fromOf S2 h 0).take (min (fromOf S h 0).length (fromOf S2 h 0).length))
theorem beginsP_spec {S S2 : St} {B B2 : Nat → List (List UInt8)} (hb : ByH S B) (hb2 : ByH S2 B2) (hh : S2.houses = S.houses) {h : Nat} (hlt : h < S.houses) (hp : beginsP S S2 h = true) :
    ∀ i, i < (B h).length → i < (B2 h).length → (B h)[i]? = (B2 h)[i]? := fun i h1 h2 => by
  unfold beginsP at hp
  rw [hb.from0 hlt, hb2.from0 (by omega), houseL_length, houseL_length] at hp
  have e := congrArg (fun l => l[i]?) (of_decide_eq_true hp)
  rw [List.getElem?_take_of_lt (by omega), List.getElem?_take_of_lt (by omega), houseL_get, houseL_get, List.getElem?_eq_getElem h1, List.getElem?_eq_getElem h2] at e
  rw [List.getElem?_eq_getElem h1, List.getElem?_eq_getElem h2]
  simp only [Option.map_some, Option.some.injEq, Ent.mk.injEq, true_and] at e
  rw [e]
end Go.Proofs.YtlbaagjbehdmgaaGreat
