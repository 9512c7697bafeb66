/- StoreOnce. -/
import Derived.StillTailTactics
import Derived.Test.YtlbaagjbehdmgaaGreatM38
import Derived.Test.YtlbaagjbehdmgaaGreatM41
import Derived.Test.YtlbaagjbehdmgaaGreatM40
import Derived.Test.YtlbaagjbehdmgaaGreatM42
namespace Go.Proofs.YtlbaagjbehdmgaaGreat
open Go.RowKit

def gAt (G : List Ent) (i : Nat) : Ent := (G[i]?).getD ⟨0, 0, []⟩
/-- the entries in another order -/
def backTo (G : List Ent) (t k : Nat) : List Ent := ((List.range k).map fun j => [gAt G ((G.length - 1 - j + t) % G.length), gAt G (G.length - 1 - j)]).flatten
theorem backTo_succ (G : List Ent) (t k : Nat) : backTo G t (k + 1) = backTo G t k ++ [gAt G ((G.length - 1 - k + t) % G.length), gAt G (G.length - 1 - k)] := by
  unfold backTo
  rw [List.range_succ, List.map_append, List.flatten_append]; simp
theorem backTo_len (G : List Ent) (t : Nat) : ∀ k, (backTo G t k).length = 2 * k
  | 0 => rfl
  | k + 1 => by rw [backTo_succ, List.length_append, backTo_len G t k]; simp; omega
theorem gAt_mem {G : List Ent} {i : Nat} (h : i < G.length) : gAt G i ∈ G := by
  unfold gAt
  rw [List.getElem?_eq_getElem h, Option.getD_some]
  exact List.getElem_mem h
theorem backTo_mem {G : List Ent} {t : Nat} (e : Ent) : e ∈ backTo G t G.length ↔ e ∈ G := by
  unfold backTo
  rw [List.mem_flatten]
  constructor
  · rintro ⟨l, hl, he⟩
    obtain ⟨j, hj, rfl⟩ := List.mem_map.1 hl
    have hj' := List.mem_range.1 hj
    simp only [List.mem_cons, List.not_mem_nil, or_false] at he
    rcases he with rfl | rfl
    · exact gAt_mem (Nat.mod_lt _ (by omega))
    · exact gAt_mem (by omega)
  · intro he
    obtain ⟨i, hi⟩ := List.getElem?_of_mem he
    have hil := (List.getElem?_eq_some_iff.1 hi).1
    refine ⟨_, List.mem_map.2 ⟨G.length - 1 - i, List.mem_range.2 (by omega), rfl⟩, ?_⟩
    have e1 : G.length - 1 - (G.length - 1 - i) = i := by omega
    rw [e1]
    have : gAt G i = e := by unfold gAt; rw [hi]; rfl
    rw [this]; simp
theorem slice_ent2 (w : World) (h n h' n' : Int) (s s' : ByteArray) : (Instr.buildSlice 44 2 #[(0, .agg #[.int .i64 h, .int .i64 n, .string s]), (1, .agg #[.int .i64 h', .int .i64 n', .string s'])]).run Tryz.prog w = .ok (.slice (some ⟨w.heap.size, 0, none⟩) 2 2) (w.alloc (.cells #[.int .i64 h, .int .i64 n, .string s, .int .i64 h', .int .i64 n', .string s'] 64)) := by kernel_rfl
theorem want_none {S : St} {B : Nat → List (List UInt8)} (hb : ByH S B) : wantedP S ((haveOf S).map fun x : Nat => (x : Int)) = (0, []) := by
  have hj := haveOf_join hb
  have hl : ((haveOf S).map fun x : Nat => (x : Int)).length = S.houses := by rw [List.length_map, hj]; simp
  have hn : ((haveOf S).map fun x : Nat => (x : Int)).any (fun z => decide (z < 0)) = false := by
    rw [List.any_eq_false]
    intro z hz
    obtain ⟨x, _, rfl⟩ := List.mem_map.1 hz
    simp
  unfold wantedP
  rw [if_neg (fun h => by rcases h with h | h; exact h hl; rw [hn] at h; cases h), hl]
  have : wantTo S ((haveOf S).map fun x : Nat => (x : Int)) S.houses = [] := by
    unfold wantTo
    rw [List.flatten_eq_nil_iff]
    intro l hl'
    obtain ⟨h, hh, rfl⟩ := List.mem_map.1 hl'
    have hh' := List.mem_range.1 hh
    refine fromOf_none hb ?_
    rw [hj]
    simp [hh']
  rw [this]
/-- a block of entries is apart of a store -/
theorem Live.entBlk {base : Nat} {w : World} {s d : Nat} {fp : Nat → Prop} {D : Dsk} {S : St} {F : Option St} {falls : Int} (h : Live base w s d fp D S F falls) {b : Nat} {cs : Array Value} {fr : Nat × Nat} (hc : w.heap[b]? = some (.cells cs 64 fr)) : ¬ foot fp s b := fun hf => by
  rcases hf with hf | hf
  · exact h.disk.not_of_type hc (by decide) (by decide) (by decide) hf
  · obtain ⟨cb, fv, hs⟩ := h.store
    rw [hf, hs.blk] at hc
    injection hc with hc
    injection hc with _ hc _
    exact absurd hc (by decide)
structure BackAt (w : World) (G : List Ent) (t k : Nat) (v : Value) (wr : World) : Prop where
  own : wr.ownsRow w.heap.size 64 3 v (backTo G t k).length (entCells (backTo G t k))
  keeps : Keeps None' w wr
set_option maxRecDepth 100000 in
set_option maxHeartbeats 20000000 in
theorem onceLaw_any (w : World) (h p : Int) (tn : Nat) (v vz : Value) (L : List Ent) (zs : List Int) (hv : EntSl w v L) (hz : IntSl w vz zs) (ht : tn < 256) :
    Calls Tryz.prog 5 #[.agg #[.int .i64 h, .int .i64 p, v], vz, .int .u8 (tn : Int)] w fun e w' => e = .returned (.bool true) ∧ Keeps None' w w' := by
  obtain ⟨va, vcap, rfl⟩ := hv.shape
  obtain ⟨za, zcap, rfl⟩ := hz.shape
  have HSN := Lib.hid (fun W => sane_any W)
  have HV := Lib.hid hv
  have HZ := Lib.hid hz
  have hk0 : Keeps None' w (w.alloc (.cells #[.int .i64 h, .int .i64 p, .slice va L.length vcap] 46)) := (Keeps.refl _ _).alloc _
  have hbl := heap_alloc_new w (.cells #[.int .i64 h, .int .i64 p, .slice va L.length vcap] 46)
  have HBX := Lib.hid (fun W (k : Keeps None' (w.alloc (.cells #[.int .i64 h, .int .i64 p, .slice va L.length vcap] 46)) W) => (⟨cell_of_blk (k.blk hbl (fun h => h)) 0 rfl, cell_of_blk (k.blk hbl (fun h => h)) 1 rfl, cell_of_blk (k.blk hbl (fun h => h)) 2 rfl⟩ : W.cell? ⟨w.heap.size, 0, none⟩ = some (.int .i64 h) ∧ W.cell? ⟨w.heap.size, 1, none⟩ = some (.int .i64 p) ∧ W.cell? ⟨w.heap.size, 2, none⟩ = some (.slice va L.length vcap)))
  have HLT := Lib.hid (fun W (k : Keeps None' w W) => little_any W h p _ L (hv.keep k))
  have HK0 := Lib.hid hk0
  clear hv hz hbl hk0
  by_cases hli : littleP h p L = true
  case neg =>
    have hli' : littleP h p L = false := by simpa using hli
    rw [hli'] at HLT
    clear hli hli'
    go_enter Tryz.func5, Tryz.ntmps5
    go_wp2_with (first
      | (go_at_call 11; refine (HSN.out _).mono ?_; rintro e W1 ⟨rfl, hk1⟩; obtain ⟨b0, b1, b2⟩ := HBX.out W1 hk1; have HK1 := Lib.hid (HK0.out.trans hk1); clear hk1)
      | (go_at_call 32; refine (HLT.out _ HK1.out).mono ?_; rintro e W2 ⟨rfl, hk2⟩; have HK2 := Lib.hid (HK1.out.trans hk2); clear hk2))
    go_ret
    exact ⟨rfl, HK2.out⟩
  rw [hli] at HLT
  by_cases hz24 : zs.length ≤ 24
  case neg =>
    have hz24I : (24 : Int) < (zs.length : Int) := by omega
    clear hli
    go_enter Tryz.func5, Tryz.ntmps5
    go_wp2_with (first
      | (go_at_call 11; refine (HSN.out _).mono ?_; rintro e W1 ⟨rfl, hk1⟩; obtain ⟨b0, b1, b2⟩ := HBX.out W1 hk1; have HK1 := Lib.hid (HK0.out.trans hk1); clear hk1)
      | (go_at_call 32; refine (HLT.out _ HK1.out).mono ?_; rintro e W2 ⟨rfl, hk2⟩; have HK2 := Lib.hid (HK1.out.trans hk2); clear hk2))
    go_ret
    exact ⟨rfl, HK2.out⟩
  obtain ⟨g1, g2, g3, g4, g5, g6⟩ := littleP_spec hli
  obtain ⟨hn, rfl⟩ : ∃ n : Nat, h = (n : Int) := ⟨h.toNat, by omega⟩
  clear hli g6
  have HPK := Lib.hid (fun W (k : Keeps None' w W) => pick_any W (hn : Int) p _ _ L zs (HV.out.keep k) (HZ.out.keep k) (by omega))
  have hgl : (pickE L zs).length ≤ 24 := Nat.le_trans (pickE_len _ _) hz24
  generalize pickE L zs = G at *
  have hqs : ∀ (W : World) (d : Nat), (binOp .eql 50 (.pointer (some ⟨d, 0, none⟩)) (.pointer none)).run Tryz.prog W = .ok (.bool false) W := fun W d => by kernel_rfl
  obtain ⟨i0, hi, hz0, hz1, hz2⟩ := info_parts info_ent3
  have hb2 := slice_ent2
  go_enter Tryz.func5, Tryz.ntmps5
  go_upto_region 7 with (first
    | (go_at_call 11; refine (HSN.out _).mono ?_; rintro e W1 ⟨rfl, hk1⟩; obtain ⟨b0, b1, b2⟩ := HBX.out W1 hk1; have HK1 := Lib.hid (HK0.out.trans hk1); have HKX1 := Lib.hid hk1; clear hk1)
    | (go_at_call 32; refine (HLT.out _ HK1.out).mono ?_; rintro e W2 ⟨rfl, hk2⟩; have HK2 := Lib.hid (HK1.out.trans hk2); have HKX2 := Lib.hid (HKX1.out.trans hk2); clear b0 b1 b2; obtain ⟨b0, b1, b2⟩ := HBX.out W2 HKX2.out; clear hk2)
    | (go_at_call 33; refine (HPK.out _ HK2.out).mono ?_; rintro e W3 ⟨vg, rfl, hg, hk3⟩; have HG := Lib.hid hg; have HK3 := Lib.hid (HK2.out.trans hk3); have HKX3 := Lib.hid (HKX2.out.trans hk3); clear b0 b1 b2 hk3 hg))
  clear HSN HLT HPK HKX1 HKX2 HV HZ
  obtain ⟨gva, gvcap, rfl⟩ := (EntSl.of_own HG.out).shape
  have hglI : (G.length : Int) ≤ 24 := by omega
  go_wp2_with fail
  go_loopw [8, 9] (fun v i wr => ∃ k m : Nat, k + m = G.length ∧ i = .int .i64 ((m : Int) - 1) ∧ BackAt W3 G tn k v wr) (fun _ i _ => (intOf i + 1).toNat)
  case atStart => exact ⟨0, G.length, by omega, rfl, ⟨by simpa [backTo, entCells] using World.ownsRow_nil _ _ _ _, Keeps.refl _ _⟩⟩
  case round =>
    obtain ⟨k, m, hk, rfl, hA⟩ := hrel
    by_cases hlt : k < G.length
    · obtain ⟨m, rfl⟩ : ∃ q, m = q + 1 := ⟨m - 1, by omega⟩
      have em : ((m + 1 : Nat) : Int) - 1 = (m : Int) := by omega
      rw [em]
      have hml : m < G.length := by omega
      have hjl : (m + tn) % G.length < G.length := Nat.mod_lt _ (by omega)
      have hsn := backTo_succ G tn k
      rw [show G.length - 1 - k = m by omega] at hsn
      have hbl := backTo_len G tn k
      have hmod0 : ((m : Int) + (tn : Int)).tmod (G.length : Int) = (((m + tn) % G.length : Nat) : Int) := by
        rw [Int.tmod_eq_emod_of_nonneg (by omega)]
        rw [Int.natCast_emod, Int.natCast_add]
      have hgs := EntSl.of_own (own_keep HG.out hA.keeps (fun _ _ h => h))
      obtain ⟨bg, og, hgv, hbgl, hgc, -, -, -⟩ := hgs.get m hml
      cases hgv
      have hce : ∀ W, Keeps None' W3 W → ∀ i, (hil : i < G.length) → W.cell? ⟨bg, og + i * 3, none⟩ = some (.int .i64 (gAt G i).house) ∧ W.cell? ⟨bg, og + i * 3 + 1, none⟩ = some (.int .i64 (gAt G i).no) ∧ W.cell? ⟨bg, og + i * 3 + 2, none⟩ = some (.string (str (gAt G i).body)) := fun W hW i hil => by
        obtain ⟨b', o', he, _, _, c0, c1, c2⟩ := (EntSl.of_own (own_keep HG.out hW (fun _ _ h => h))).get i hil
        injection he with he
        injection he with he1 he2
        subst he1 he2
        have eg : gAt G i = G[i] := by unfold gAt; rw [List.getElem?_eq_getElem hil]; rfl
        rw [eg]
        exact ⟨c0, c1, c2⟩
      generalize hjq : (m + tn) % G.length = j at *
      have HCE := Lib.hid (fun W (hW : Keeps None' W3 W) => And.intro (hce W hW j hjl) (hce W hW m hml))
      have HA := Lib.hid hA
      have HSN := Lib.hid hsn
      have HBL := Lib.hid hbl
      have hw3 : W3.heap.size ≤ wr.heap.size := hA.keeps.size
      have hnz : ¬ (G.length : Int) = 0 := by omega
      have hnz1 : ¬ G.length = 0 := by omega
      have hnz2 : ¬ G = [] := fun e => by rw [e] at hnz1; exact hnz1 rfl
      have hmI : (m : Int) < (G.length : Int) := by omega
      have hjI : (j : Int) < (G.length : Int) := by omega
      have hm0 : (0 : Int) ≤ (m : Int) := by omega
      have hj0 : (0 : Int) ≤ (j : Int) := by omega
      have hne : (backTo G tn k).length + 2 ≤ 100 := by omega
      generalize gAt G j = X at *
      generalize gAt G m = Y at *
      have hwa : IntKind.i64.wrap ((m : Int) + (tn : Int)) = (m : Int) + (tn : Int) := IntWalk.i64_in _ (by omega)
      have hwb : IntKind.i64.wrap (tn : Int) = (tn : Int) := IntWalk.i64_in _ (by omega)
      have HKQ := Lib.hid hk
      clear hA hsn hbl hgs hce hjq em hml hjl hlt hk
      go_wp2_with fail
      go_region_held3 (fun W => (W.cell? ⟨bg, og + j * 3, none⟩ = some (.int .i64 X.house) ∧ W.cell? ⟨bg, og + j * 3 + 1, none⟩ = some (.int .i64 X.no) ∧ W.cell? ⟨bg, og + j * 3 + 2, none⟩ = some (.string (str X.body))) ∧ (W.cell? ⟨bg, og + m * 3, none⟩ = some (.int .i64 Y.house) ∧ W.cell? ⟨bg, og + m * 3 + 1, none⟩ = some (.int .i64 Y.no) ∧ W.cell? ⟨bg, og + m * 3 + 2, none⟩ = some (.string (str Y.body))))
        (first | exact HCE.out _ HKN.out | exact HCE.out _ (HA.out.keeps.drew.alloc _) | exact HCE.out _ HA.out.keeps.drew | exact HCE.out _ HA.out.keeps)
        ((refine step_append_own (by rfl) _ _ _ (by rfl) W3.heap.size 64 i0 _ 3 32 Tryz.underlying44 hi hz0 hz1 hz2 (by rfl) (by decide) u8 (backTo G tn k).length (entCells (backTo G tn k)) (by rfl) (by exact own_keep HA.out.own ((Keeps.refl None' wr).drew.alloc _) (fun _ _ h => h)) ⟨wr.heap.size, 0, none⟩ 2 2 [.int .i64 X.house, .int .i64 X.no, .string (str X.body), .int .i64 Y.house, .int .i64 Y.no, .string (str Y.body)] (by rfl) (by rfl) (by intro t u ht; rw [Addr.add_lit, Nat.zero_add]; exact cell_of_blk (w := wr.drew.alloc _) (heap_alloc_new wr.drew _) t (by simpa using ht)) (fun u hu => entCells_ones [X, Y] u (by simpa [entCells] using hu)) (by unfold maxLen; omega) (by omega) (by simp; omega) ?_; intro v' w2 hown hgrow hfr; have HOW := Lib.hid hown; have HKN := Lib.hid ((HA.out.keeps.drew.alloc _).trans' (grownBy_keeps hgrow) (fun i hi e => by have := (HA.out.own.lt i e.symm).1; omega)); clear hown hgrow hfr))
      all_goals
        try simp only [Exit.then]
        go_wp2
        go_roundw
        case rel =>
          refine ⟨k + 1, m, by have := HKQ.out; omega, rfl, ?_, HKN.out⟩
          rw [HSN.out, entCells_append, List.length_append]
          simpa [entCells] using HOW.out
        case measure => simp [intOf]
    · obtain rfl : m = 0 := by omega
      obtain rfl : k = G.length := by omega
      have hb := hA.own
      have HB := Lib.hid hb
      have HKB := Lib.hid hA.keeps
      clear hA hb
      have hlB := backTo_len G tn G.length
      have hmem := fun e => backTo_mem (G := G) (t := tn) e
      generalize backTo G tn G.length = Bk at *
      obtain ⟨bva, bvcap, rfl⟩ := (EntSl.of_own HB.out).shape
      have HMEM := Lib.hid hmem
      have hkw := HKX3.out.trans HKB.out
      obtain ⟨b0, b1, b2⟩ := HBX.out wr hkw
      have hg4 := own_keep HG.out HKB.out (fun _ _ h => h)
      have HGK := Lib.hid (fun W (k : Keeps None' wr W) => EntSl.of_own (own_keep hg4 k (fun _ _ h => h)))
      have HBK := Lib.hid (fun W (k : Keeps None' wr W) => EntSl.of_own (own_keep HB.out k (fun _ _ h => h)))
      have HA1 := Lib.hid (fun W (k : Keeps None' wr W) => after_any W hn p va L.length vcap _ G (by omega) (by omega) (by omega) (HGK.out W k))
      have HA2 := Lib.hid (fun W (k : Keeps None' wr W) => after_any W hn p va L.length vcap _ Bk (by omega) (by omega) (by omega) (HBK.out W k))
      have HBXr := Lib.hid (fun W (k : Keeps None' wr W) => HBX.out W (hkw.trans k))
      clear hmem hkw hlB hg4
      go_wp2_with fail
      go_region_held3 (fun W => W.cell? ⟨w.heap.size, 0, none⟩ = some (.int .i64 (hn : Int)) ∧ W.cell? ⟨w.heap.size, 1, none⟩ = some (.int .i64 p) ∧ W.cell? ⟨w.heap.size, 2, none⟩ = some (.slice va L.length vcap))
        (first | exact HBXr.out _ HKq2.out | exact HBXr.out _ HKq1.out | exact HBXr.out _ (Keeps.refl None' wr).drew | exact HBXr.out _ (Keeps.refl None' wr))
        (first
        | (go_at_call 34; first
          | ((with_reducible refine (HA2.out _ HKq1.out).mono ?_); rintro e W5 ⟨s2, d2, fp2, D2, S2, F2, rfl, hA2, hk5⟩; have HKq2 := Lib.hid (HKq1.out.trans hk5); have HX2 := Lib.hid hA2; have HL2 := Lib.hid (hA2.live.down (base' := wr.heap.size) HKq1.out.size); have HAP := Lib.hid (apart_later HL1.out hA2.live (Nat.le_refl _)); have HL1 := Lib.hid (HL1.out.keep hk5); clear hk5 hA2)
          | ((with_reducible refine (HA1.out _ HKq1.out).mono ?_); rintro e W5 ⟨s1, d1, fp1, D1, S1, F1, rfl, hA1, hk5⟩; have HKq2 := Lib.hid (HKq1.out.trans hk5); have HX1 := Lib.hid hA1; have HL1 := Lib.hid (hA1.live.down (base' := wr.heap.size) HKq1.out.size); have HAP := Lib.hid (apart_later HL2.out hA1.live (Nat.le_refl _)).symm; have HL2 := Lib.hid (HL2.out.keep hk5); clear hk5 hA1)
          | ((with_reducible refine (HA1.out _ (Keeps.refl None' wr).drew).mono ?_); rintro e W4 ⟨s1, d1, fp1, D1, S1, F1, rfl, hA1, hk4⟩; have HKq1 := Lib.hid ((Keeps.refl None' wr).drew.trans hk4); have HX1 := Lib.hid hA1; have HL1 := Lib.hid (hA1.live.down (base' := wr.heap.size) (Nat.le_refl _)); clear hk4 hA1)
          | ((with_reducible refine (HA2.out _ (Keeps.refl None' wr).drew).mono ?_); rintro e W4 ⟨s2, d2, fp2, D2, S2, F2, rfl, hA2, hk4⟩; have HKq1 := Lib.hid ((Keeps.refl None' wr).drew.trans hk4); have HX2 := Lib.hid hA2; have HL2 := Lib.hid (hA2.live.down (base' := wr.heap.size) (Nat.le_refl _)); clear hk4 hA2)))
      all_goals
        try simp only [Exit.then]
        have x1 := HX1.out
        have x2 := HX2.out
        have hee : entsOf S1 = entsOf S2 := by
          rw [x1.byH.ents, x2.byH.ents, x1.houses, x2.houses]
          exact joinH_congr (fun k _ => newB_congr (fun e => (HMEM.out e).symm) _ k)
        have HSAME := Lib.hid (same_live HL1.out HL2.out x1.byH x2.byH (by rw [x1.houses]; omega) hee (by rw [x1.houses, x2.houses]))
        clear x1 x2 hee
        go_upto_region 14 with (first | (go_at_call 40; refine HSAME.out.mono ?_; rintro e W6 ⟨rfl, hk6⟩; have HK6 := Lib.hid hk6; clear hk6))
        have hl6 := HL1.out.keep HK6.out
        obtain ⟨cb1, hcb1⟩ := hl6.cell0
        have HALL := Lib.hid (fun W (k : Keeps None' W6 W) => all_sl cb1 S1 W (hcb1 W k).2)
        have HFREE := Lib.hid (fun W (k : Keeps None' W6 W) => free_live (hl6.keep k) (by rw [HX1.out.len]; omega) _ rfl)
        generalize hfr : (freeOf D1 S1 F1).length = fr at *
        have HFR := Lib.hid hfr
        have y0 := (hcb1 W6 (Keeps.refl _ _)).1
        have HL6 := Lib.hid hl6
        clear hl6 hcb1 hfr
        go_upto_region 16 with (first
          | (go_at_call 36; refine (HALL.out _ (Keeps.refl _ _)).mono ?_; rintro e W7 ⟨a7, c7, rfl, ho7, hE7, hk7⟩; have HO7 := Lib.hid ho7; have HK7 := Lib.hid hk7; clear ho7 hE7 hk7)
          | (go_at_call 37; refine (HFREE.out _ HK7.out).mono ?_; rintro e W8 ⟨rfl, hk8⟩; have HK8 := Lib.hid (HK7.out.trans hk8); have HO8 := Lib.hid (own_keep HO7.out hk8 (fun _ _ h => h)); clear hk8))
        have hl8 := HL6.out.keep HK8.out
        have ht8 := take_same (D := D1) (F := F1) HX1.out.byH G (fun k hk => newB_again G (by simp))
        rw [HX1.out.falls] at ht8
        have hgw : Keeps None' wr W8 := (HKq2.out.trans HK6.out).trans HK8.out
        have hc8 := take_live hl8 HX1.out.inv HX1.out.byH _ G (by omega) (HGK.out W8 hgw)
        rw [ht8] at hc8
        have HC8 := Lib.hid (show Calls Tryz.prog 39 #[.pointer (some ⟨s1, 0, none⟩), .slice gva G.length gvcap] W8 fun e w' => e = .returned (.tuple #[.int .i64 0, .int .i64 0]) ∧ ∃ fp', SStep W8 s1 d1 fp1 w' D1 S1 F1 0 fp' from hc8)
        have HGW := Lib.hid hgw
        have HL8 := Lib.hid hl8
        clear hl8 ht8 hgw hc8 y0
        go_upto_region 17 with (first
          | (go_at_call 39; refine HC8.out.mono ?_; rintro e W9 ⟨rfl, fp9, hs9⟩; have HS9 := Lib.hid hs9; clear hs9))
        have hl9 := HL8.out.step HGW.out.size HS9.out
        have ho9 := own_keep HO8.out HS9.out.keeps (HL8.out.row HO8.out)
        have hkw9 : Keeps None' w W9 := by
          have h1 := ((HK3.out.trans HKB.out).trans HGW.out)
          exact h1.trans' HS9.out.keeps (fun i hi hf => by have := HL8.out.ge hf; have := (HK3.out.trans HKB.out).size; omega)
        obtain ⟨cb9, hcb9⟩ := hl9.cell0
        have HCB9 := Lib.hid hcb9
        have hok := HX1.out.inv.legal.ok
        have HHAVE := Lib.hid (fun W (k : Keeps None' W9 W) => have_sl cb9 S1 W (hcb9 W k).2 (HX1.out.byH.inHouse hok.houses))
        have hwn := want_none HX1.out.byH
        have HWANT := Lib.hid (fun W v (k : Keeps None' W9 W) (hI : ISlice W v (haveOf S1)) => show Calls Tryz.prog 41 #[.pointer (some ⟨cb9, 0, none⟩), v] W fun e w' => ∃ a c, e = .returned (.tuple #[.slice a 0 c, .int .i64 0]) ∧ Keeps None' W w' by
          have := wanted_any cb9 S1 W v _ (hcb9 W k).2 hI.num (by rw [List.length_map]; unfold haveOf; rw [haveTo_length]; have := hok.houses; omega)
          rw [hwn] at this
          refine this.mono ?_
          rintro e w' ⟨v', rfl, ho, hk⟩
          obtain ⟨a, c, rfl⟩ := own_shape ho
          exact ⟨a, c, rfl, hk⟩)
        have HALL9 := Lib.hid (fun W (k : Keeps None' W9 W) => all_sl cb9 S1 W (hcb9 W k).2)
        have HFREE9 := Lib.hid (fun W (k : Keeps None' W9 W) => show Calls Tryz.prog 37 #[.pointer (some ⟨s1, 0, none⟩)] W fun e w' => e = .returned (.int .i64 (fr : Int)) ∧ Keeps None' W w' from free_live (hl9.keep k) (by rw [HX1.out.len]; omega) fr HFR.out)
        have HL9 := Lib.hid hl9
        have HO9 := Lib.hid ho9
        have HKW9 := Lib.hid hkw9
        have HOK := Lib.hid hok
        have y0 := (hcb9 W9 (Keeps.refl _ _)).1
        clear hl9 ho9 hkw9 hcb9 hok hwn
        go_wp2_with fail
        go_region_held3 (fun W => W.cell? ⟨s1, 0, none⟩ = some (.pointer (some ⟨cb9, 0, none⟩)))
          (first | exact (HCB9.out _ HKe2.out).1 | exact (HCB9.out _ HKe1.out).1 | exact (HCB9.out _ (Keeps.refl None' W9).drew).1 | exact (HCB9.out _ (Keeps.refl None' W9)).1)
          (first
          | (go_at_call 42; refine (HHAVE.out _ (Keeps.refl None' W9).drew).mono ?_; rintro e W10 ⟨a10, c10, rfl, hI10, hk10⟩; have HI10 := Lib.hid hI10; have HKe1 := Lib.hid ((Keeps.refl None' W9).drew.trans hk10); clear hI10 hk10)
          | (go_at_call 41; refine (HWANT.out _ _ HKe1.out HI10.out).mono ?_; rintro e W11 ⟨a11, c11, rfl, hk11⟩; have HKe2 := Lib.hid (HKe1.out.trans hk11); clear hk11))
        all_goals
          try simp only [Exit.then]
          have HEQ := Lib.hid (fun (W : World) (v1 v2 : Value) (k1 : EntSl W v1 (entsOf S1)) (k2 : EntSl W v2 (entsOf S1)) => show Calls Tryz.prog 43 #[v1, v2] W fun e w' => e = .returned (.bool true) ∧ Keeps None' W w' by
            have := equalE_any v1 v2 _ _ W k1 k2 (by rw [entries_len]; have := HOK.out.few; omega)
            simpa using this)
          have HE9 := Lib.hid (fun W (k : Keeps None' W9 W) => EntSl.of_own (own_keep HO9.out k (fun _ _ h => h)))
          clear y0
          have y0 := (HCB9.out _ HKe2.out).1
          go_upto_region 20 with (first
            | (go_at_call 36; refine (HALL9.out _ HKe2.out).mono ?_; rintro e W12 ⟨a12, c12, rfl, -, hE12, hk12⟩; have HKe3 := Lib.hid (HKe2.out.trans hk12); have HE12 := Lib.hid hE12; clear hE12 hk12)
            | (go_at_call 43; refine (HEQ.out _ _ _ HE12.out (HE9.out _ HKe3.out)).mono ?_; rintro e W13 ⟨rfl, hk13⟩; have HKe4 := Lib.hid (HKe3.out.trans hk13); clear hk13)
            | (go_at_call 37; refine (HFREE9.out _ HKe4.out).mono ?_; rintro e W14 ⟨rfl, hk14⟩; have HKe5 := Lib.hid (HKe4.out.trans hk14); clear hk14))
          clear y0
          have hlE : (entsOf S1).length ≤ 1024 := by rw [entries_len]; exact HOK.out.few
          have hlEI : ((entsOf S1).length : Int) ≤ 1024 := by omega
          have hlE2 : S1.entries.length ≤ 24 := by
            have := new_len G hn
            have e := HX1.out.byH.ents
            rw [HX1.out.houses] at e
            rw [← e, entries_len] at this
            omega
          have hfoll : ∀ k e, (entsOf S1)[k]? = some e → followsE (8 : Int) ((entsOf S1).take k) e = true := by
            rw [HX1.out.byH.ents]
            exact join_follows S1.houses HOK.out.houses HX1.out.byH.len HX1.out.byH.body 8 (by have := HOK.out.houses; omega)
          have hval : ∀ e ∈ entsOf S1, e.valid = true := fun e he => by
            rw [HX1.out.byH.ents] at he
            exact (join_valid HOK.out.houses HX1.out.byH.len HX1.out.byH.body e he).1
          have hsort : Sorted (entsOf S1) := by rw [HX1.out.byH.ents]; exact join_sorted _ _
          have hadd : ∀ e ∈ entsOf S1, ∀ W fp, Live wr.heap.size W s1 d1 fp D1 S1 F1 0 → Calls Tryz.prog 44 #[.pointer (some ⟨s1, 0, none⟩), .agg #[.int .i64 e.house, .int .i64 e.no, .string (str e.body)]] W fun r w' => r = .returned (.int .i64 0) ∧ ∃ fp', SStep W s1 d1 fp w' D1 S1 F1 0 fp' := fun e he W fp hl => by
            have h1 := add_any W s1 d1 D1 fp S1 F1 0 e hl.store hl.disk (by rw [HX1.out.len]; omega) (by rw [HX1.out.inv.wr]; simp) (HX1.out.byH.good HOK.out.houses hsort) (by omega)
            have h2 := add_there (D := D1) (F := F1) HX1.out.byH HOK.out.houses he
            rw [HX1.out.falls] at h2
            rw [h2] at h1
            exact h1
          have HADD := Lib.hid hadd
          have HFOLL := Lib.hid hfoll
          have HVAL := Lib.hid hval
          have HL14 := Lib.hid (HL9.out.keep HKe5.out)
          have HO14 := Lib.hid (own_keep HO9.out HKe5.out (fun _ _ h => h))
          have HW14 := Lib.hid (HKW9.out.trans HKe5.out)
          have hrw : w.heap.size ≤ wr.heap.size := (HK3.out.trans HKB.out).size
          clear hadd hfoll hval hsort hlE hlE2
          go_wp2_with fail
          go_loopw [134] (fun i wv => ∃ k : Nat, k ≤ (entsOf S1).length ∧ i = .int .i64 k ∧ Keeps None' w wv ∧ (∃ fp', Live wr.heap.size wv s1 d1 fp' D1 S1 F1 0) ∧ wv.ownsRow W6.heap.size 64 3 (.slice a7 (entsOf S1).length c7) (entsOf S1).length (entCells (entsOf S1))) (fun i _ => (entsOf S1).length - (intOf i).toNat)
          case atStart => exact ⟨0, Nat.zero_le _, rfl, HW14.out, ⟨_, HL14.out⟩, HO14.out⟩
          case round =>
            obtain ⟨k, hk, rfl, hKv, ⟨fpv, hLv⟩, hOv⟩ := hrel
            have HRW := Lib.hid hrw
            by_cases hlt : k < (entsOf S1).length
            · obtain ⟨b7, o7, rfl, hb7, hc7, d0, d1', d2'⟩ := (EntSl.of_own hOv).get k hlt
              have hmem : (entsOf S1)[k] ∈ entsOf S1 := List.getElem_mem hlt
              have HAE := Lib.hid (fun W fp hl => HADD.out (entsOf S1)[k] hmem W fp hl)
              have hek : (entsOf S1)[k]? = some (entsOf S1)[k] := by simp [hlt]
              have hkI : (k : Int) < ((entsOf S1).length : Int) := by omega
              have hpc : ∀ W : World, W.ownsRow W6.heap.size 64 3 (.slice (some ⟨b7, o7, none⟩) (entsOf S1).length c7) (entsOf S1).length (entCells (entsOf S1)) → ∀ i, (hi : i < (entsOf S1).length) → W.cell? ⟨b7, o7 + i * 3, none⟩ = some (.int .i64 (entsOf S1)[i].house) ∧ W.cell? ⟨b7, o7 + i * 3 + 1, none⟩ = some (.int .i64 (entsOf S1)[i].no) := fun W ho i hi => by
                obtain ⟨b', o', he, _, _, c0, c1, _⟩ := (EntSl.of_own ho).get i hi
                injection he with he
                injection he with he1 he2
                subst he1 he2
                exact ⟨c0, c1⟩
              have HPC0 := Lib.hid hpc
              have hVk := HVAL.out _ hmem
              have hb0 := heap_alloc_new wr (.cells #[.int .i64 (entsOf S1)[k].house, .int .i64 (entsOf S1)[k].no, .string (str (entsOf S1)[k].body)] 64)
              have hkk : Keeps None' wr (wr.alloc (.cells #[.int .i64 (entsOf S1)[k].house, .int .i64 (entsOf S1)[k].no, .string (str (entsOf S1)[k].body)] 64)).drew := ((Keeps.refl None' wr).alloc _).drew
              have HBX0 := Lib.hid (show (wr.alloc (.cells #[.int .i64 (entsOf S1)[k].house, .int .i64 (entsOf S1)[k].no, .string (str (entsOf S1)[k].body)] 64)).drew.heap[wr.heap.size]? = some (.cells #[.int .i64 (entsOf S1)[k].house, .int .i64 (entsOf S1)[k].no, .string (str (entsOf S1)[k].body)] 64 (0, 0)) from hb0)
              have HB0 := Lib.hid (And.intro (cell_of_blk HBX0.out 0 rfl) (And.intro (cell_of_blk HBX0.out 1 rfl) (cell_of_blk HBX0.out 2 rfl)))
              have HLB := Lib.hid (hLv.keep hkk)
              have HNE := Lib.hid (HLB.out.entBlk HBX0.out)
              have HOV0 := Lib.hid (own_keep hOv hkk (fun _ _ h => h))
              have HKV0 := Lib.hid (hKv.trans hkk)
              have HBW := Lib.hid (Nat.le_trans (Nat.le_trans (hLv.ge (.inr rfl)) (Nat.le_of_lt hLv.store.lt)) hkk.size)
              clear hb0 hkk hLv hOv hKv hpc
              cases k with
              | zero =>
                generalize (entsOf S1)[0] = E at *
                clear hek hmem
                rw [Nat.zero_mul, Nat.add_zero] at d0 d1' d2'
                have hkI0 : (0 : Int) < ((entsOf S1).length : Int) := by omega
                have hz1 : decide ((0 : Int) < 0) = false := rfl
                have hz2 : decide ((0 : Int) < ((0 : Nat) : Int)) = false := rfl
                obtain ⟨e0, e1, e2⟩ := HB0.out
                go_wp2_with fail
                refine wp_region_held_drew (S := fun W => W.cell? ⟨wr.heap.size, 0, none⟩ = some (.int .i64 E.house) ∧ W.cell? ⟨wr.heap.size, 1, none⟩ = some (.int .i64 E.no) ∧ W.cell? ⟨wr.heap.size, 2, none⟩ = some (.string (str E.body))) (by kernel_rfl) ⟨e0, e1, e2⟩ (fun hHeld => ?_)
                refine wpAnyH_take (i := 0) (v := .int .i64 0) rfl (by kernel_rfl) (by kernel_rfl) (by kernel_rfl) (fun _ _ _ h => h) (Or.inl ⟨by rfl, fun W hS => by obtain ⟨s0, s1, s2⟩ := hS; go_simp⟩) (by assumption) ?_
                try simp only [List.getElem_toArray, List.getElem_cons_succ, List.getElem_cons_zero, Act.put, List.setIfInBounds_toArray, List.set_cons_zero, List.set_cons_succ]
                refine wpAnyH_take (i := 1) (v := .bool false) rfl (by kernel_rfl) (by kernel_rfl) (by kernel_rfl) (fun _ _ _ h => h) (Or.inl ⟨by rfl, fun W hS => by obtain ⟨s0, s1, s2⟩ := hS; go_simp⟩) (by assumption) ?_
                try simp only [List.getElem_toArray, List.getElem_cons_succ, List.getElem_cons_zero, Act.put, List.setIfInBounds_toArray, List.set_cons_zero, List.set_cons_succ]
                refine wpAnyH_take (i := 2) (v := .bool false) rfl (by kernel_rfl) (by kernel_rfl) (by kernel_rfl) (fun _ _ _ h => h) (Or.inl ⟨by rfl, fun W hS => by obtain ⟨s0, s1, s2⟩ := hS; go_simp⟩) (by assumption) ?_
                try simp only [List.getElem_toArray, List.getElem_cons_succ, List.getElem_cons_zero, Act.put, List.setIfInBounds_toArray, List.set_cons_zero, List.set_cons_succ]
                refine wpAnyH_take (i := 3) (v := undef) rfl (by kernel_rfl) (by kernel_rfl) (by kernel_rfl) (fun _ _ _ h => h) (Or.inr ⟨by rfl, rfl⟩) (by assumption) ?_
                try simp only [List.getElem_toArray, List.getElem_cons_succ, List.getElem_cons_zero, Act.put, List.setIfInBounds_toArray, List.set_cons_zero, List.set_cons_succ]
                refine wpAnyH_take (i := 4) (v := undef) rfl (by kernel_rfl) (by kernel_rfl) (by kernel_rfl) (fun _ _ _ h => h) (Or.inr ⟨by rfl, rfl⟩) (by assumption) ?_
                try simp only [List.getElem_toArray, List.getElem_cons_succ, List.getElem_cons_zero, Act.put, List.setIfInBounds_toArray, List.set_cons_zero, List.set_cons_succ]
                refine wpAnyH_take (i := 5) (v := undef) rfl (by kernel_rfl) (by kernel_rfl) (by kernel_rfl) (fun _ _ _ h => h) (Or.inr ⟨by rfl, rfl⟩) (by assumption) ?_
                try simp only [List.getElem_toArray, List.getElem_cons_succ, List.getElem_cons_zero, Act.put, List.setIfInBounds_toArray, List.set_cons_zero, List.set_cons_succ]
                refine wpAnyH_take (i := 6) (v := undef) rfl (by kernel_rfl) (by kernel_rfl) (by kernel_rfl) (fun _ _ _ h => h) (Or.inr ⟨by rfl, rfl⟩) (by assumption) ?_
                try simp only [List.getElem_toArray, List.getElem_cons_succ, List.getElem_cons_zero, Act.put, List.setIfInBounds_toArray, List.set_cons_zero, List.set_cons_succ]
                refine wpAnyH_take (i := 7) (v := undef) rfl (by kernel_rfl) (by kernel_rfl) (by kernel_rfl) (fun _ _ _ h => h) (Or.inr ⟨by rfl, rfl⟩) (by assumption) ?_
                try simp only [List.getElem_toArray, List.getElem_cons_succ, List.getElem_cons_zero, Act.put, List.setIfInBounds_toArray, List.set_cons_zero, List.set_cons_succ]
                refine wpAnyH_take (i := 8) (v := undef) rfl (by kernel_rfl) (by kernel_rfl) (by kernel_rfl) (fun _ _ _ h => h) (Or.inr ⟨by rfl, rfl⟩) (by assumption) ?_
                try simp only [List.getElem_toArray, List.getElem_cons_succ, List.getElem_cons_zero, Act.put, List.setIfInBounds_toArray, List.set_cons_zero, List.set_cons_succ]
                refine wpAnyH_take (i := 9) (v := undef) rfl (by kernel_rfl) (by kernel_rfl) (by kernel_rfl) (fun _ _ _ h => h) (Or.inr ⟨by rfl, rfl⟩) (by assumption) ?_
                try simp only [List.getElem_toArray, List.getElem_cons_succ, List.getElem_cons_zero, Act.put, List.setIfInBounds_toArray, List.set_cons_zero, List.set_cons_succ]
                refine wpAnyH_take (i := 10) (v := undef) rfl (by kernel_rfl) (by kernel_rfl) (by kernel_rfl) (fun _ _ _ h => h) (Or.inr ⟨by rfl, rfl⟩) (by assumption) ?_
                try simp only [List.getElem_toArray, List.getElem_cons_succ, List.getElem_cons_zero, Act.put, List.setIfInBounds_toArray, List.set_cons_zero, List.set_cons_succ]
                refine wpAnyH_take (i := 11) (v := undef) rfl (by kernel_rfl) (by kernel_rfl) (by kernel_rfl) (fun _ _ _ h => h) (Or.inr ⟨by rfl, rfl⟩) (by assumption) ?_
                try simp only [List.getElem_toArray, List.getElem_cons_succ, List.getElem_cons_zero, Act.put, List.setIfInBounds_toArray, List.set_cons_zero, List.set_cons_succ]
                refine wpAnyH_take (i := 12) (v := undef) rfl (by kernel_rfl) (by kernel_rfl) (by kernel_rfl) (fun _ _ _ h => h) (Or.inr ⟨by rfl, rfl⟩) (by assumption) ?_
                try simp only [List.getElem_toArray, List.getElem_cons_succ, List.getElem_cons_zero, Act.put, List.setIfInBounds_toArray, List.set_cons_zero, List.set_cons_succ]
                refine wpAnyH_take (i := 13) (v := undef) rfl (by kernel_rfl) (by kernel_rfl) (by kernel_rfl) (fun _ _ _ h => h) (Or.inr ⟨by rfl, rfl⟩) (by assumption) ?_
                try simp only [List.getElem_toArray, List.getElem_cons_succ, List.getElem_cons_zero, Act.put, List.setIfInBounds_toArray, List.set_cons_zero, List.set_cons_succ]
                refine wpAnyH_take (i := 14) (v := undef) rfl (by kernel_rfl) (by kernel_rfl) (by kernel_rfl) (fun _ _ _ h => h) (Or.inr ⟨by rfl, rfl⟩) (by assumption) ?_
                try simp only [List.getElem_toArray, List.getElem_cons_succ, List.getElem_cons_zero, Act.put, List.setIfInBounds_toArray, List.set_cons_zero, List.set_cons_succ]
                refine wpAnyH_take (i := 15) (v := undef) rfl (by kernel_rfl) (by kernel_rfl) (by kernel_rfl) (fun _ _ _ h => h) (Or.inr ⟨by rfl, rfl⟩) (by assumption) ?_
                try simp only [List.getElem_toArray, List.getElem_cons_succ, List.getElem_cons_zero, Act.put, List.setIfInBounds_toArray, List.set_cons_zero, List.set_cons_succ]
                refine wpAnyH_take (i := 16) (v := undef) rfl (by kernel_rfl) (by kernel_rfl) (by kernel_rfl) (fun _ _ _ h => h) (Or.inr ⟨by rfl, rfl⟩) (by assumption) ?_
                try simp only [List.getElem_toArray, List.getElem_cons_succ, List.getElem_cons_zero, Act.put, List.setIfInBounds_toArray, List.set_cons_zero, List.set_cons_succ]
                refine wpAnyH_take (i := 17) (v := undef) rfl (by kernel_rfl) (by kernel_rfl) (by kernel_rfl) (fun _ _ _ h => h) (Or.inr ⟨by rfl, rfl⟩) (by assumption) ?_
                try simp only [List.getElem_toArray, List.getElem_cons_succ, List.getElem_cons_zero, Act.put, List.setIfInBounds_toArray, List.set_cons_zero, List.set_cons_succ]
                refine wpAnyH_take (i := 18) (v := undef) rfl (by kernel_rfl) (by kernel_rfl) (by kernel_rfl) (fun _ _ _ h => h) (Or.inr ⟨by rfl, rfl⟩) (by assumption) ?_
                try simp only [List.getElem_toArray, List.getElem_cons_succ, List.getElem_cons_zero, Act.put, List.setIfInBounds_toArray, List.set_cons_zero, List.set_cons_succ]
                refine wpAnyH_take (i := 19) (v := undef) rfl (by kernel_rfl) (by kernel_rfl) (by kernel_rfl) (fun _ _ _ h => h) (Or.inr ⟨by rfl, rfl⟩) (by assumption) ?_
                try simp only [List.getElem_toArray, List.getElem_cons_succ, List.getElem_cons_zero, Act.put, List.setIfInBounds_toArray, List.set_cons_zero, List.set_cons_succ]
                refine wpAnyH_take (i := 20) (v := undef) rfl (by kernel_rfl) (by kernel_rfl) (by kernel_rfl) (fun _ _ _ h => h) (Or.inr ⟨by rfl, rfl⟩) (by assumption) ?_
                try simp only [List.getElem_toArray, List.getElem_cons_succ, List.getElem_cons_zero, Act.put, List.setIfInBounds_toArray, List.set_cons_zero, List.set_cons_succ]
                refine wpAnyH_take (i := 21) (v := undef) rfl (by kernel_rfl) (by kernel_rfl) (by kernel_rfl) (fun _ _ _ h => h) (Or.inr ⟨by rfl, rfl⟩) (by assumption) ?_
                try simp only [List.getElem_toArray, List.getElem_cons_succ, List.getElem_cons_zero, Act.put, List.setIfInBounds_toArray, List.set_cons_zero, List.set_cons_succ]
                refine wpAnyH_take (i := 22) (v := undef) rfl (by kernel_rfl) (by kernel_rfl) (by kernel_rfl) (fun _ _ _ h => h) (Or.inr ⟨by rfl, rfl⟩) (by assumption) ?_
                try simp only [List.getElem_toArray, List.getElem_cons_succ, List.getElem_cons_zero, Act.put, List.setIfInBounds_toArray, List.set_cons_zero, List.set_cons_succ]
                refine wpAnyH_take (i := 23) (v := undef) rfl (by kernel_rfl) (by kernel_rfl) (by kernel_rfl) (fun _ _ _ h => h) (Or.inr ⟨by rfl, rfl⟩) (by assumption) ?_
                try simp only [List.getElem_toArray, List.getElem_cons_succ, List.getElem_cons_zero, Act.put, List.setIfInBounds_toArray, List.set_cons_zero, List.set_cons_succ]
                refine wpAnyH_take (i := 24) (v := undef) rfl (by kernel_rfl) (by kernel_rfl) (by kernel_rfl) (fun _ _ _ h => h) (Or.inr ⟨by rfl, rfl⟩) (by assumption) ?_
                try simp only [List.getElem_toArray, List.getElem_cons_succ, List.getElem_cons_zero, Act.put, List.setIfInBounds_toArray, List.set_cons_zero, List.set_cons_succ]
                refine wpAnyH_take (i := 25) (v := undef) rfl (by kernel_rfl) (by kernel_rfl) (by kernel_rfl) (fun _ _ _ h => h) (Or.inr ⟨by rfl, rfl⟩) (by assumption) ?_
                try simp only [List.getElem_toArray, List.getElem_cons_succ, List.getElem_cons_zero, Act.put, List.setIfInBounds_toArray, List.set_cons_zero, List.set_cons_succ]
                refine wpAnyH_take (i := 26) (v := undef) rfl (by kernel_rfl) (by kernel_rfl) (by kernel_rfl) (fun _ _ _ h => h) (Or.inr ⟨by rfl, rfl⟩) (by assumption) ?_
                try simp only [List.getElem_toArray, List.getElem_cons_succ, List.getElem_cons_zero, Act.put, List.setIfInBounds_toArray, List.set_cons_zero, List.set_cons_succ]
                refine wpAnyH_take (i := 27) (v := undef) rfl (by kernel_rfl) (by kernel_rfl) (by kernel_rfl) (fun _ _ _ h => h) (Or.inr ⟨by rfl, rfl⟩) (by assumption) ?_
                try simp only [List.getElem_toArray, List.getElem_cons_succ, List.getElem_cons_zero, Act.put, List.setIfInBounds_toArray, List.set_cons_zero, List.set_cons_succ]
                refine wpAnyH_take (i := 28) (v := undef) rfl (by kernel_rfl) (by kernel_rfl) (by kernel_rfl) (fun _ _ _ h => h) (Or.inr ⟨by rfl, rfl⟩) (by assumption) ?_
                try simp only [List.getElem_toArray, List.getElem_cons_succ, List.getElem_cons_zero, Act.put, List.setIfInBounds_toArray, List.set_cons_zero, List.set_cons_succ]
                refine wpAnyH_take (i := 29) (v := undef) rfl (by kernel_rfl) (by kernel_rfl) (by kernel_rfl) (fun _ _ _ h => h) (Or.inr ⟨by rfl, rfl⟩) (by assumption) ?_
                try simp only [List.getElem_toArray, List.getElem_cons_succ, List.getElem_cons_zero, Act.put, List.setIfInBounds_toArray, List.set_cons_zero, List.set_cons_succ]
                refine wpAnyH_take (i := 30) (v := undef) rfl (by kernel_rfl) (by kernel_rfl) (by kernel_rfl) (fun _ _ _ h => h) (Or.inr ⟨by rfl, rfl⟩) (by assumption) ?_
                try simp only [List.getElem_toArray, List.getElem_cons_succ, List.getElem_cons_zero, Act.put, List.setIfInBounds_toArray, List.set_cons_zero, List.set_cons_succ]
                refine wpAnyH_take (i := 31) (v := undef) rfl (by kernel_rfl) (by kernel_rfl) (by kernel_rfl) (fun _ _ _ h => h) (Or.inr ⟨by rfl, rfl⟩) (by assumption) ?_
                try simp only [List.getElem_toArray, List.getElem_cons_succ, List.getElem_cons_zero, Act.put, List.setIfInBounds_toArray, List.set_cons_zero, List.set_cons_succ]
                refine wpAnyH_take (i := 32) (v := undef) rfl (by kernel_rfl) (by kernel_rfl) (by kernel_rfl) (fun _ _ _ h => h) (Or.inr ⟨by rfl, rfl⟩) (by assumption) ?_
                try simp only [List.getElem_toArray, List.getElem_cons_succ, List.getElem_cons_zero, Act.put, List.setIfInBounds_toArray, List.set_cons_zero, List.set_cons_succ]
                refine wpAnyH_take (i := 33) (v := undef) rfl (by kernel_rfl) (by kernel_rfl) (by kernel_rfl) (fun _ _ _ h => h) (Or.inr ⟨by rfl, rfl⟩) (by assumption) ?_
                try simp only [List.getElem_toArray, List.getElem_cons_succ, List.getElem_cons_zero, Act.put, List.setIfInBounds_toArray, List.set_cons_zero, List.set_cons_succ]
                refine wpAnyH_take (i := 34) (v := undef) rfl (by kernel_rfl) (by kernel_rfl) (by kernel_rfl) (fun _ _ _ h => h) (Or.inr ⟨by rfl, rfl⟩) (by assumption) ?_
                try simp only [List.getElem_toArray, List.getElem_cons_succ, List.getElem_cons_zero, Act.put, List.setIfInBounds_toArray, List.set_cons_zero, List.set_cons_succ]
                refine wpAnyH_take (i := 35) (v := .bool false) rfl (by kernel_rfl) (by kernel_rfl) (by kernel_rfl) (fun _ _ _ h => h) (Or.inl ⟨by rfl, fun W hS => by obtain ⟨s0, s1, s2⟩ := hS; go_simp⟩) (by assumption) ?_
                try simp only [List.getElem_toArray, List.getElem_cons_succ, List.getElem_cons_zero, Act.put, List.setIfInBounds_toArray, List.set_cons_zero, List.set_cons_succ]
                refine wpAnyH_take (i := 36) (v := .bool false) rfl (by kernel_rfl) (by kernel_rfl) (by kernel_rfl) (fun _ _ _ h => h) (Or.inl ⟨by rfl, fun W hS => by obtain ⟨s0, s1, s2⟩ := hS; go_simp⟩) (by assumption) ?_
                try simp only [List.getElem_toArray, List.getElem_cons_succ, List.getElem_cons_zero, Act.put, List.setIfInBounds_toArray, List.set_cons_zero, List.set_cons_succ]
                refine wpAnyH_take (i := 37) (v := .pointer (some ⟨s1, 0, none⟩)) rfl (by kernel_rfl) (by kernel_rfl) (by kernel_rfl) (fun _ _ _ h => h) (Or.inl ⟨by rfl, fun W hS => by obtain ⟨s0, s1, s2⟩ := hS; go_simp⟩) (by assumption) ?_
                try simp only [List.getElem_toArray, List.getElem_cons_succ, List.getElem_cons_zero, Act.put, List.setIfInBounds_toArray, List.set_cons_zero, List.set_cons_succ]
                refine wpAnyH_take (i := 38) (v := .agg #[.int .i64 E.house, .int .i64 E.no, .string (str E.body)]) rfl (by kernel_rfl) (by kernel_rfl) (by kernel_rfl) (fun _ _ _ h => h) (Or.inl ⟨by rfl, fun W hS => by obtain ⟨s0, s1, s2⟩ := hS; go_simp⟩) (by assumption) ?_
                try simp only [List.getElem_toArray, List.getElem_cons_succ, List.getElem_cons_zero, Act.put, List.setIfInBounds_toArray, List.set_cons_zero, List.set_cons_succ]
                refine wpAnyH_ready (rs := [39]) (by kernel_rfl) (by simp) ?_
                refine AllReadyH.cons rfl (fun K hK => ?_) AllReadyH.nil
                go_simp
                refine (HAE.out _ _ HLB.out).mono ?_
                rintro r W20 ⟨rfl, fp20, hs20⟩
                have HON := Lib.hid (own_keep HOV0.out hs20.keeps (HLB.out.row HOV0.out))
                have HLN := Lib.hid (HLB.out.step HBW.out hs20)
                have HKN := Lib.hid (HKV0.out.trans' hs20.keeps (fun i hi hf => by have := HLB.out.ge hf; have := HRW.out; omega))
                have f0 := (hs20.keeps.cell (p := ⟨wr.heap.size, 0, none⟩) (block_lt_of_cell e0) HNE.out).trans e0
                have f1 := (hs20.keeps.cell (p := ⟨wr.heap.size, 1, none⟩) (block_lt_of_cell e1) HNE.out).trans e1
                have f2 := (hs20.keeps.cell (p := ⟨wr.heap.size, 2, none⟩) (block_lt_of_cell e2) HNE.out).trans e2
                clear hs20
                refine hK.out _ _ ⟨f0, f1, f2⟩ (fun hHeld2 => ?_)
                clear hK K hHeld
                try simp only [List.getElem_toArray, List.getElem_cons_succ, List.getElem_cons_zero, Act.put, List.setIfInBounds_toArray, List.set_cons_zero, List.set_cons_succ]
                refine wpAnyH_take (i := 40) (v := .bool false) rfl (by kernel_rfl) (by kernel_rfl) (by kernel_rfl) (fun _ _ _ h => h) (Or.inl ⟨by rfl, fun W hS => by obtain ⟨s0, s1, s2⟩ := hS; go_simp⟩) (by assumption) ?_
                try simp only [List.getElem_toArray, List.getElem_cons_succ, List.getElem_cons_zero, Act.put, List.setIfInBounds_toArray, List.set_cons_zero, List.set_cons_succ]
                refine wpAnyH_take (i := 41) (v := .bool false) rfl (by kernel_rfl) (by kernel_rfl) (by kernel_rfl) (fun _ _ _ h => h) (Or.inl ⟨by rfl, fun W hS => by obtain ⟨s0, s1, s2⟩ := hS; go_simp⟩) (by assumption) ?_
                try simp only [List.getElem_toArray, List.getElem_cons_succ, List.getElem_cons_zero, Act.put, List.setIfInBounds_toArray, List.set_cons_zero, List.set_cons_succ]
                refine wpAnyH_done (by kernel_rfl) ?_ _
                try simp only [Exit.then]
                go_wp2
                go_roundw
                case rel => exact ⟨1, by omega, by go_num, HKN.out, ⟨_, HLN.out⟩, HON.out⟩
                case measure => simp [intOf]; omega
              | succ q =>
                have hql : q < (entsOf S1).length := by omega
                have hpk : (entsOf S1)[q]? = some (entsOf S1)[q] := by simp [hql]
                have hfo := next_follows HFOLL.out hpk hek
                have hVq := HVAL.out _ (List.getElem_mem hql)
                have HPC := Lib.hid (fun W ho => HPC0.out W ho q hql)
                generalize (entsOf S1)[q + 1] = E at *
                generalize (entsOf S1)[q] = Pv at *
                clear hek hmem hpk
                have hvb : 0 ≤ Pv.no ∧ Pv.no < 64 := by simp [Ent.valid] at hVq; omega
                have hq1 : IntKind.i64.wrap ((q : Int) + 1 - 1) = (q : Int) := by rw [show (q : Int) + 1 - 1 = (q : Int) by omega]; exact IntWalk.i64_in _ (by omega)
                have hq3 : IntKind.i64.wrap (q : Int) = (q : Int) := IntWalk.i64_in _ (by omega)
                have hq2 : IntKind.i64.wrap (((q + 1 : Nat) : Int) - 1) = (q : Int) := by rw [show ((q + 1 : Nat) : Int) - 1 = (q : Int) by omega]; exact IntWalk.i64_in _ (by omega)
                have hgt2 : decide ((0 : Int) < ((q + 1 : Nat) : Int)) = true := decide_eq_true (by omega)
                have hqI : (q : Int) < ((entsOf S1).length : Int) := by omega
                have hq0 : (0 : Int) ≤ (q : Int) := by omega
                have hq0' : (0 : Int) < (q : Int) + 1 := by omega
                have hgt : decide ((0 : Int) < (q : Int) + 1) = true := decide_eq_true (by omega)
                have hwn : IntKind.i64.wrap (Pv.no + 1) = Pv.no + 1 := IntWalk.i64_in _ (by omega)
                have hpg : decide (E.house < Pv.house) = false := decide_eq_false (by omega)
                by_cases hpe : Pv.house = E.house
                · have hpq : (Pv.house == E.house) = true := by simpa using hpe
                  have hpn : (Pv.no + 1 != E.no) = false := by
                    rcases hfo with ⟨_, h2⟩ | ⟨h1, _⟩
                    · simp [h2]
                    · omega
                  clear hpe hfo hVk hVq hvb
                  obtain ⟨e0, e1, e2⟩ := HB0.out
                  obtain ⟨p0, p1⟩ := HPC.out _ HOV0.out
                  go_wp2_with fail
                  refine wp_region_held_drew (S := fun W => W.cell? ⟨wr.heap.size, 0, none⟩ = some (.int .i64 E.house) ∧ W.cell? ⟨wr.heap.size, 1, none⟩ = some (.int .i64 E.no) ∧ W.cell? ⟨wr.heap.size, 2, none⟩ = some (.string (str E.body)) ∧ W.cell? ⟨b7, o7 + q * 3, none⟩ = some (.int .i64 Pv.house) ∧ W.cell? ⟨b7, o7 + q * 3 + 1, none⟩ = some (.int .i64 Pv.no)) (by kernel_rfl) ⟨e0, e1, e2, p0, p1⟩ (fun hHeld => ?_)
                  refine wpAnyH_take (i := 0) (v := .int .i64 ((q + 1 : Nat) : Int)) rfl (by kernel_rfl) (by kernel_rfl) (by kernel_rfl) (fun _ _ _ h => h) (Or.inl ⟨by rfl, fun W hS => by obtain ⟨s0, s1, s2, r0, r1⟩ := hS; go_simp⟩) (by assumption) ?_
                  try simp only [List.getElem_toArray, List.getElem_cons_succ, List.getElem_cons_zero, Act.put, List.setIfInBounds_toArray, List.set_cons_zero, List.set_cons_succ]
                  refine wpAnyH_take (i := 1) (v := .bool true) rfl (by kernel_rfl) (by kernel_rfl) (by kernel_rfl) (fun _ _ _ h => h) (Or.inl ⟨by rfl, fun W hS => by obtain ⟨s0, s1, s2, r0, r1⟩ := hS; go_simp⟩) (by assumption) ?_
                  try simp only [List.getElem_toArray, List.getElem_cons_succ, List.getElem_cons_zero, Act.put, List.setIfInBounds_toArray, List.set_cons_zero, List.set_cons_succ]
                  refine wpAnyH_take (i := 2) (v := .bool true) rfl (by kernel_rfl) (by kernel_rfl) (by kernel_rfl) (fun _ _ _ h => h) (Or.inl ⟨by rfl, fun W hS => by obtain ⟨s0, s1, s2, r0, r1⟩ := hS; go_simp⟩) (by assumption) ?_
                  try simp only [List.getElem_toArray, List.getElem_cons_succ, List.getElem_cons_zero, Act.put, List.setIfInBounds_toArray, List.set_cons_zero, List.set_cons_succ]
                  refine wpAnyH_take (i := 3) (v := .slice (some ⟨b7, o7, none⟩) (entsOf S1).length c7) rfl (by kernel_rfl) (by kernel_rfl) (by kernel_rfl) (fun _ _ _ h => h) (Or.inl ⟨by rfl, fun W hS => by obtain ⟨s0, s1, s2, r0, r1⟩ := hS; go_simp⟩) (by assumption) ?_
                  try simp only [List.getElem_toArray, List.getElem_cons_succ, List.getElem_cons_zero, Act.put, List.setIfInBounds_toArray, List.set_cons_zero, List.set_cons_succ]
                  refine wpAnyH_take (i := 4) (v := .int .i64 ((q + 1 : Nat) : Int)) rfl (by kernel_rfl) (by kernel_rfl) (by kernel_rfl) (fun _ _ _ h => h) (Or.inl ⟨by rfl, fun W hS => by obtain ⟨s0, s1, s2, r0, r1⟩ := hS; go_simp⟩) (by assumption) ?_
                  try simp only [List.getElem_toArray, List.getElem_cons_succ, List.getElem_cons_zero, Act.put, List.setIfInBounds_toArray, List.set_cons_zero, List.set_cons_succ]
                  refine wpAnyH_take (i := 5) (v := .int .i64 (q : Int)) rfl (by kernel_rfl) (by kernel_rfl) (by kernel_rfl) (fun _ _ _ h => h) (Or.inl ⟨by rfl, fun W hS => by obtain ⟨s0, s1, s2, r0, r1⟩ := hS; go_simp; all_goals exact hq3⟩) (by assumption) ?_
                  try simp only [List.getElem_toArray, List.getElem_cons_succ, List.getElem_cons_zero, Act.put, List.setIfInBounds_toArray, List.set_cons_zero, List.set_cons_succ]
                  refine wpAnyH_take (i := 6) (v := .pointer (some ⟨b7, o7 + q * 3, none⟩)) rfl (by kernel_rfl) (by kernel_rfl) (by kernel_rfl) (fun _ _ _ h => h) (Or.inl ⟨by rfl, fun W hS => by obtain ⟨s0, s1, s2, r0, r1⟩ := hS; go_simp⟩) (by assumption) ?_
                  try simp only [List.getElem_toArray, List.getElem_cons_succ, List.getElem_cons_zero, Act.put, List.setIfInBounds_toArray, List.set_cons_zero, List.set_cons_succ]
                  refine wpAnyH_take (i := 7) (v := .pointer (some ⟨b7, o7 + q * 3, none⟩)) rfl (by kernel_rfl) (by kernel_rfl) (by kernel_rfl) (fun _ _ _ h => h) (Or.inl ⟨by rfl, fun W hS => by obtain ⟨s0, s1, s2, r0, r1⟩ := hS; go_simp⟩) (by assumption) ?_
                  try simp only [List.getElem_toArray, List.getElem_cons_succ, List.getElem_cons_zero, Act.put, List.setIfInBounds_toArray, List.set_cons_zero, List.set_cons_succ]
                  refine wpAnyH_take (i := 8) (v := .int .i64 Pv.house) rfl (by kernel_rfl) (by kernel_rfl) (by kernel_rfl) (fun _ _ _ h => h) (Or.inl ⟨by rfl, fun W hS => by obtain ⟨s0, s1, s2, r0, r1⟩ := hS; go_simp⟩) (by assumption) ?_
                  try simp only [List.getElem_toArray, List.getElem_cons_succ, List.getElem_cons_zero, Act.put, List.setIfInBounds_toArray, List.set_cons_zero, List.set_cons_succ]
                  refine wpAnyH_take (i := 9) (v := .pointer (some ⟨wr.heap.size, 0, none⟩)) rfl (by kernel_rfl) (by kernel_rfl) (by kernel_rfl) (fun _ _ _ h => h) (Or.inl ⟨by rfl, fun W hS => by obtain ⟨s0, s1, s2, r0, r1⟩ := hS; go_simp⟩) (by assumption) ?_
                  try simp only [List.getElem_toArray, List.getElem_cons_succ, List.getElem_cons_zero, Act.put, List.setIfInBounds_toArray, List.set_cons_zero, List.set_cons_succ]
                  refine wpAnyH_take (i := 10) (v := .int .i64 E.house) rfl (by kernel_rfl) (by kernel_rfl) (by kernel_rfl) (fun _ _ _ h => h) (Or.inl ⟨by rfl, fun W hS => by obtain ⟨s0, s1, s2, r0, r1⟩ := hS; go_simp⟩) (by assumption) ?_
                  try simp only [List.getElem_toArray, List.getElem_cons_succ, List.getElem_cons_zero, Act.put, List.setIfInBounds_toArray, List.set_cons_zero, List.set_cons_succ]
                  refine wpAnyH_take (i := 11) (v := .bool false) rfl (by kernel_rfl) (by kernel_rfl) (by kernel_rfl) (fun _ _ _ h => h) (Or.inl ⟨by rfl, fun W hS => by obtain ⟨s0, s1, s2, r0, r1⟩ := hS; go_simp⟩) (by assumption) ?_
                  try simp only [List.getElem_toArray, List.getElem_cons_succ, List.getElem_cons_zero, Act.put, List.setIfInBounds_toArray, List.set_cons_zero, List.set_cons_succ]
                  refine wpAnyH_take (i := 12) (v := .bool false) rfl (by kernel_rfl) (by kernel_rfl) (by kernel_rfl) (fun _ _ _ h => h) (Or.inl ⟨by rfl, fun W hS => by obtain ⟨s0, s1, s2, r0, r1⟩ := hS; go_simp⟩) (by assumption) ?_
                  try simp only [List.getElem_toArray, List.getElem_cons_succ, List.getElem_cons_zero, Act.put, List.setIfInBounds_toArray, List.set_cons_zero, List.set_cons_succ]
                  refine wpAnyH_take (i := 13) (v := .slice (some ⟨b7, o7, none⟩) (entsOf S1).length c7) rfl (by kernel_rfl) (by kernel_rfl) (by kernel_rfl) (fun _ _ _ h => h) (Or.inl ⟨by rfl, fun W hS => by obtain ⟨s0, s1, s2, r0, r1⟩ := hS; go_simp⟩) (by assumption) ?_
                  try simp only [List.getElem_toArray, List.getElem_cons_succ, List.getElem_cons_zero, Act.put, List.setIfInBounds_toArray, List.set_cons_zero, List.set_cons_succ]
                  refine wpAnyH_take (i := 14) (v := .int .i64 ((q + 1 : Nat) : Int)) rfl (by kernel_rfl) (by kernel_rfl) (by kernel_rfl) (fun _ _ _ h => h) (Or.inl ⟨by rfl, fun W hS => by obtain ⟨s0, s1, s2, r0, r1⟩ := hS; go_simp⟩) (by assumption) ?_
                  try simp only [List.getElem_toArray, List.getElem_cons_succ, List.getElem_cons_zero, Act.put, List.setIfInBounds_toArray, List.set_cons_zero, List.set_cons_succ]
                  refine wpAnyH_take (i := 15) (v := .int .i64 (q : Int)) rfl (by kernel_rfl) (by kernel_rfl) (by kernel_rfl) (fun _ _ _ h => h) (Or.inl ⟨by rfl, fun W hS => by obtain ⟨s0, s1, s2, r0, r1⟩ := hS; go_simp; all_goals exact hq3⟩) (by assumption) ?_
                  try simp only [List.getElem_toArray, List.getElem_cons_succ, List.getElem_cons_zero, Act.put, List.setIfInBounds_toArray, List.set_cons_zero, List.set_cons_succ]
                  refine wpAnyH_take (i := 16) (v := .pointer (some ⟨b7, o7 + q * 3, none⟩)) rfl (by kernel_rfl) (by kernel_rfl) (by kernel_rfl) (fun _ _ _ h => h) (Or.inl ⟨by rfl, fun W hS => by obtain ⟨s0, s1, s2, r0, r1⟩ := hS; go_simp⟩) (by assumption) ?_
                  try simp only [List.getElem_toArray, List.getElem_cons_succ, List.getElem_cons_zero, Act.put, List.setIfInBounds_toArray, List.set_cons_zero, List.set_cons_succ]
                  refine wpAnyH_take (i := 17) (v := .pointer (some ⟨b7, o7 + q * 3, none⟩)) rfl (by kernel_rfl) (by kernel_rfl) (by kernel_rfl) (fun _ _ _ h => h) (Or.inl ⟨by rfl, fun W hS => by obtain ⟨s0, s1, s2, r0, r1⟩ := hS; go_simp⟩) (by assumption) ?_
                  try simp only [List.getElem_toArray, List.getElem_cons_succ, List.getElem_cons_zero, Act.put, List.setIfInBounds_toArray, List.set_cons_zero, List.set_cons_succ]
                  refine wpAnyH_take (i := 18) (v := .int .i64 Pv.house) rfl (by kernel_rfl) (by kernel_rfl) (by kernel_rfl) (fun _ _ _ h => h) (Or.inl ⟨by rfl, fun W hS => by obtain ⟨s0, s1, s2, r0, r1⟩ := hS; go_simp⟩) (by assumption) ?_
                  try simp only [List.getElem_toArray, List.getElem_cons_succ, List.getElem_cons_zero, Act.put, List.setIfInBounds_toArray, List.set_cons_zero, List.set_cons_succ]
                  refine wpAnyH_take (i := 19) (v := .pointer (some ⟨wr.heap.size, 0, none⟩)) rfl (by kernel_rfl) (by kernel_rfl) (by kernel_rfl) (fun _ _ _ h => h) (Or.inl ⟨by rfl, fun W hS => by obtain ⟨s0, s1, s2, r0, r1⟩ := hS; go_simp⟩) (by assumption) ?_
                  try simp only [List.getElem_toArray, List.getElem_cons_succ, List.getElem_cons_zero, Act.put, List.setIfInBounds_toArray, List.set_cons_zero, List.set_cons_succ]
                  refine wpAnyH_take (i := 20) (v := .int .i64 E.house) rfl (by kernel_rfl) (by kernel_rfl) (by kernel_rfl) (fun _ _ _ h => h) (Or.inl ⟨by rfl, fun W hS => by obtain ⟨s0, s1, s2, r0, r1⟩ := hS; go_simp⟩) (by assumption) ?_
                  try simp only [List.getElem_toArray, List.getElem_cons_succ, List.getElem_cons_zero, Act.put, List.setIfInBounds_toArray, List.set_cons_zero, List.set_cons_succ]
                  refine wpAnyH_take (i := 21) (v := .bool true) rfl (by kernel_rfl) (by kernel_rfl) (by kernel_rfl) (fun _ _ _ h => h) (Or.inl ⟨by rfl, fun W hS => by obtain ⟨s0, s1, s2, r0, r1⟩ := hS; go_simp⟩) (by assumption) ?_
                  try simp only [List.getElem_toArray, List.getElem_cons_succ, List.getElem_cons_zero, Act.put, List.setIfInBounds_toArray, List.set_cons_zero, List.set_cons_succ]
                  refine wpAnyH_take (i := 22) (v := .bool true) rfl (by kernel_rfl) (by kernel_rfl) (by kernel_rfl) (fun _ _ _ h => h) (Or.inl ⟨by rfl, fun W hS => by obtain ⟨s0, s1, s2, r0, r1⟩ := hS; go_simp⟩) (by assumption) ?_
                  try simp only [List.getElem_toArray, List.getElem_cons_succ, List.getElem_cons_zero, Act.put, List.setIfInBounds_toArray, List.set_cons_zero, List.set_cons_succ]
                  refine wpAnyH_take (i := 23) (v := .slice (some ⟨b7, o7, none⟩) (entsOf S1).length c7) rfl (by kernel_rfl) (by kernel_rfl) (by kernel_rfl) (fun _ _ _ h => h) (Or.inl ⟨by rfl, fun W hS => by obtain ⟨s0, s1, s2, r0, r1⟩ := hS; go_simp⟩) (by assumption) ?_
                  try simp only [List.getElem_toArray, List.getElem_cons_succ, List.getElem_cons_zero, Act.put, List.setIfInBounds_toArray, List.set_cons_zero, List.set_cons_succ]
                  refine wpAnyH_take (i := 24) (v := .int .i64 ((q + 1 : Nat) : Int)) rfl (by kernel_rfl) (by kernel_rfl) (by kernel_rfl) (fun _ _ _ h => h) (Or.inl ⟨by rfl, fun W hS => by obtain ⟨s0, s1, s2, r0, r1⟩ := hS; go_simp⟩) (by assumption) ?_
                  try simp only [List.getElem_toArray, List.getElem_cons_succ, List.getElem_cons_zero, Act.put, List.setIfInBounds_toArray, List.set_cons_zero, List.set_cons_succ]
                  refine wpAnyH_take (i := 25) (v := .int .i64 (q : Int)) rfl (by kernel_rfl) (by kernel_rfl) (by kernel_rfl) (fun _ _ _ h => h) (Or.inl ⟨by rfl, fun W hS => by obtain ⟨s0, s1, s2, r0, r1⟩ := hS; go_simp; all_goals exact hq3⟩) (by assumption) ?_
                  try simp only [List.getElem_toArray, List.getElem_cons_succ, List.getElem_cons_zero, Act.put, List.setIfInBounds_toArray, List.set_cons_zero, List.set_cons_succ]
                  refine wpAnyH_take (i := 26) (v := .pointer (some ⟨b7, o7 + q * 3, none⟩)) rfl (by kernel_rfl) (by kernel_rfl) (by kernel_rfl) (fun _ _ _ h => h) (Or.inl ⟨by rfl, fun W hS => by obtain ⟨s0, s1, s2, r0, r1⟩ := hS; go_simp⟩) (by assumption) ?_
                  try simp only [List.getElem_toArray, List.getElem_cons_succ, List.getElem_cons_zero, Act.put, List.setIfInBounds_toArray, List.set_cons_zero, List.set_cons_succ]
                  refine wpAnyH_take (i := 27) (v := .pointer (some ⟨b7, o7 + q * 3 + 1, none⟩)) rfl (by kernel_rfl) (by kernel_rfl) (by kernel_rfl) (fun _ _ _ h => h) (Or.inl ⟨by rfl, fun W hS => by obtain ⟨s0, s1, s2, r0, r1⟩ := hS; go_simp⟩) (by assumption) ?_
                  try simp only [List.getElem_toArray, List.getElem_cons_succ, List.getElem_cons_zero, Act.put, List.setIfInBounds_toArray, List.set_cons_zero, List.set_cons_succ]
                  refine wpAnyH_take (i := 28) (v := .int .i64 Pv.no) rfl (by kernel_rfl) (by kernel_rfl) (by kernel_rfl) (fun _ _ _ h => h) (Or.inl ⟨by rfl, fun W hS => by obtain ⟨s0, s1, s2, r0, r1⟩ := hS; go_simp⟩) (by assumption) ?_
                  try simp only [List.getElem_toArray, List.getElem_cons_succ, List.getElem_cons_zero, Act.put, List.setIfInBounds_toArray, List.set_cons_zero, List.set_cons_succ]
                  refine wpAnyH_take (i := 29) (v := .int .i64 (Pv.no + 1)) rfl (by kernel_rfl) (by kernel_rfl) (by kernel_rfl) (fun _ _ _ h => h) (Or.inl ⟨by rfl, fun W hS => by obtain ⟨s0, s1, s2, r0, r1⟩ := hS; go_simp⟩) (by assumption) ?_
                  try simp only [List.getElem_toArray, List.getElem_cons_succ, List.getElem_cons_zero, Act.put, List.setIfInBounds_toArray, List.set_cons_zero, List.set_cons_succ]
                  refine wpAnyH_take (i := 30) (v := .pointer (some ⟨wr.heap.size, 1, none⟩)) rfl (by kernel_rfl) (by kernel_rfl) (by kernel_rfl) (fun _ _ _ h => h) (Or.inl ⟨by rfl, fun W hS => by obtain ⟨s0, s1, s2, r0, r1⟩ := hS; go_simp⟩) (by assumption) ?_
                  try simp only [List.getElem_toArray, List.getElem_cons_succ, List.getElem_cons_zero, Act.put, List.setIfInBounds_toArray, List.set_cons_zero, List.set_cons_succ]
                  refine wpAnyH_take (i := 31) (v := .int .i64 E.no) rfl (by kernel_rfl) (by kernel_rfl) (by kernel_rfl) (fun _ _ _ h => h) (Or.inl ⟨by rfl, fun W hS => by obtain ⟨s0, s1, s2, r0, r1⟩ := hS; go_simp⟩) (by assumption) ?_
                  try simp only [List.getElem_toArray, List.getElem_cons_succ, List.getElem_cons_zero, Act.put, List.setIfInBounds_toArray, List.set_cons_zero, List.set_cons_succ]
                  refine wpAnyH_take (i := 32) (v := .bool false) rfl (by kernel_rfl) (by kernel_rfl) (by kernel_rfl) (fun _ _ _ h => h) (Or.inl ⟨by rfl, fun W hS => by obtain ⟨s0, s1, s2, r0, r1⟩ := hS; go_simp⟩) (by assumption) ?_
                  try simp only [List.getElem_toArray, List.getElem_cons_succ, List.getElem_cons_zero, Act.put, List.setIfInBounds_toArray, List.set_cons_zero, List.set_cons_succ]
                  refine wpAnyH_take (i := 33) (v := .bool false) rfl (by kernel_rfl) (by kernel_rfl) (by kernel_rfl) (fun _ _ _ h => h) (Or.inl ⟨by rfl, fun W hS => by obtain ⟨s0, s1, s2, r0, r1⟩ := hS; go_simp⟩) (by assumption) ?_
                  try simp only [List.getElem_toArray, List.getElem_cons_succ, List.getElem_cons_zero, Act.put, List.setIfInBounds_toArray, List.set_cons_zero, List.set_cons_succ]
                  refine wpAnyH_take (i := 34) (v := .bool false) rfl (by kernel_rfl) (by kernel_rfl) (by kernel_rfl) (fun _ _ _ h => h) (Or.inl ⟨by rfl, fun W hS => by obtain ⟨s0, s1, s2, r0, r1⟩ := hS; go_simp⟩) (by assumption) ?_
                  try simp only [List.getElem_toArray, List.getElem_cons_succ, List.getElem_cons_zero, Act.put, List.setIfInBounds_toArray, List.set_cons_zero, List.set_cons_succ]
                  refine wpAnyH_take (i := 35) (v := .bool false) rfl (by kernel_rfl) (by kernel_rfl) (by kernel_rfl) (fun _ _ _ h => h) (Or.inl ⟨by rfl, fun W hS => by obtain ⟨s0, s1, s2, r0, r1⟩ := hS; go_simp⟩) (by assumption) ?_
                  try simp only [List.getElem_toArray, List.getElem_cons_succ, List.getElem_cons_zero, Act.put, List.setIfInBounds_toArray, List.set_cons_zero, List.set_cons_succ]
                  refine wpAnyH_take (i := 36) (v := .bool false) rfl (by kernel_rfl) (by kernel_rfl) (by kernel_rfl) (fun _ _ _ h => h) (Or.inl ⟨by rfl, fun W hS => by obtain ⟨s0, s1, s2, r0, r1⟩ := hS; go_simp⟩) (by assumption) ?_
                  try simp only [List.getElem_toArray, List.getElem_cons_succ, List.getElem_cons_zero, Act.put, List.setIfInBounds_toArray, List.set_cons_zero, List.set_cons_succ]
                  refine wpAnyH_take (i := 37) (v := .pointer (some ⟨s1, 0, none⟩)) rfl (by kernel_rfl) (by kernel_rfl) (by kernel_rfl) (fun _ _ _ h => h) (Or.inl ⟨by rfl, fun W hS => by obtain ⟨s0, s1, s2, r0, r1⟩ := hS; go_simp⟩) (by assumption) ?_
                  try simp only [List.getElem_toArray, List.getElem_cons_succ, List.getElem_cons_zero, Act.put, List.setIfInBounds_toArray, List.set_cons_zero, List.set_cons_succ]
                  refine wpAnyH_take (i := 38) (v := .agg #[.int .i64 E.house, .int .i64 E.no, .string (str E.body)]) rfl (by kernel_rfl) (by kernel_rfl) (by kernel_rfl) (fun _ _ _ h => h) (Or.inl ⟨by rfl, fun W hS => by obtain ⟨s0, s1, s2, r0, r1⟩ := hS; go_simp⟩) (by assumption) ?_
                  try simp only [List.getElem_toArray, List.getElem_cons_succ, List.getElem_cons_zero, Act.put, List.setIfInBounds_toArray, List.set_cons_zero, List.set_cons_succ]
                  refine wpAnyH_ready (rs := [39]) (by kernel_rfl) (by simp) ?_
                  refine AllReadyH.cons rfl (fun K hK => ?_) AllReadyH.nil
                  go_simp
                  refine (HAE.out _ _ HLB.out).mono ?_
                  rintro r W20 ⟨rfl, fp20, hs20⟩
                  have HON := Lib.hid (own_keep HOV0.out hs20.keeps (HLB.out.row HOV0.out))
                  have HLN := Lib.hid (HLB.out.step HBW.out hs20)
                  have HKN := Lib.hid (HKV0.out.trans' hs20.keeps (fun i hi hf => by have := HLB.out.ge hf; have := HRW.out; omega))
                  have f0 := (hs20.keeps.cell (p := ⟨wr.heap.size, 0, none⟩) (block_lt_of_cell e0) HNE.out).trans e0
                  have f1 := (hs20.keeps.cell (p := ⟨wr.heap.size, 1, none⟩) (block_lt_of_cell e1) HNE.out).trans e1
                  have f2 := (hs20.keeps.cell (p := ⟨wr.heap.size, 2, none⟩) (block_lt_of_cell e2) HNE.out).trans e2
                  obtain ⟨f3, f4⟩ := HPC.out _ HON.out
                  clear hs20
                  refine hK.out _ _ ⟨f0, f1, f2, f3, f4⟩ (fun hHeld2 => ?_)
                  clear hK K hHeld
                  try simp only [List.getElem_toArray, List.getElem_cons_succ, List.getElem_cons_zero, Act.put, List.setIfInBounds_toArray, List.set_cons_zero, List.set_cons_succ]
                  refine wpAnyH_take (i := 40) (v := .bool false) rfl (by kernel_rfl) (by kernel_rfl) (by kernel_rfl) (fun _ _ _ h => h) (Or.inl ⟨by rfl, fun W hS => by obtain ⟨s0, s1, s2, r0, r1⟩ := hS; go_simp⟩) (by assumption) ?_
                  try simp only [List.getElem_toArray, List.getElem_cons_succ, List.getElem_cons_zero, Act.put, List.setIfInBounds_toArray, List.set_cons_zero, List.set_cons_succ]
                  refine wpAnyH_take (i := 41) (v := .bool false) rfl (by kernel_rfl) (by kernel_rfl) (by kernel_rfl) (fun _ _ _ h => h) (Or.inl ⟨by rfl, fun W hS => by obtain ⟨s0, s1, s2, r0, r1⟩ := hS; go_simp⟩) (by assumption) ?_
                  try simp only [List.getElem_toArray, List.getElem_cons_succ, List.getElem_cons_zero, Act.put, List.setIfInBounds_toArray, List.set_cons_zero, List.set_cons_succ]
                  refine wpAnyH_done (by kernel_rfl) ?_ _
                  try simp only [Exit.then]
                  go_wp2
                  go_roundw
                  case rel => exact ⟨q + 1 + 1, by omega, by go_num, HKN.out, ⟨_, HLN.out⟩, HON.out⟩
                  case measure => simp [intOf]; omega
                · have hpq : (Pv.house == E.house) = false := by simpa using hpe
                  clear hpe hfo hVk hVq hvb
                  obtain ⟨e0, e1, e2⟩ := HB0.out
                  obtain ⟨p0, p1⟩ := HPC.out _ HOV0.out
                  go_wp2_with fail
                  refine wp_region_held_drew (S := fun W => W.cell? ⟨wr.heap.size, 0, none⟩ = some (.int .i64 E.house) ∧ W.cell? ⟨wr.heap.size, 1, none⟩ = some (.int .i64 E.no) ∧ W.cell? ⟨wr.heap.size, 2, none⟩ = some (.string (str E.body)) ∧ W.cell? ⟨b7, o7 + q * 3, none⟩ = some (.int .i64 Pv.house) ∧ W.cell? ⟨b7, o7 + q * 3 + 1, none⟩ = some (.int .i64 Pv.no)) (by kernel_rfl) ⟨e0, e1, e2, p0, p1⟩ (fun hHeld => ?_)
                  refine wpAnyH_take (i := 0) (v := .int .i64 ((q + 1 : Nat) : Int)) rfl (by kernel_rfl) (by kernel_rfl) (by kernel_rfl) (fun _ _ _ h => h) (Or.inl ⟨by rfl, fun W hS => by obtain ⟨s0, s1, s2, r0, r1⟩ := hS; go_simp⟩) (by assumption) ?_
                  try simp only [List.getElem_toArray, List.getElem_cons_succ, List.getElem_cons_zero, Act.put, List.setIfInBounds_toArray, List.set_cons_zero, List.set_cons_succ]
                  refine wpAnyH_take (i := 1) (v := .bool true) rfl (by kernel_rfl) (by kernel_rfl) (by kernel_rfl) (fun _ _ _ h => h) (Or.inl ⟨by rfl, fun W hS => by obtain ⟨s0, s1, s2, r0, r1⟩ := hS; go_simp⟩) (by assumption) ?_
                  try simp only [List.getElem_toArray, List.getElem_cons_succ, List.getElem_cons_zero, Act.put, List.setIfInBounds_toArray, List.set_cons_zero, List.set_cons_succ]
                  refine wpAnyH_take (i := 2) (v := .bool true) rfl (by kernel_rfl) (by kernel_rfl) (by kernel_rfl) (fun _ _ _ h => h) (Or.inl ⟨by rfl, fun W hS => by obtain ⟨s0, s1, s2, r0, r1⟩ := hS; go_simp⟩) (by assumption) ?_
                  try simp only [List.getElem_toArray, List.getElem_cons_succ, List.getElem_cons_zero, Act.put, List.setIfInBounds_toArray, List.set_cons_zero, List.set_cons_succ]
                  refine wpAnyH_take (i := 3) (v := .slice (some ⟨b7, o7, none⟩) (entsOf S1).length c7) rfl (by kernel_rfl) (by kernel_rfl) (by kernel_rfl) (fun _ _ _ h => h) (Or.inl ⟨by rfl, fun W hS => by obtain ⟨s0, s1, s2, r0, r1⟩ := hS; go_simp⟩) (by assumption) ?_
                  try simp only [List.getElem_toArray, List.getElem_cons_succ, List.getElem_cons_zero, Act.put, List.setIfInBounds_toArray, List.set_cons_zero, List.set_cons_succ]
                  refine wpAnyH_take (i := 4) (v := .int .i64 ((q + 1 : Nat) : Int)) rfl (by kernel_rfl) (by kernel_rfl) (by kernel_rfl) (fun _ _ _ h => h) (Or.inl ⟨by rfl, fun W hS => by obtain ⟨s0, s1, s2, r0, r1⟩ := hS; go_simp⟩) (by assumption) ?_
                  try simp only [List.getElem_toArray, List.getElem_cons_succ, List.getElem_cons_zero, Act.put, List.setIfInBounds_toArray, List.set_cons_zero, List.set_cons_succ]
                  refine wpAnyH_take (i := 5) (v := .int .i64 (q : Int)) rfl (by kernel_rfl) (by kernel_rfl) (by kernel_rfl) (fun _ _ _ h => h) (Or.inl ⟨by rfl, fun W hS => by obtain ⟨s0, s1, s2, r0, r1⟩ := hS; go_simp; all_goals exact hq3⟩) (by assumption) ?_
                  try simp only [List.getElem_toArray, List.getElem_cons_succ, List.getElem_cons_zero, Act.put, List.setIfInBounds_toArray, List.set_cons_zero, List.set_cons_succ]
                  refine wpAnyH_take (i := 6) (v := .pointer (some ⟨b7, o7 + q * 3, none⟩)) rfl (by kernel_rfl) (by kernel_rfl) (by kernel_rfl) (fun _ _ _ h => h) (Or.inl ⟨by rfl, fun W hS => by obtain ⟨s0, s1, s2, r0, r1⟩ := hS; go_simp⟩) (by assumption) ?_
                  try simp only [List.getElem_toArray, List.getElem_cons_succ, List.getElem_cons_zero, Act.put, List.setIfInBounds_toArray, List.set_cons_zero, List.set_cons_succ]
                  refine wpAnyH_take (i := 7) (v := .pointer (some ⟨b7, o7 + q * 3, none⟩)) rfl (by kernel_rfl) (by kernel_rfl) (by kernel_rfl) (fun _ _ _ h => h) (Or.inl ⟨by rfl, fun W hS => by obtain ⟨s0, s1, s2, r0, r1⟩ := hS; go_simp⟩) (by assumption) ?_
                  try simp only [List.getElem_toArray, List.getElem_cons_succ, List.getElem_cons_zero, Act.put, List.setIfInBounds_toArray, List.set_cons_zero, List.set_cons_succ]
                  refine wpAnyH_take (i := 8) (v := .int .i64 Pv.house) rfl (by kernel_rfl) (by kernel_rfl) (by kernel_rfl) (fun _ _ _ h => h) (Or.inl ⟨by rfl, fun W hS => by obtain ⟨s0, s1, s2, r0, r1⟩ := hS; go_simp⟩) (by assumption) ?_
                  try simp only [List.getElem_toArray, List.getElem_cons_succ, List.getElem_cons_zero, Act.put, List.setIfInBounds_toArray, List.set_cons_zero, List.set_cons_succ]
                  refine wpAnyH_take (i := 9) (v := .pointer (some ⟨wr.heap.size, 0, none⟩)) rfl (by kernel_rfl) (by kernel_rfl) (by kernel_rfl) (fun _ _ _ h => h) (Or.inl ⟨by rfl, fun W hS => by obtain ⟨s0, s1, s2, r0, r1⟩ := hS; go_simp⟩) (by assumption) ?_
                  try simp only [List.getElem_toArray, List.getElem_cons_succ, List.getElem_cons_zero, Act.put, List.setIfInBounds_toArray, List.set_cons_zero, List.set_cons_succ]
                  refine wpAnyH_take (i := 10) (v := .int .i64 E.house) rfl (by kernel_rfl) (by kernel_rfl) (by kernel_rfl) (fun _ _ _ h => h) (Or.inl ⟨by rfl, fun W hS => by obtain ⟨s0, s1, s2, r0, r1⟩ := hS; go_simp⟩) (by assumption) ?_
                  try simp only [List.getElem_toArray, List.getElem_cons_succ, List.getElem_cons_zero, Act.put, List.setIfInBounds_toArray, List.set_cons_zero, List.set_cons_succ]
                  refine wpAnyH_take (i := 11) (v := .bool false) rfl (by kernel_rfl) (by kernel_rfl) (by kernel_rfl) (fun _ _ _ h => h) (Or.inl ⟨by rfl, fun W hS => by obtain ⟨s0, s1, s2, r0, r1⟩ := hS; go_simp⟩) (by assumption) ?_
                  try simp only [List.getElem_toArray, List.getElem_cons_succ, List.getElem_cons_zero, Act.put, List.setIfInBounds_toArray, List.set_cons_zero, List.set_cons_succ]
                  refine wpAnyH_take (i := 12) (v := .bool false) rfl (by kernel_rfl) (by kernel_rfl) (by kernel_rfl) (fun _ _ _ h => h) (Or.inl ⟨by rfl, fun W hS => by obtain ⟨s0, s1, s2, r0, r1⟩ := hS; go_simp⟩) (by assumption) ?_
                  try simp only [List.getElem_toArray, List.getElem_cons_succ, List.getElem_cons_zero, Act.put, List.setIfInBounds_toArray, List.set_cons_zero, List.set_cons_succ]
                  refine wpAnyH_take (i := 13) (v := .slice (some ⟨b7, o7, none⟩) (entsOf S1).length c7) rfl (by kernel_rfl) (by kernel_rfl) (by kernel_rfl) (fun _ _ _ h => h) (Or.inl ⟨by rfl, fun W hS => by obtain ⟨s0, s1, s2, r0, r1⟩ := hS; go_simp⟩) (by assumption) ?_
                  try simp only [List.getElem_toArray, List.getElem_cons_succ, List.getElem_cons_zero, Act.put, List.setIfInBounds_toArray, List.set_cons_zero, List.set_cons_succ]
                  refine wpAnyH_take (i := 14) (v := .int .i64 ((q + 1 : Nat) : Int)) rfl (by kernel_rfl) (by kernel_rfl) (by kernel_rfl) (fun _ _ _ h => h) (Or.inl ⟨by rfl, fun W hS => by obtain ⟨s0, s1, s2, r0, r1⟩ := hS; go_simp⟩) (by assumption) ?_
                  try simp only [List.getElem_toArray, List.getElem_cons_succ, List.getElem_cons_zero, Act.put, List.setIfInBounds_toArray, List.set_cons_zero, List.set_cons_succ]
                  refine wpAnyH_take (i := 15) (v := .int .i64 (q : Int)) rfl (by kernel_rfl) (by kernel_rfl) (by kernel_rfl) (fun _ _ _ h => h) (Or.inl ⟨by rfl, fun W hS => by obtain ⟨s0, s1, s2, r0, r1⟩ := hS; go_simp; all_goals exact hq3⟩) (by assumption) ?_
                  try simp only [List.getElem_toArray, List.getElem_cons_succ, List.getElem_cons_zero, Act.put, List.setIfInBounds_toArray, List.set_cons_zero, List.set_cons_succ]
                  refine wpAnyH_take (i := 16) (v := .pointer (some ⟨b7, o7 + q * 3, none⟩)) rfl (by kernel_rfl) (by kernel_rfl) (by kernel_rfl) (fun _ _ _ h => h) (Or.inl ⟨by rfl, fun W hS => by obtain ⟨s0, s1, s2, r0, r1⟩ := hS; go_simp⟩) (by assumption) ?_
                  try simp only [List.getElem_toArray, List.getElem_cons_succ, List.getElem_cons_zero, Act.put, List.setIfInBounds_toArray, List.set_cons_zero, List.set_cons_succ]
                  refine wpAnyH_take (i := 17) (v := .pointer (some ⟨b7, o7 + q * 3, none⟩)) rfl (by kernel_rfl) (by kernel_rfl) (by kernel_rfl) (fun _ _ _ h => h) (Or.inl ⟨by rfl, fun W hS => by obtain ⟨s0, s1, s2, r0, r1⟩ := hS; go_simp⟩) (by assumption) ?_
                  try simp only [List.getElem_toArray, List.getElem_cons_succ, List.getElem_cons_zero, Act.put, List.setIfInBounds_toArray, List.set_cons_zero, List.set_cons_succ]
                  refine wpAnyH_take (i := 18) (v := .int .i64 Pv.house) rfl (by kernel_rfl) (by kernel_rfl) (by kernel_rfl) (fun _ _ _ h => h) (Or.inl ⟨by rfl, fun W hS => by obtain ⟨s0, s1, s2, r0, r1⟩ := hS; go_simp⟩) (by assumption) ?_
                  try simp only [List.getElem_toArray, List.getElem_cons_succ, List.getElem_cons_zero, Act.put, List.setIfInBounds_toArray, List.set_cons_zero, List.set_cons_succ]
                  refine wpAnyH_take (i := 19) (v := .pointer (some ⟨wr.heap.size, 0, none⟩)) rfl (by kernel_rfl) (by kernel_rfl) (by kernel_rfl) (fun _ _ _ h => h) (Or.inl ⟨by rfl, fun W hS => by obtain ⟨s0, s1, s2, r0, r1⟩ := hS; go_simp⟩) (by assumption) ?_
                  try simp only [List.getElem_toArray, List.getElem_cons_succ, List.getElem_cons_zero, Act.put, List.setIfInBounds_toArray, List.set_cons_zero, List.set_cons_succ]
                  refine wpAnyH_take (i := 20) (v := .int .i64 E.house) rfl (by kernel_rfl) (by kernel_rfl) (by kernel_rfl) (fun _ _ _ h => h) (Or.inl ⟨by rfl, fun W hS => by obtain ⟨s0, s1, s2, r0, r1⟩ := hS; go_simp⟩) (by assumption) ?_
                  try simp only [List.getElem_toArray, List.getElem_cons_succ, List.getElem_cons_zero, Act.put, List.setIfInBounds_toArray, List.set_cons_zero, List.set_cons_succ]
                  refine wpAnyH_take (i := 21) (v := .bool false) rfl (by kernel_rfl) (by kernel_rfl) (by kernel_rfl) (fun _ _ _ h => h) (Or.inl ⟨by rfl, fun W hS => by obtain ⟨s0, s1, s2, r0, r1⟩ := hS; go_simp⟩) (by assumption) ?_
                  try simp only [List.getElem_toArray, List.getElem_cons_succ, List.getElem_cons_zero, Act.put, List.setIfInBounds_toArray, List.set_cons_zero, List.set_cons_succ]
                  refine wpAnyH_take (i := 22) (v := .bool false) rfl (by kernel_rfl) (by kernel_rfl) (by kernel_rfl) (fun _ _ _ h => h) (Or.inl ⟨by rfl, fun W hS => by obtain ⟨s0, s1, s2, r0, r1⟩ := hS; go_simp⟩) (by assumption) ?_
                  try simp only [List.getElem_toArray, List.getElem_cons_succ, List.getElem_cons_zero, Act.put, List.setIfInBounds_toArray, List.set_cons_zero, List.set_cons_succ]
                  refine wpAnyH_take (i := 23) (v := undef) rfl (by kernel_rfl) (by kernel_rfl) (by kernel_rfl) (fun _ _ _ h => h) (Or.inr ⟨by rfl, rfl⟩) (by assumption) ?_
                  try simp only [List.getElem_toArray, List.getElem_cons_succ, List.getElem_cons_zero, Act.put, List.setIfInBounds_toArray, List.set_cons_zero, List.set_cons_succ]
                  refine wpAnyH_take (i := 24) (v := undef) rfl (by kernel_rfl) (by kernel_rfl) (by kernel_rfl) (fun _ _ _ h => h) (Or.inr ⟨by rfl, rfl⟩) (by assumption) ?_
                  try simp only [List.getElem_toArray, List.getElem_cons_succ, List.getElem_cons_zero, Act.put, List.setIfInBounds_toArray, List.set_cons_zero, List.set_cons_succ]
                  refine wpAnyH_take (i := 25) (v := undef) rfl (by kernel_rfl) (by kernel_rfl) (by kernel_rfl) (fun _ _ _ h => h) (Or.inr ⟨by rfl, rfl⟩) (by assumption) ?_
                  try simp only [List.getElem_toArray, List.getElem_cons_succ, List.getElem_cons_zero, Act.put, List.setIfInBounds_toArray, List.set_cons_zero, List.set_cons_succ]
                  refine wpAnyH_take (i := 26) (v := undef) rfl (by kernel_rfl) (by kernel_rfl) (by kernel_rfl) (fun _ _ _ h => h) (Or.inr ⟨by rfl, rfl⟩) (by assumption) ?_
                  try simp only [List.getElem_toArray, List.getElem_cons_succ, List.getElem_cons_zero, Act.put, List.setIfInBounds_toArray, List.set_cons_zero, List.set_cons_succ]
                  refine wpAnyH_take (i := 27) (v := undef) rfl (by kernel_rfl) (by kernel_rfl) (by kernel_rfl) (fun _ _ _ h => h) (Or.inr ⟨by rfl, rfl⟩) (by assumption) ?_
                  try simp only [List.getElem_toArray, List.getElem_cons_succ, List.getElem_cons_zero, Act.put, List.setIfInBounds_toArray, List.set_cons_zero, List.set_cons_succ]
                  refine wpAnyH_take (i := 28) (v := undef) rfl (by kernel_rfl) (by kernel_rfl) (by kernel_rfl) (fun _ _ _ h => h) (Or.inr ⟨by rfl, rfl⟩) (by assumption) ?_
                  try simp only [List.getElem_toArray, List.getElem_cons_succ, List.getElem_cons_zero, Act.put, List.setIfInBounds_toArray, List.set_cons_zero, List.set_cons_succ]
                  refine wpAnyH_take (i := 29) (v := undef) rfl (by kernel_rfl) (by kernel_rfl) (by kernel_rfl) (fun _ _ _ h => h) (Or.inr ⟨by rfl, rfl⟩) (by assumption) ?_
                  try simp only [List.getElem_toArray, List.getElem_cons_succ, List.getElem_cons_zero, Act.put, List.setIfInBounds_toArray, List.set_cons_zero, List.set_cons_succ]
                  refine wpAnyH_take (i := 30) (v := undef) rfl (by kernel_rfl) (by kernel_rfl) (by kernel_rfl) (fun _ _ _ h => h) (Or.inr ⟨by rfl, rfl⟩) (by assumption) ?_
                  try simp only [List.getElem_toArray, List.getElem_cons_succ, List.getElem_cons_zero, Act.put, List.setIfInBounds_toArray, List.set_cons_zero, List.set_cons_succ]
                  refine wpAnyH_take (i := 31) (v := undef) rfl (by kernel_rfl) (by kernel_rfl) (by kernel_rfl) (fun _ _ _ h => h) (Or.inr ⟨by rfl, rfl⟩) (by assumption) ?_
                  try simp only [List.getElem_toArray, List.getElem_cons_succ, List.getElem_cons_zero, Act.put, List.setIfInBounds_toArray, List.set_cons_zero, List.set_cons_succ]
                  refine wpAnyH_take (i := 32) (v := undef) rfl (by kernel_rfl) (by kernel_rfl) (by kernel_rfl) (fun _ _ _ h => h) (Or.inr ⟨by rfl, rfl⟩) (by assumption) ?_
                  try simp only [List.getElem_toArray, List.getElem_cons_succ, List.getElem_cons_zero, Act.put, List.setIfInBounds_toArray, List.set_cons_zero, List.set_cons_succ]
                  refine wpAnyH_take (i := 33) (v := .bool false) rfl (by kernel_rfl) (by kernel_rfl) (by kernel_rfl) (fun _ _ _ h => h) (Or.inl ⟨by rfl, fun W hS => by obtain ⟨s0, s1, s2, r0, r1⟩ := hS; go_simp⟩) (by assumption) ?_
                  try simp only [List.getElem_toArray, List.getElem_cons_succ, List.getElem_cons_zero, Act.put, List.setIfInBounds_toArray, List.set_cons_zero, List.set_cons_succ]
                  refine wpAnyH_take (i := 34) (v := .bool false) rfl (by kernel_rfl) (by kernel_rfl) (by kernel_rfl) (fun _ _ _ h => h) (Or.inl ⟨by rfl, fun W hS => by obtain ⟨s0, s1, s2, r0, r1⟩ := hS; go_simp⟩) (by assumption) ?_
                  try simp only [List.getElem_toArray, List.getElem_cons_succ, List.getElem_cons_zero, Act.put, List.setIfInBounds_toArray, List.set_cons_zero, List.set_cons_succ]
                  refine wpAnyH_take (i := 35) (v := .bool false) rfl (by kernel_rfl) (by kernel_rfl) (by kernel_rfl) (fun _ _ _ h => h) (Or.inl ⟨by rfl, fun W hS => by obtain ⟨s0, s1, s2, r0, r1⟩ := hS; go_simp⟩) (by assumption) ?_
                  try simp only [List.getElem_toArray, List.getElem_cons_succ, List.getElem_cons_zero, Act.put, List.setIfInBounds_toArray, List.set_cons_zero, List.set_cons_succ]
                  refine wpAnyH_take (i := 36) (v := .bool false) rfl (by kernel_rfl) (by kernel_rfl) (by kernel_rfl) (fun _ _ _ h => h) (Or.inl ⟨by rfl, fun W hS => by obtain ⟨s0, s1, s2, r0, r1⟩ := hS; go_simp⟩) (by assumption) ?_
                  try simp only [List.getElem_toArray, List.getElem_cons_succ, List.getElem_cons_zero, Act.put, List.setIfInBounds_toArray, List.set_cons_zero, List.set_cons_succ]
                  refine wpAnyH_take (i := 37) (v := .pointer (some ⟨s1, 0, none⟩)) rfl (by kernel_rfl) (by kernel_rfl) (by kernel_rfl) (fun _ _ _ h => h) (Or.inl ⟨by rfl, fun W hS => by obtain ⟨s0, s1, s2, r0, r1⟩ := hS; go_simp⟩) (by assumption) ?_
                  try simp only [List.getElem_toArray, List.getElem_cons_succ, List.getElem_cons_zero, Act.put, List.setIfInBounds_toArray, List.set_cons_zero, List.set_cons_succ]
                  refine wpAnyH_take (i := 38) (v := .agg #[.int .i64 E.house, .int .i64 E.no, .string (str E.body)]) rfl (by kernel_rfl) (by kernel_rfl) (by kernel_rfl) (fun _ _ _ h => h) (Or.inl ⟨by rfl, fun W hS => by obtain ⟨s0, s1, s2, r0, r1⟩ := hS; go_simp⟩) (by assumption) ?_
                  try simp only [List.getElem_toArray, List.getElem_cons_succ, List.getElem_cons_zero, Act.put, List.setIfInBounds_toArray, List.set_cons_zero, List.set_cons_succ]
                  refine wpAnyH_ready (rs := [39]) (by kernel_rfl) (by simp) ?_
                  refine AllReadyH.cons rfl (fun K hK => ?_) AllReadyH.nil
                  go_simp
                  refine (HAE.out _ _ HLB.out).mono ?_
                  rintro r W20 ⟨rfl, fp20, hs20⟩
                  have HON := Lib.hid (own_keep HOV0.out hs20.keeps (HLB.out.row HOV0.out))
                  have HLN := Lib.hid (HLB.out.step HBW.out hs20)
                  have HKN := Lib.hid (HKV0.out.trans' hs20.keeps (fun i hi hf => by have := HLB.out.ge hf; have := HRW.out; omega))
                  have f0 := (hs20.keeps.cell (p := ⟨wr.heap.size, 0, none⟩) (block_lt_of_cell e0) HNE.out).trans e0
                  have f1 := (hs20.keeps.cell (p := ⟨wr.heap.size, 1, none⟩) (block_lt_of_cell e1) HNE.out).trans e1
                  have f2 := (hs20.keeps.cell (p := ⟨wr.heap.size, 2, none⟩) (block_lt_of_cell e2) HNE.out).trans e2
                  obtain ⟨f3, f4⟩ := HPC.out _ HON.out
                  clear hs20
                  refine hK.out _ _ ⟨f0, f1, f2, f3, f4⟩ (fun hHeld2 => ?_)
                  clear hK K hHeld
                  try simp only [List.getElem_toArray, List.getElem_cons_succ, List.getElem_cons_zero, Act.put, List.setIfInBounds_toArray, List.set_cons_zero, List.set_cons_succ]
                  refine wpAnyH_take (i := 40) (v := .bool false) rfl (by kernel_rfl) (by kernel_rfl) (by kernel_rfl) (fun _ _ _ h => h) (Or.inl ⟨by rfl, fun W hS => by obtain ⟨s0, s1, s2, r0, r1⟩ := hS; go_simp⟩) (by assumption) ?_
                  try simp only [List.getElem_toArray, List.getElem_cons_succ, List.getElem_cons_zero, Act.put, List.setIfInBounds_toArray, List.set_cons_zero, List.set_cons_succ]
                  refine wpAnyH_take (i := 41) (v := .bool false) rfl (by kernel_rfl) (by kernel_rfl) (by kernel_rfl) (fun _ _ _ h => h) (Or.inl ⟨by rfl, fun W hS => by obtain ⟨s0, s1, s2, r0, r1⟩ := hS; go_simp⟩) (by assumption) ?_
                  try simp only [List.getElem_toArray, List.getElem_cons_succ, List.getElem_cons_zero, Act.put, List.setIfInBounds_toArray, List.set_cons_zero, List.set_cons_succ]
                  refine wpAnyH_done (by kernel_rfl) ?_ _
                  try simp only [Exit.then]
                  go_wp2
                  go_roundw
                  case rel => exact ⟨q + 1 + 1, by omega, by go_num, HKN.out, ⟨_, HLN.out⟩, HON.out⟩
                  case measure => simp [intOf]; omega
            · obtain rfl : k = (entsOf S1).length := by omega
              obtain ⟨cbz, hcbz⟩ := hLv.cell0
              have y0 := (hcbz wr (Keeps.refl _ _)).1
              have HAZ := Lib.hid (all_sl cbz S1 wr (hcbz wr (Keeps.refl _ _)).2)
              have HEZ := Lib.hid (fun W (k : Keeps None' wr W) => EntSl.of_own (own_keep hOv k (fun _ _ h => h)))
              have HKV0 := Lib.hid hKv
              clear hLv hcbz hKv hOv
              go_wp2_with (first
                | (go_at_call 36; refine HAZ.out.mono ?_; rintro e W20 ⟨a20, c20, rfl, -, hE20, hk20⟩; have HKz := Lib.hid hk20; have HE20 := Lib.hid hE20; clear hE20 hk20)
                | (go_at_call 43; refine (HEQ.out _ _ _ HE20.out (HEZ.out _ HKz.out)).mono ?_; rintro e W21 ⟨rfl, hk21⟩))
              go_ret
              exact ⟨rfl, (HKV0.out.trans HKz.out).trans hk21⟩
end Go.Proofs.YtlbaagjbehdmgaaGreat
