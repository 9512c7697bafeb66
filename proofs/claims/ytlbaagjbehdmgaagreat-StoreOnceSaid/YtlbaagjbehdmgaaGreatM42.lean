/- StorePages. -/
import Derived.Test.YtlbaagjbehdmgaaGreatM38
import Derived.Test.YtlbaagjbehdmgaaGreatM32
namespace Go.Proofs.YtlbaagjbehdmgaaGreat
open Go.RowKit

theorem Live.down {base base' : Nat} {w : World} {s d : Nat} {fp : Nat → Prop} {D : Dsk} {S : St} {F : Option St} {falls : Int} (h : Live base w s d fp D S F falls) (hb : base' ≤ base) : Live base' w s d fp D S F falls :=
  ⟨h.store, h.disk, fun k hk => Nat.le_trans hb (h.new k hk), Nat.le_trans hb h.news⟩
theorem free_live {base : Nat} {w : World} {s d : Nat} {fp : Nat → Prop} {D : Dsk} {S : St} {F : Option St} {falls : Int} (h : Live base w s d fp D S F falls) (h2 : 2 ≤ D.now.length) (n : Nat) (hn : (freeOf D S F).length = n) :
    Calls Tryz.prog 37 #[.pointer (some ⟨s, 0, none⟩)] w fun e w' => e = .returned (.int .i64 (n : Int)) ∧ Keeps None' w w' := by
  have := Free_any w s d D fp S F falls h.store h.disk h2
  rw [hn] at this
  exact this
theorem Live.cell0 {base : Nat} {w : World} {s d : Nat} {fp : Nat → Prop} {D : Dsk} {S : St} {F : Option St} {falls : Int} (h : Live base w s d fp D S F falls) : ∃ cb, (∀ W, Keeps None' w W → W.cell? ⟨s, 0, none⟩ = some (.pointer (some ⟨cb, 0, none⟩)) ∧ IsState W cb S) := by
  obtain ⟨cb, fv, hs⟩ := h.store
  exact ⟨cb, fun W k => ⟨(k.cell (p := ⟨s, 0, none⟩) (lt_of_block hs.blk) (fun h => h)).trans hs.c0, hs.cur.keep k (spares_none _)⟩⟩
theorem ByH.inHouse {S : St} {B : Nat → List (List UInt8)} (hb : ByH S B) (h8 : S.houses ≤ 8) : ∀ p ∈ S.entries, p.e.house < S.houses := fun p hp => by
  have : p.e ∈ joinH B S.houses := by rw [← hb.ents]; exact List.mem_map.2 ⟨p, hp, rfl⟩
  exact (join_valid h8 hb.len hb.body _ this).2.2
theorem same_live {base base2 : Nat} {w : World} {s d s2 d2 : Nat} {fp fp2 : Nat → Prop} {D D2 : Dsk} {S S2 : St} {F F2 : Option St} {falls falls2 : Int} (h : Live base w s d fp D S F falls) (h' : Live base2 w s2 d2 fp2 D2 S2 F2 falls2) {B B2 : Nat → List (List UInt8)} (hb : ByH S B) (hb2 : ByH S2 B2) (h8 : S.houses ≤ 8) (he : entsOf S = entsOf S2) (hh : S.houses = S2.houses) :
    Calls Tryz.prog 40 #[.pointer (some ⟨s, 0, none⟩), .pointer (some ⟨s2, 0, none⟩)] w fun e w' => e = .returned (.bool true) ∧ Keeps None' w w' := by
  obtain ⟨c1, f1⟩ := h.cell0
  obtain ⟨c2, f2⟩ := h'.cell0
  obtain ⟨a1, a2⟩ := f1 w (Keeps.refl _ _)
  obtain ⟨b1, b2⟩ := f2 w (Keeps.refl _ _)
  exact same_any w s s2 c1 c2 S S2 a1 b1 a2 b2 (hb.inHouse h8) (hb2.inHouse (by omega)) he hh
theorem fewP_spec {L : List Ent} (h : fewP L = true) : L.length ≤ 24 ∧ ∀ e ∈ L, e.body.length ≤ 200 := by
  unfold fewP at h
  simp only [Bool.and_eq_true, decide_eq_true_eq, Bool.not_eq_true', List.any_eq_false] at h
  exact ⟨h.1, fun e he => by have := h.2 e he; omega⟩
theorem littleP_spec {h p : Int} {L : List Ent} (hl : littleP h p L = true) : 1 ≤ h ∧ h ≤ 8 ∧ 2 ≤ p ∧ p ≤ 100 ∧ L.length ≤ 24 ∧ ∀ e ∈ L, e.body.length ≤ 200 := by
  unfold littleP at hl
  simp only [Bool.and_eq_true, decide_eq_true_eq] at hl
  obtain ⟨⟨⟨⟨a, b⟩, c⟩, d⟩, e⟩ := hl
  exact ⟨a, b, c, d, fewP_spec e⟩
theorem npieces_le5 (e : Ent) (h : e.body.length ≤ 200) : 1 ≤ npieces e ∧ npieces e ≤ 4 := by unfold npieces; omega
theorem sum_pieces : ∀ (L : List Ent), (∀ e ∈ L, e.body.length ≤ 200) → L.length ≤ (L.map npieces).sum ∧ (L.map npieces).sum ≤ 4 * L.length
  | [], _ => by simp
  | e :: L, h => by
    have h1 := npieces_le5 e (h e List.mem_cons_self)
    have h2 := sum_pieces L (fun x hx => h x (List.mem_cons_of_mem _ hx))
    simp only [List.map_cons, List.sum_cons, List.length_cons]
    omega
set_option maxRecDepth 100000 in
set_option maxHeartbeats 3000000 in
theorem pagesLaw_any (w : World) (h p more : Int) (v vz : Value) (L : List Ent) (zs : List Int) (hv : EntSl w v L) (hz : IntSl w vz zs) (hm1 : -9223372036854775808 ≤ more) (hm2 : more ≤ 9223372036854775807) :
    Calls Tryz.prog 4 #[.agg #[.int .i64 h, .int .i64 p, v], vz, .int .i64 more] w fun e w' => e = .returned (.bool true) ∧ Keeps None' w w' := by
  obtain ⟨va, vcap, rfl⟩ := hv.shape
  obtain ⟨za, zcap, rfl⟩ := hz.shape
  have HSN := Lib.hid (fun W => sane_any W)
  have HV := Lib.hid hv
  have HZ := Lib.hid hz
  have hk0 : Keeps None' w (w.alloc (.cells #[.int .i64 h, .int .i64 p, .slice va L.length vcap] 46)) := (Keeps.refl _ _).alloc _
  have hbl := heap_alloc_new w (.cells #[.int .i64 h, .int .i64 p, .slice va L.length vcap] 46)
  have HBX := Lib.hid (fun W (k : Keeps None' (w.alloc (.cells #[.int .i64 h, .int .i64 p, .slice va L.length vcap] 46)) W) => (⟨cell_of_blk (k.blk hbl (fun h => h)) 0 rfl, cell_of_blk (k.blk hbl (fun h => h)) 1 rfl, cell_of_blk (k.blk hbl (fun h => h)) 2 rfl⟩ : W.cell? ⟨w.heap.size, 0, none⟩ = some (.int .i64 h) ∧ W.cell? ⟨w.heap.size, 1, none⟩ = some (.int .i64 p) ∧ W.cell? ⟨w.heap.size, 2, none⟩ = some (.slice va L.length vcap)))
  have HLT := Lib.hid (fun W (k : Keeps None' w W) => little_any W h p _ L (hv.keep k))
  have HK0 := Lib.hid hk0
  clear hv hz hbl hk0
  by_cases hli : littleP h p L = true
  case neg =>
    have hli' : littleP h p L = false := by simpa using hli
    rw [hli'] at HLT
    clear hli hli'
    go_enter Tryz.func4, Tryz.ntmps4
    go_wp2_with (first
      | (go_at_call 11; refine (HSN.out _).mono ?_; rintro e W1 ⟨rfl, hk1⟩; obtain ⟨b0, b1, b2⟩ := HBX.out W1 hk1; have HK1 := Lib.hid (HK0.out.trans hk1); clear hk1)
      | (go_at_call 32; refine (HLT.out _ HK1.out).mono ?_; rintro e W2 ⟨rfl, hk2⟩; have HK2 := Lib.hid (HK1.out.trans hk2); clear hk2))
    go_ret
    exact ⟨rfl, HK2.out⟩
  rw [hli] at HLT
  by_cases hz24 : zs.length ≤ 24
  case neg =>
    have hz24I : (24 : Int) < (zs.length : Int) := by omega
    clear hli
    go_enter Tryz.func4, Tryz.ntmps4
    go_wp2_with (first
      | (go_at_call 11; refine (HSN.out _).mono ?_; rintro e W1 ⟨rfl, hk1⟩; obtain ⟨b0, b1, b2⟩ := HBX.out W1 hk1; have HK1 := Lib.hid (HK0.out.trans hk1); clear hk1)
      | (go_at_call 32; refine (HLT.out _ HK1.out).mono ?_; rintro e W2 ⟨rfl, hk2⟩; have HK2 := Lib.hid (HK1.out.trans hk2); clear hk2))
    go_ret
    exact ⟨rfl, HK2.out⟩
  by_cases hm0 : 0 ≤ more
  case neg =>
    have hm0I : more < 0 := by omega
    clear hli
    go_enter Tryz.func4, Tryz.ntmps4
    go_wp2_with (first
      | (go_at_call 11; refine (HSN.out _).mono ?_; rintro e W1 ⟨rfl, hk1⟩; obtain ⟨b0, b1, b2⟩ := HBX.out W1 hk1; have HK1 := Lib.hid (HK0.out.trans hk1); clear hk1)
      | (go_at_call 32; refine (HLT.out _ HK1.out).mono ?_; rintro e W2 ⟨rfl, hk2⟩; have HK2 := Lib.hid (HK1.out.trans hk2); clear hk2))
    go_ret
    exact ⟨rfl, HK2.out⟩
  by_cases hm100 : more ≤ 100
  case neg =>
    have hm0I : 100 < more := by omega
    clear hli
    go_enter Tryz.func4, Tryz.ntmps4
    go_wp2_with (first
      | (go_at_call 11; refine (HSN.out _).mono ?_; rintro e W1 ⟨rfl, hk1⟩; obtain ⟨b0, b1, b2⟩ := HBX.out W1 hk1; have HK1 := Lib.hid (HK0.out.trans hk1); clear hk1)
      | (go_at_call 32; refine (HLT.out _ HK1.out).mono ?_; rintro e W2 ⟨rfl, hk2⟩; have HK2 := Lib.hid (HK1.out.trans hk2); clear hk2))
    go_ret
    exact ⟨rfl, HK2.out⟩
  obtain ⟨g1, g2, g3, g4, g5, g6⟩ := littleP_spec hli
  obtain ⟨hn, rfl⟩ : ∃ n : Nat, h = (n : Int) := ⟨h.toNat, by omega⟩
  obtain ⟨mn, rfl⟩ : ∃ n : Nat, more = (n : Int) := ⟨more.toNat, by omega⟩
  have HG6 := Lib.hid g6
  clear hli g6
  have HPK := Lib.hid (fun W (k : Keeps None' w W) => pick_any W (hn : Int) p _ _ L zs (HV.out.keep k) (HZ.out.keep k) (by omega))
  have hgl : (pickE L zs).length ≤ 24 := Nat.le_trans (pickE_len _ _) hz24
  have hgb : ∀ e ∈ pickE L zs, e.body.length ≤ 200 := fun e he => HG6.out e (pickE_mem he)
  generalize pickE L zs = G at *
  have hel := new_len G hn
  have heb : ∀ e ∈ joinH (newB G (fun _ => [])) hn, e.body.length ≤ 200 := fun e he => by
    rcases join_new_mem (fun _ _ => by simp) he with h1 | h1
    · obtain ⟨_, _, _, _, h2, _⟩ := joinH_mem.1 h1
      simp at h2
    · exact hgb e h1
  have HEB := Lib.hid heb
  clear hgb heb
  have hqs : ∀ (W : World) (d : Nat), (binOp .eql 50 (.pointer (some ⟨d, 0, none⟩)) (.pointer none)).run Tryz.prog W = .ok (.bool false) W := fun W d => by kernel_rfl
  go_enter Tryz.func4, Tryz.ntmps4
  go_upto_region 6 with (first
    | (go_at_call 11; refine (HSN.out _).mono ?_; rintro e W1 ⟨rfl, hk1⟩; obtain ⟨b0, b1, b2⟩ := HBX.out W1 hk1; have HK1 := Lib.hid (HK0.out.trans hk1); have HKX1 := Lib.hid hk1; clear hk1)
    | (go_at_call 32; refine (HLT.out _ HK1.out).mono ?_; rintro e W2 ⟨rfl, hk2⟩; have HK2 := Lib.hid (HK1.out.trans hk2); have HKX2 := Lib.hid (HKX1.out.trans hk2); clear b0 b1 b2; obtain ⟨b0, b1, b2⟩ := HBX.out W2 HKX2.out; clear hk2)
    | (go_at_call 33; refine (HPK.out _ HK2.out).mono ?_; rintro e W3 ⟨vg, rfl, hg, hk3⟩; have HG := Lib.hid hg; have HK3 := Lib.hid (HK2.out.trans hk3); have HKX3 := Lib.hid (HKX2.out.trans hk3); clear b0 b1 b2 hk3 hg))
  clear HSN HLT HPK HKX1 HKX2 HV HZ
  obtain ⟨b0, b1, b2⟩ := HBX.out W3 HKX3.out
  obtain ⟨gva, gvcap, rfl⟩ := (EntSl.of_own HG.out).shape
  have HAFT := Lib.hid (after_any W3 hn p va L.length vcap _ G (by omega) (by omega) (by omega) (EntSl.of_own HG.out))
  go_upto_region 9 with (first | (go_at_call 34; refine HAFT.out.mono ?_; rintro e W4 ⟨s1, d1, fp1, D1, S1, F1, rfl, hA1, hk4⟩; have HA1 := Lib.hid hA1; have HK4 := Lib.hid (HK3.out.trans hk4); have HKX4 := Lib.hid (HKX3.out.trans hk4); have HG4 := Lib.hid (own_keep HG.out hk4 (fun _ _ h => h)); clear b0 b1 b2 hk4 hA1))
  clear HAFT HG
  have hA1 := HA1.out
  have hh1 : S1.houses = hn := hA1.houses
  have he1 : entsOf S1 = joinH (newB G (fun _ => [])) hn := by rw [hA1.byH.ents, hh1]
  obtain ⟨cb1, hcb1⟩ := hA1.live.cell0
  have HCB1 := Lib.hid hcb1
  have HALL1 := Lib.hid (fun W (k : Keeps None' W4 W) => all_sl cb1 S1 W (hcb1 W k).2)
  have hfr1 := hA1.inv.free_first (fun T hT => by rw [hA1.former T hT]; exact firstSt_uses hn)
  rw [hA1.len, he1] at hfr1
  rw [he1] at HALL1
  have hpe : pagesOfE (joinH (newB G (fun _ => [])) hn) = pagesE (joinH (newB G (fun _ => [])) hn) := rfl
  rw [hpe] at hfr1
  have hsum := sum_pieces _ HEB.out
  have hpl : pagesE (joinH (newB G (fun _ => [])) hn) = ((joinH (newB G (fun _ => [])) hn).length + 25) / 26 + ((joinH (newB G (fun _ => [])) hn).map npieces).sum := rfl
  have HE1 := Lib.hid he1
  have HPG := Lib.hid (fun W v (k : EntSl W v (joinH (newB G (fun _ => [])) hn)) => pagesE_any W v _ k (by omega) (fun e he => by have := HEB.out e he; omega))
  have HFR1 := Lib.hid (fun W (k : Keeps None' W4 W) => free_live (hA1.live.keep k) (by rw [hA1.len]; omega) _ rfl)
  generalize joinH (newB G (fun _ => [])) hn = E at *
  generalize hP : pagesE E = P at *
  have HPQ := Lib.hid (show pagesOfE E = P from hP)
  generalize hfq : (freeOf D1 S1 F1).length = fr1 at *
  have HFQ := Lib.hid hfq
  clear hfq
  have hPb : P ≤ 200 := by omega
  have hPI : (P : Int) ≤ 200 := by omega
  have hEP : E.length = 0 ↔ P = 0 := by omega
  have HPL := Lib.hid hpl
  clear hcb1 he1 hA1 hpl hP hpe hsum
  obtain ⟨x1, -⟩ := HCB1.out W4 (Keeps.refl _ _)
  by_cases hE0 : E.length = 0
  case pos =>
    have hEz : ((E.length : Int) == 0) = true := by simp [hE0]
    have hfz : ((fr1 : Int) == 1022) = true := by
      have : P = 0 := hEP.1 hE0
      simp; omega
    clear hE0
    go_wp2_with (first
      | (go_at_call 36; first
        | ((with_reducible refine (HALL1.out _ HKA5.out).mono ?_); rintro e W6 ⟨a6, c6, rfl, -, hE6, hk6⟩; have HKA6 := Lib.hid (HKA5.out.trans hk6); clear hk6 hE6)
        | ((with_reducible refine (HALL1.out _ (Keeps.refl _ _)).mono ?_); rintro e W5 ⟨a5, c5, rfl, -, hE5, hk5⟩; have HE5 := Lib.hid hE5; have HKA4 := Lib.hid hk5; clear hk5 hE5))
      | (go_at_call 35; refine (HPG.out _ _ HE5.out).mono ?_; rintro e W5b ⟨rfl, hk5⟩; have HKA5 := Lib.hid (HKA4.out.trans hk5); clear x1; obtain ⟨x1, -⟩ := HCB1.out _ HKA5.out; clear hk5)
      | (go_at_call 37; refine (HFR1.out _ HKA6.out).mono ?_; rintro e W7 ⟨rfl, hk7⟩; have HKA7 := Lib.hid (HKA6.out.trans hk7); clear hk7))
    go_ret
    exact ⟨rfl, HK4.out.trans HKA7.out⟩
  have hEz : ((E.length : Int) == 0) = false := by simpa using hE0
  have HE0 := Lib.hid hE0
  clear hE0
  go_upto_region 12 with (first
    | (go_at_call 36; first
      | ((with_reducible refine (HALL1.out _ HKA5.out).mono ?_); rintro e W6 ⟨a6, c6, rfl, -, hE6, hk6⟩; have HKA6 := Lib.hid (HKA5.out.trans hk6); clear hk6 hE6)
      | ((with_reducible refine (HALL1.out _ (Keeps.refl _ _)).mono ?_); rintro e W5 ⟨a5, c5, rfl, -, hE5, hk5⟩; have HE5 := Lib.hid hE5; have HKA4 := Lib.hid hk5; clear hk5 hE5))
    | (go_at_call 35; refine (HPG.out _ _ HE5.out).mono ?_; rintro e W5b ⟨rfl, hk5⟩; have HKA5 := Lib.hid (HKA4.out.trans hk5); clear x1; obtain ⟨x1, -⟩ := HCB1.out _ HKA5.out; clear hk5))
  obtain ⟨b0, b1, b2⟩ := HBX.out _ (HKX4.out.trans HKA6.out)
  have e1 : ((P + 2 + mn : Nat) : Int) = (P : Int) + 2 + (mn : Int) := by omega
  have e2 : ((P + 1 : Nat) : Int) = (P : Int) + 1 := by omega
  have hP2 : 2 ≤ P := by
    have h1 := HPL.out
    have h2 : E.length ≠ 0 := HE0.out
    have h3 := (sum_pieces _ HEB.out).1
    omega
  have hmd1 := fun W => made_any W hn (P + 2 + mn) p va L.length vcap (by omega) (by omega) (by omega) (by omega)
  have hmd2 := fun W => made_any W hn (P + 1) p va L.length vcap (by omega) (by omega) (by omega) (by omega)
  rw [e1] at hmd1
  rw [e2] at hmd2
  have HMD1 := Lib.hid hmd1
  have HMD2 := Lib.hid hmd2
  clear hmd1 hmd2 e1 e2
  go_upto_region 13 with (first
    | (go_at_call 38; refine (HMD1.out _).mono ?_; rintro e W7 ⟨d2, s2, fp2, D2, rfl, hl2, hi2, ha2, hf2, hn2, hk7⟩; have HL2 := Lib.hid hl2; have HI2 := Lib.hid hi2; have HD2 := Lib.hid (⟨ha2, hf2, hn2⟩ : D2.armed = 0 ∧ D2.falls = 0 ∧ D2.now.length = P + 2 + mn); have HKA7 := Lib.hid (HKA6.out.trans hk7); have HK67 := Lib.hid hk7; clear hl2 hi2 ha2 hf2 hn2 hk7 x1 b0 b1 b2))
  obtain ⟨b0, b1, b2⟩ := HBX.out _ (HKX4.out.trans HKA7.out)
  go_upto_region 16 with (first
    | (go_at_call 38; refine (HMD2.out _).mono ?_; rintro e W8 ⟨d3, s3, fp3, D3, rfl, hl3, hi3, ha3, hf3, hn3, hk8⟩; have HL3 := Lib.hid hl3; have HI3 := Lib.hid hi3; have HD3 := Lib.hid (⟨ha3, hf3, hn3⟩ : D3.armed = 0 ∧ D3.falls = 0 ∧ D3.now.length = P + 1); have HKA8 := Lib.hid (HKA7.out.trans hk8); have HK78 := Lib.hid hk8; clear hl3 hi3 ha3 hf3 hn3 hk8 b0 b1 b2))
  have hw6 : W4.heap.size ≤ W6.heap.size := HKA6.out.size
  have hl1 := (HA1.out.live.keep HKA6.out)
  have ap12 := apart_later hl1 HL2.out (Nat.le_refl _)
  have hl1b := hl1.keep HK67.out
  have ap13 := apart_later hl1b HL3.out (Nat.le_refl _)
  have ap23 := apart_later HL2.out HL3.out (Nat.le_refl _)
  have hl1c := hl1b.keep HK78.out
  have hl2c := HL2.out.keep HK78.out
  have hg8 := own_keep HG4.out HKA8.out (fun _ _ h => h)
  have hE : joinH (newB G (fun _ => [])) hn = E := by rw [← HE1.out, HA1.out.byH.ents, hh1]
  have hne : ¬ ∀ k, k < (firstSt hn).houses → newB G (fun _ => []) k = (fun _ => []) k := fun hc => by
    have : joinH (newB G (fun _ => [])) hn = joinH (fun _ => []) hn := joinH_congr hc
    have h2 : entsOf (firstSt hn) = joinH (fun _ => []) hn := (firstSt_byH hn).ents
    rw [hE, ← h2] at this
    exact HE0.out (by rw [this]; rfl)
  have hneed : needOf (tkL G (firstSt hn)) = P := by rw [need_first, hE]; exact HPQ.out
  have hpz : pagesOfE (entsOf (firstSt hn)) = 0 := by simp [pagesOfE, entsOf, firstSt]
  have hfree2 := HI2.out.free_first (fun T hT => by cases hT)
  have hfree3 := HI3.out.free_first (fun T hT => by cases hT)
  rw [hpz, HD2.out.2.2] at hfree2
  rw [hpz, HD3.out.2.2] at hfree3
  obtain ⟨n2, D2', S2', F2', ht2⟩ := HI2.out.take_room (firstSt_byH hn) HD2.out.1 (by simp [firstSt]) G (by rw [hneed]; omega)
  have hn2p : 0 < n2 := by
    rcases Nat.eq_zero_or_pos n2 with h0 | h0
    · exact absurd (ht2.zero.1 h0) hne
    · exact h0
  have ht3 : takeP D3 (firstSt hn) none D3.falls G = (0, 92, D3, firstSt hn, none) := by
    rcases HI3.out.take (firstSt_byH hn) HD3.out.1 (by simp [firstSt]) G with ⟨h1, _⟩ | ⟨_, _, h2⟩ | ⟨_, h1, _⟩
    · exact absurd h1 hne
    · exact h2
    · rw [hneed] at h1; omega
  have hfl2 := HD2.out.2.1
  have hfl3 := HD3.out.2.1
  have hl2d : Live W6.heap.size W8 s2 d2 fp2 D2 (firstSt hn) none D2.falls := by rw [hfl2]; exact hl2c
  have hc2 := tookLive hl2d HI2.out (firstSt_byH hn) _ G (by omega) (EntSl.of_own hg8) ht2
  rw [hfl2] at hc2
  have HC2 := Lib.hid hc2
  have HL1 := Lib.hid hl1c
  have HL2c := Lib.hid hl2c
  have HAP := Lib.hid (And.intro ap12 (And.intro ap13 ap23))
  have HG8 := Lib.hid hg8
  have HT2 := Lib.hid ht2
  have HT3 := Lib.hid ht3
  have HE2 := Lib.hid hE
  have hn2I : (0 : Int) < (n2 : Int) := by omega
  have HFL := Lib.hid (And.intro hfl2 hfl3)
  clear hl1 ap12 hl1b ap13 ap23 hl1c hl2c hg8 hE hne hpz hneed ht2 ht3 hl2d hc2 hfree2 hfree3 hfl2 hfl3 hn2p
  go_upto_region 17 with (first
    | (go_at_call 39; refine HC2.out.mono ?_; rintro e W9 ⟨rfl, fp2', hs2⟩; have HS2 := Lib.hid hs2; clear hs2))
  obtain ⟨ap12, ap13, ap23⟩ := HAP.out
  have hl2e := HL2c.out.step (Nat.le_trans HK67.out.size HK78.out.size) HS2.out
  obtain ⟨hl1e, ap21⟩ := HL2c.out.other HL1.out ap12.symm HS2.out
  obtain ⟨hl3e, ap23e⟩ := HL2c.out.other HL3.out ap23 HS2.out
  have hg9 := own_keep HG8.out HS2.out.keeps (HL2c.out.row HG8.out)
  have hc3 := take_live hl3e HI3.out (firstSt_byH hn) _ G (by omega) (EntSl.of_own hg9)
  have ht3 := HT3.out
  rw [HFL.out.2] at ht3
  rw [ht3] at hc3
  have HC3 := Lib.hid (show Calls Tryz.prog 39 #[.pointer (some ⟨s3, 0, none⟩), .slice gva G.length gvcap] W9 fun e w' => e = .returned (.tuple #[.int .i64 0, .int .i64 92]) ∧ ∃ fp', SStep W9 s3 d3 fp3 w' D3 (firstSt hn) none 0 fp' from hc3)
  have HX := Lib.hid (And.intro hl1e (And.intro ap21 (And.intro hl2e (And.intro hl3e ap23e))))
  clear hl2e hl1e ap21 hl3e ap23e hg9 hc3 ht3 ap12 ap13 ap23
  go_upto_region 18 with (first
    | (go_at_call 39; refine HC3.out.mono ?_; rintro e W10 ⟨rfl, fp3', hs3⟩; have HS3 := Lib.hid hs3; clear hs3))
  obtain ⟨hl1e, ap21, hl2e, hl3e, ap23e⟩ := HX.out
  obtain ⟨hl1f, _⟩ := hl3e.other hl1e (fun k a b => by
    have h1 : Apart fp3 s3 fp1 s1 := by
      obtain ⟨ap12, ap13, ap23⟩ := HAP.out
      exact ap13.symm
    exact h1 k a b) HS3.out
  obtain ⟨hl2f, _⟩ := hl3e.other hl2e ap23e.symm HS3.out
  have hl3f := hl3e.step (Nat.le_trans HK78.out.size HS2.out.keeps.size) HS3.out
  have t2 := HT2.out
  have he2 : entsOf S2' = E := by rw [t2.byH.ents, t2.houses]; exact HE2.out
  have hF2 : ∀ T, F2' = some T → usesOf T = [] := fun T hT => by
    rcases t2.ends with ⟨_, _, _, e⟩ | ⟨_, e, _⟩
    · rw [e] at hT; cases hT
    · rw [e] at hT; rw [← Option.some.inj hT]; exact firstSt_uses hn
  have hfa := t2.inv.free_first hF2
  rw [he2, HPQ.out, t2.len, HD2.out.2.2] at hfa
  have hfb := HI3.out.free_first (fun T hT => by cases hT)
  rw [show pagesOfE (entsOf (firstSt hn)) = 0 by simp [pagesOfE, entsOf, firstSt], HD3.out.2.2] at hfb
  have HFREE1 := Lib.hid (fun W (k : Keeps None' W10 W) => show Calls Tryz.prog 37 #[.pointer (some ⟨s1, 0, none⟩)] W fun e w' => e = .returned (.int .i64 (1022 - (P : Int))) ∧ Keeps None' W w' by
    have := free_live (hl1f.keep k) (by rw [HA1.out.len]; omega) _ rfl
    have e : ((freeOf D1 S1 F1).length : Int) = 1022 - (P : Int) := by rw [HFQ.out]; omega
    rw [e] at this
    exact this)
  have HFREE2 := Lib.hid (fun W (k : Keeps None' W10 W) => free_live (hl2f.keep k) (by rw [t2.len, HD2.out.2.2]; omega) mn (by omega))
  have HFREE3 := Lib.hid (fun W (k : Keeps None' W10 W) => show Calls Tryz.prog 37 #[.pointer (some ⟨s3, 0, none⟩)] W fun e w' => e = .returned (.int .i64 ((P : Int) - 1)) ∧ Keeps None' W w' by
    have := free_live (hl3f.keep k) (by rw [HD3.out.2.2]; omega) _ rfl
    have e : ((freeOf D3 (firstSt hn) none).length : Int) = (P : Int) - 1 := by omega
    rw [e] at this
    exact this)
  have HSAME := Lib.hid (fun W (k : Keeps None' W10 W) => same_live (hl2f.keep k) (hl1f.keep k) t2.byH HA1.out.byH (by rw [t2.houses]; exact (firstSt_legal 2 hn (by omega) (by omega) (by omega) (by omega)).ok.houses) (by rw [he2, HE1.out]) (by rw [t2.houses, hh1]; rfl))
  obtain ⟨cb3, hcb3⟩ := hl3f.cell0
  have HCB3 := Lib.hid hcb3
  have HALL3 := Lib.hid (fun W (k : Keeps None' W10 W) => show Calls Tryz.prog 36 #[.pointer (some ⟨cb3, 0, none⟩)] W fun e w' => ∃ a c, e = .returned (.slice a 0 c) ∧ Keeps None' W w' from (all_sl cb3 (firstSt hn) W (hcb3 W k).2).mono fun e w' ⟨a, c, h1, _, _, h2⟩ => ⟨a, c, h1, h2⟩)
  have HKF := Lib.hid (show Keeps None' w W10 by
    have h0 := HK4.out.trans HKA8.out
    have h1 := h0.trans' HS2.out.keeps (fun i hi hf => by
      have := HL2c.out.ge hf; have := HK4.out.size; have := HKA6.out.size; omega)
    exact h1.trans' HS3.out.keeps (fun i hi hf => by
      have := hl3e.ge hf; have := HK4.out.size; have := HKA7.out.size; omega))
  clear hl1e ap21 hl2e hl3e ap23e hl1f hl2f hl3f t2 he2 hF2 hfa hfb hcb3
  have y3 := (HCB3.out W10 (Keeps.refl _ _)).1
  have hw10 : s3 < W10.heap.size := block_lt_of_cell y3
  go_wp2_with (first
    | (go_at_call 37; first
      | ((with_reducible refine (HFREE1.out _ (Keeps.refl _ _)).mono ?_); rintro e W11 ⟨rfl, hk11⟩; have HKB1 := Lib.hid hk11; clear hk11)
      | ((with_reducible refine (HFREE2.out _ HKB2.out).mono ?_); rintro e W13 ⟨rfl, hk13⟩; have HKB3 := Lib.hid (HKB2.out.trans hk13); clear y3; have y3 := (HCB3.out W13 HKB3.out).1; clear hk13)
      | ((with_reducible refine (HFREE3.out _ HKB4.out).mono ?_); rintro e W15 ⟨rfl, hk15⟩; have HKB5 := Lib.hid (HKB4.out.trans hk15); clear hk15))
    | (go_at_call 40; refine (HSAME.out _ HKB1.out).mono ?_; rintro e W12 ⟨rfl, hk12⟩; have HKB2 := Lib.hid (HKB1.out.trans hk12); clear hk12)
    | (go_at_call 36; refine (HALL3.out _ HKB3.out).mono ?_; rintro e W14 ⟨a14, c14, rfl, hk14⟩; have HKB4 := Lib.hid (HKB3.out.trans hk14); clear hk14))
  go_ret
  exact ⟨rfl, HKF.out.trans HKB5.out⟩
end Go.Proofs.YtlbaagjbehdmgaaGreat
