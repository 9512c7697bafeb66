/- StorePages. A store whose entries are of a given list; begins. StoreAgree. -/
import Derived.Test.YtlbaagjbehdmgaaGreatM38
import Derived.Test.YtlbaagjbehdmgaaGreatM32
import Derived.Test.YtlbaagjbehdmgaaGreatM41
namespace Go.Proofs.YtlbaagjbehdmgaaGreat
open Go.RowKit

theorem Live.down {base base' : Nat} {w : World} {s d : Nat} {fp : Nat → Prop} {D : Dsk} {S : St} {F : Option St} {falls : Int} (h : Live base w s d fp D S F falls) (hb : base' ≤ base) : Live base' w s d fp D S F falls :=
  ⟨h.store, h.disk, fun k hk => Nat.le_trans hb (h.new k hk), Nat.le_trans hb h.news⟩
theorem free_live {base : Nat} {w : World} {s d : Nat} {fp : Nat → Prop} {D : Dsk} {S : St} {F : Option St} {falls : Int} (h : Live base w s d fp D S F falls) (h2 : 2 ≤ D.now.length) (n : Nat) (hn : (freeOf D S F).length = n) :
    Calls Tryz.prog 37 #[.pointer (some ⟨s, 0, none⟩)] w fun e w' => e = .returned (.int .i64 (n : Int)) ∧ Keeps None' w w' := by
  have := Free_any w s d D fp S F falls h.store h.disk h2
  rw [hn] at this
  exact this
theorem Live.cell0 {base : Nat} {w : World} {s d : Nat} {fp : Nat → Prop} {D : Dsk} {S : St} {F : Option St} {falls : Int} (h : Live base w s d fp D S F falls) : ∃ cb, (∀ W, Keeps None' w W → W.cell? ⟨s, 0, none⟩ = some (.pointer (some ⟨cb, 0, none⟩)) ∧ IsState W cb S) := by
  obtain ⟨cb, fv, hs⟩ := h.store
  exact ⟨cb, fun W k => ⟨(k.cell (p := ⟨s, 0, none⟩) (lt_of_block hs.blk) (fun h => h)).trans hs.c0, hs.cur.keep k (spares_none _)⟩⟩
theorem ByH.inHouse {S : St} {B : Nat → List (List UInt8)} (hb : ByH S B) (h8 : S.houses ≤ 8) : ∀ p ∈ S.entries, p.e.house < S.houses := fun p hp => by
  have : p.e ∈ joinH B S.houses := by rw [← hb.ents]; exact List.mem_map.2 ⟨p, hp, rfl⟩
  exact (join_valid h8 hb.len hb.body _ this).2.2
theorem same_live {base base2 : Nat} {w : World} {s d s2 d2 : Nat} {fp fp2 : Nat → Prop} {D D2 : Dsk} {S S2 : St} {F F2 : Option St} {falls falls2 : Int} (h : Live base w s d fp D S F falls) (h' : Live base2 w s2 d2 fp2 D2 S2 F2 falls2) {B B2 : Nat → List (List UInt8)} (hb : ByH S B) (hb2 : ByH S2 B2) (h8 : S.houses ≤ 8) (he : entsOf S = entsOf S2) (hh : S.houses = S2.houses) :
    Calls Tryz.prog 40 #[.pointer (some ⟨s, 0, none⟩), .pointer (some ⟨s2, 0, none⟩)] w fun e w' => e = .returned (.bool true) ∧ Keeps None' w w' := by
  obtain ⟨c1, f1⟩ := h.cell0
  obtain ⟨c2, f2⟩ := h'.cell0
  obtain ⟨a1, a2⟩ := f1 w (Keeps.refl _ _)
  obtain ⟨b1, b2⟩ := f2 w (Keeps.refl _ _)
  exact same_any w s s2 c1 c2 S S2 a1 b1 a2 b2 (hb.inHouse h8) (hb2.inHouse (by omega)) he hh
theorem fewP_spec {L : List Ent} (h : fewP L = true) : L.length ≤ 24 ∧ ∀ e ∈ L, e.body.length ≤ 200 := by
  unfold fewP at h
  simp only [Bool.and_eq_true, decide_eq_true_eq, Bool.not_eq_true', List.any_eq_false] at h
  exact ⟨h.1, fun e he => by have := h.2 e he; omega⟩
theorem littleP_spec {h p : Int} {L : List Ent} (hl : littleP h p L = true) : 1 ≤ h ∧ h ≤ 8 ∧ 2 ≤ p ∧ p ≤ 100 ∧ L.length ≤ 24 ∧ ∀ e ∈ L, e.body.length ≤ 200 := by
  unfold littleP at hl
  simp only [Bool.and_eq_true, decide_eq_true_eq] at hl
  obtain ⟨⟨⟨⟨a, b⟩, c⟩, d⟩, e⟩ := hl
  exact ⟨a, b, c, d, fewP_spec e⟩
theorem npieces_le5 (e : Ent) (h : e.body.length ≤ 200) : 1 ≤ npieces e ∧ npieces e ≤ 4 := by unfold npieces; omega
theorem sum_pieces : ∀ (L : List Ent), (∀ e ∈ L, e.body.length ≤ 200) → L.length ≤ (L.map npieces).sum ∧ (L.map npieces).sum ≤ 4 * L.length
  | [], _ => by simp
  | e :: L, h => by
    have h1 := npieces_le5 e (h e List.mem_cons_self)
    have h2 := sum_pieces L (fun x hx => h x (List.mem_cons_of_mem _ hx))
    simp only [List.map_cons, List.sum_cons, List.length_cons]
    omega
set_option maxRecDepth 100000 in
set_option maxHeartbeats 3000000 in
theorem pagesLaw_any (w : World) (h p more : Int) (v vz : Value) (L : List Ent) (zs : List Int) (hv : EntSl w v L) (hz : IntSl w vz zs) (hm1 : -9223372036854775808 ≤ more) (hm2 : more ≤ 9223372036854775807) :
    Calls Tryz.prog 4 #[.agg #[.int .i64 h, .int .i64 p, v], vz, .int .i64 more] w fun e w' => e = .returned (.bool true) ∧ Keeps None' w w' := by
  obtain ⟨va, vcap, rfl⟩ := hv.shape
  obtain ⟨za, zcap, rfl⟩ := hz.shape
  have HSN := Lib.hid (fun W => sane_any W)
  have HV := Lib.hid hv
  have HZ := Lib.hid hz
  have hk0 : Keeps None' w (w.alloc (.cells #[.int .i64 h, .int .i64 p, .slice va L.length vcap] 46)) := (Keeps.refl _ _).alloc _
  have hbl := heap_alloc_new w (.cells #[.int .i64 h, .int .i64 p, .slice va L.length vcap] 46)
  have HBX := Lib.hid (fun W (k : Keeps None' (w.alloc (.cells #[.int .i64 h, .int .i64 p, .slice va L.length vcap] 46)) W) => (⟨cell_of_blk (k.blk hbl (fun h => h)) 0 rfl, cell_of_blk (k.blk hbl (fun h => h)) 1 rfl, cell_of_blk (k.blk hbl (fun h => h)) 2 rfl⟩ : W.cell? ⟨w.heap.size, 0, none⟩ = some (.int .i64 h) ∧ W.cell? ⟨w.heap.size, 1, none⟩ = some (.int .i64 p) ∧ W.cell? ⟨w.heap.size, 2, none⟩ = some (.slice va L.length vcap)))
  have HLT := Lib.hid (fun W (k : Keeps None' w W) => little_any W h p _ L (hv.keep k))
  have HK0 := Lib.hid hk0
  clear hv hz hbl hk0
  by_cases hli : littleP h p L = true
  case neg =>
    have hli' : littleP h p L = false := by simpa using hli
    rw [hli'] at HLT
    clear hli hli'
    go_enter Tryz.func4, Tryz.ntmps4
    go_wp2_with (first
      | (go_at_call 11; refine (HSN.out _).mono ?_; rintro e W1 ⟨rfl, hk1⟩; obtain ⟨b0, b1, b2⟩ := HBX.out W1 hk1; have HK1 := Lib.hid (HK0.out.trans hk1); clear hk1)
      | (go_at_call 32; refine (HLT.out _ HK1.out).mono ?_; rintro e W2 ⟨rfl, hk2⟩; have HK2 := Lib.hid (HK1.out.trans hk2); clear hk2))
    go_ret
    exact ⟨rfl, HK2.out⟩
  rw [hli] at HLT
  by_cases hz24 : zs.length ≤ 24
  case neg =>
    have hz24I : (24 : Int) < (zs.length : Int) := by omega
    clear hli
    go_enter Tryz.func4, Tryz.ntmps4
    go_wp2_with (first
      | (go_at_call 11; refine (HSN.out _).mono ?_; rintro e W1 ⟨rfl, hk1⟩; obtain ⟨b0, b1, b2⟩ := HBX.out W1 hk1; have HK1 := Lib.hid (HK0.out.trans hk1); clear hk1)
      | (go_at_call 32; refine (HLT.out _ HK1.out).mono ?_; rintro e W2 ⟨rfl, hk2⟩; have HK2 := Lib.hid (HK1.out.trans hk2); clear hk2))
    go_ret
    exact ⟨rfl, HK2.out⟩
  by_cases hm0 : 0 ≤ more
  case neg =>
    have hm0I : more < 0 := by omega
    clear hli
    go_enter Tryz.func4, Tryz.ntmps4
    go_wp2_with (first
      | (go_at_call 11; refine (HSN.out _).mono ?_; rintro e W1 ⟨rfl, hk1⟩; obtain ⟨b0, b1, b2⟩ := HBX.out W1 hk1; have HK1 := Lib.hid (HK0.out.trans hk1); clear hk1)
      | (go_at_call 32; refine (HLT.out _ HK1.out).mono ?_; rintro e W2 ⟨rfl, hk2⟩; have HK2 := Lib.hid (HK1.out.trans hk2); clear hk2))
    go_ret
    exact ⟨rfl, HK2.out⟩
  by_cases hm100 : more ≤ 100
  case neg =>
    have hm0I : 100 < more := by omega
    clear hli
    go_enter Tryz.func4, Tryz.ntmps4
    go_wp2_with (first
      | (go_at_call 11; refine (HSN.out _).mono ?_; rintro e W1 ⟨rfl, hk1⟩; obtain ⟨b0, b1, b2⟩ := HBX.out W1 hk1; have HK1 := Lib.hid (HK0.out.trans hk1); clear hk1)
      | (go_at_call 32; refine (HLT.out _ HK1.out).mono ?_; rintro e W2 ⟨rfl, hk2⟩; have HK2 := Lib.hid (HK1.out.trans hk2); clear hk2))
    go_ret
    exact ⟨rfl, HK2.out⟩
  obtain ⟨g1, g2, g3, g4, g5, g6⟩ := littleP_spec hli
  obtain ⟨hn, rfl⟩ : ∃ n : Nat, h = (n : Int) := ⟨h.toNat, by omega⟩
  obtain ⟨mn, rfl⟩ : ∃ n : Nat, more = (n : Int) := ⟨more.toNat, by omega⟩
  have HG6 := Lib.hid g6
  clear hli g6
  have HPK := Lib.hid (fun W (k : Keeps None' w W) => pick_any W (hn : Int) p _ _ L zs (HV.out.keep k) (HZ.out.keep k) (by omega))
  have hgl : (pickE L zs).length ≤ 24 := Nat.le_trans (pickE_len _ _) hz24
  have hgb : ∀ e ∈ pickE L zs, e.body.length ≤ 200 := fun e he => HG6.out e (pickE_mem he)
  generalize pickE L zs = G at *
  have hel := new_len G hn
  have heb : ∀ e ∈ joinH (newB G (fun _ => [])) hn, e.body.length ≤ 200 := fun e he => by
    rcases join_new_mem (fun _ _ => by simp) he with h1 | h1
    · obtain ⟨_, _, _, _, h2, _⟩ := joinH_mem.1 h1
      simp at h2
    · exact hgb e h1
  have HEB := Lib.hid heb
  clear hgb heb
  have hqs : ∀ (W : World) (d : Nat), (binOp .eql 50 (.pointer (some ⟨d, 0, none⟩)) (.pointer none)).run Tryz.prog W = .ok (.bool false) W := fun W d => by kernel_rfl
  go_enter Tryz.func4, Tryz.ntmps4
  go_upto_region 6 with (first
    | (go_at_call 11; refine (HSN.out _).mono ?_; rintro e W1 ⟨rfl, hk1⟩; obtain ⟨b0, b1, b2⟩ := HBX.out W1 hk1; have HK1 := Lib.hid (HK0.out.trans hk1); have HKX1 := Lib.hid hk1; clear hk1)
    | (go_at_call 32; refine (HLT.out _ HK1.out).mono ?_; rintro e W2 ⟨rfl, hk2⟩; have HK2 := Lib.hid (HK1.out.trans hk2); have HKX2 := Lib.hid (HKX1.out.trans hk2); clear b0 b1 b2; obtain ⟨b0, b1, b2⟩ := HBX.out W2 HKX2.out; clear hk2)
    | (go_at_call 33; refine (HPK.out _ HK2.out).mono ?_; rintro e W3 ⟨vg, rfl, hg, hk3⟩; have HG := Lib.hid hg; have HK3 := Lib.hid (HK2.out.trans hk3); have HKX3 := Lib.hid (HKX2.out.trans hk3); clear b0 b1 b2 hk3 hg))
  clear HSN HLT HPK HKX1 HKX2 HV HZ
  obtain ⟨b0, b1, b2⟩ := HBX.out W3 HKX3.out
  obtain ⟨gva, gvcap, rfl⟩ := (EntSl.of_own HG.out).shape
  have HAFT := Lib.hid (after_any W3 hn p va L.length vcap _ G (by omega) (by omega) (by omega) (EntSl.of_own HG.out))
  go_upto_region 9 with (first | (go_at_call 34; refine HAFT.out.mono ?_; rintro e W4 ⟨s1, d1, fp1, D1, S1, F1, rfl, hA1, hk4⟩; have HA1 := Lib.hid hA1; have HK4 := Lib.hid (HK3.out.trans hk4); have HKX4 := Lib.hid (HKX3.out.trans hk4); have HG4 := Lib.hid (own_keep HG.out hk4 (fun _ _ h => h)); clear b0 b1 b2 hk4 hA1))
  clear HAFT HG
  have hA1 := HA1.out
  have hh1 : S1.houses = hn := hA1.houses
  have he1 : entsOf S1 = joinH (newB G (fun _ => [])) hn := by rw [hA1.byH.ents, hh1]
  obtain ⟨cb1, hcb1⟩ := hA1.live.cell0
  have HCB1 := Lib.hid hcb1
  have HALL1 := Lib.hid (fun W (k : Keeps None' W4 W) => all_sl cb1 S1 W (hcb1 W k).2)
  have hfr1 := hA1.inv.free_first (fun T hT => by rw [hA1.former T hT]; exact firstSt_uses hn)
  rw [hA1.len, he1] at hfr1
  rw [he1] at HALL1
  have hpe : pagesOfE (joinH (newB G (fun _ => [])) hn) = pagesE (joinH (newB G (fun _ => [])) hn) := rfl
  rw [hpe] at hfr1
  have hsum := sum_pieces _ HEB.out
  have hpl : pagesE (joinH (newB G (fun _ => [])) hn) = ((joinH (newB G (fun _ => [])) hn).length + 25) / 26 + ((joinH (newB G (fun _ => [])) hn).map npieces).sum := rfl
  have HE1 := Lib.hid he1
  have HPG := Lib.hid (fun W v (k : EntSl W v (joinH (newB G (fun _ => [])) hn)) => pagesE_any W v _ k (by omega) (fun e he => by have := HEB.out e he; omega))
  have HFR1 := Lib.hid (fun W (k : Keeps None' W4 W) => free_live (hA1.live.keep k) (by rw [hA1.len]; omega) _ rfl)
  generalize joinH (newB G (fun _ => [])) hn = E at *
  generalize hP : pagesE E = P at *
  have HPQ := Lib.hid (show pagesOfE E = P from hP)
  generalize hfq : (freeOf D1 S1 F1).length = fr1 at *
  have HFQ := Lib.hid hfq
  clear hfq
  have hPb : P ≤ 200 := by omega
  have hPI : (P : Int) ≤ 200 := by omega
  have hEP : E.length = 0 ↔ P = 0 := by omega
  have HPL := Lib.hid hpl
  clear hcb1 he1 hA1 hpl hP hpe hsum
  obtain ⟨x1, -⟩ := HCB1.out W4 (Keeps.refl _ _)
  by_cases hE0 : E.length = 0
  case pos =>
    have hEz : ((E.length : Int) == 0) = true := by simp [hE0]
    have hfz : ((fr1 : Int) == 1022) = true := by
      have : P = 0 := hEP.1 hE0
      simp; omega
    clear hE0
    go_wp2_with (first
      | (go_at_call 36; first
        | ((with_reducible refine (HALL1.out _ HKA5.out).mono ?_); rintro e W6 ⟨a6, c6, rfl, -, hE6, hk6⟩; have HKA6 := Lib.hid (HKA5.out.trans hk6); clear hk6 hE6)
        | ((with_reducible refine (HALL1.out _ (Keeps.refl _ _)).mono ?_); rintro e W5 ⟨a5, c5, rfl, -, hE5, hk5⟩; have HE5 := Lib.hid hE5; have HKA4 := Lib.hid hk5; clear hk5 hE5))
      | (go_at_call 35; refine (HPG.out _ _ HE5.out).mono ?_; rintro e W5b ⟨rfl, hk5⟩; have HKA5 := Lib.hid (HKA4.out.trans hk5); clear x1; obtain ⟨x1, -⟩ := HCB1.out _ HKA5.out; clear hk5)
      | (go_at_call 37; refine (HFR1.out _ HKA6.out).mono ?_; rintro e W7 ⟨rfl, hk7⟩; have HKA7 := Lib.hid (HKA6.out.trans hk7); clear hk7))
    go_ret
    exact ⟨rfl, HK4.out.trans HKA7.out⟩
  have hEz : ((E.length : Int) == 0) = false := by simpa using hE0
  have HE0 := Lib.hid hE0
  clear hE0
  go_upto_region 12 with (first
    | (go_at_call 36; first
      | ((with_reducible refine (HALL1.out _ HKA5.out).mono ?_); rintro e W6 ⟨a6, c6, rfl, -, hE6, hk6⟩; have HKA6 := Lib.hid (HKA5.out.trans hk6); clear hk6 hE6)
      | ((with_reducible refine (HALL1.out _ (Keeps.refl _ _)).mono ?_); rintro e W5 ⟨a5, c5, rfl, -, hE5, hk5⟩; have HE5 := Lib.hid hE5; have HKA4 := Lib.hid hk5; clear hk5 hE5))
    | (go_at_call 35; refine (HPG.out _ _ HE5.out).mono ?_; rintro e W5b ⟨rfl, hk5⟩; have HKA5 := Lib.hid (HKA4.out.trans hk5); clear x1; obtain ⟨x1, -⟩ := HCB1.out _ HKA5.out; clear hk5))
  obtain ⟨b0, b1, b2⟩ := HBX.out _ (HKX4.out.trans HKA6.out)
  have e1 : ((P + 2 + mn : Nat) : Int) = (P : Int) + 2 + (mn : Int) := by omega
  have e2 : ((P + 1 : Nat) : Int) = (P : Int) + 1 := by omega
  have hP2 : 2 ≤ P := by
    have h1 := HPL.out
    have h2 : E.length ≠ 0 := HE0.out
    have h3 := (sum_pieces _ HEB.out).1
    omega
  have hmd1 := fun W => made_any W hn (P + 2 + mn) p va L.length vcap (by omega) (by omega) (by omega) (by omega)
  have hmd2 := fun W => made_any W hn (P + 1) p va L.length vcap (by omega) (by omega) (by omega) (by omega)
  rw [e1] at hmd1
  rw [e2] at hmd2
  have HMD1 := Lib.hid hmd1
  have HMD2 := Lib.hid hmd2
  clear hmd1 hmd2 e1 e2
  go_upto_region 13 with (first
    | (go_at_call 38; refine (HMD1.out _).mono ?_; rintro e W7 ⟨d2, s2, fp2, D2, rfl, hl2, hi2, ha2, hf2, hn2, hk7⟩; have HL2 := Lib.hid hl2; have HI2 := Lib.hid hi2; have HD2 := Lib.hid (⟨ha2, hf2, hn2⟩ : D2.armed = 0 ∧ D2.falls = 0 ∧ D2.now.length = P + 2 + mn); have HKA7 := Lib.hid (HKA6.out.trans hk7); have HK67 := Lib.hid hk7; clear hl2 hi2 ha2 hf2 hn2 hk7 x1 b0 b1 b2))
  obtain ⟨b0, b1, b2⟩ := HBX.out _ (HKX4.out.trans HKA7.out)
  go_upto_region 16 with (first
    | (go_at_call 38; refine (HMD2.out _).mono ?_; rintro e W8 ⟨d3, s3, fp3, D3, rfl, hl3, hi3, ha3, hf3, hn3, hk8⟩; have HL3 := Lib.hid hl3; have HI3 := Lib.hid hi3; have HD3 := Lib.hid (⟨ha3, hf3, hn3⟩ : D3.armed = 0 ∧ D3.falls = 0 ∧ D3.now.length = P + 1); have HKA8 := Lib.hid (HKA7.out.trans hk8); have HK78 := Lib.hid hk8; clear hl3 hi3 ha3 hf3 hn3 hk8 b0 b1 b2))
  have hw6 : W4.heap.size ≤ W6.heap.size := HKA6.out.size
  have hl1 := (HA1.out.live.keep HKA6.out)
  have ap12 := apart_later hl1 HL2.out (Nat.le_refl _)
  have hl1b := hl1.keep HK67.out
  have ap13 := apart_later hl1b HL3.out (Nat.le_refl _)
  have ap23 := apart_later HL2.out HL3.out (Nat.le_refl _)
  have hl1c := hl1b.keep HK78.out
  have hl2c := HL2.out.keep HK78.out
  have hg8 := own_keep HG4.out HKA8.out (fun _ _ h => h)
  have hE : joinH (newB G (fun _ => [])) hn = E := by rw [← HE1.out, HA1.out.byH.ents, hh1]
  have hne : ¬ ∀ k, k < (firstSt hn).houses → newB G (fun _ => []) k = (fun _ => []) k := fun hc => by
    have : joinH (newB G (fun _ => [])) hn = joinH (fun _ => []) hn := joinH_congr hc
    have h2 : entsOf (firstSt hn) = joinH (fun _ => []) hn := (firstSt_byH hn).ents
    rw [hE, ← h2] at this
    exact HE0.out (by rw [this]; rfl)
  have hneed : needOf (tkL G (firstSt hn)) = P := by rw [need_first, hE]; exact HPQ.out
  have hpz : pagesOfE (entsOf (firstSt hn)) = 0 := by simp [pagesOfE, entsOf, firstSt]
  have hfree2 := HI2.out.free_first (fun T hT => by cases hT)
  have hfree3 := HI3.out.free_first (fun T hT => by cases hT)
  rw [hpz, HD2.out.2.2] at hfree2
  rw [hpz, HD3.out.2.2] at hfree3
  obtain ⟨n2, D2', S2', F2', ht2⟩ := HI2.out.take_room (firstSt_byH hn) HD2.out.1 (by simp [firstSt]) G (by rw [hneed]; omega)
  have hn2p : 0 < n2 := by
    rcases Nat.eq_zero_or_pos n2 with h0 | h0
    · exact absurd (ht2.zero.1 h0) hne
    · exact h0
  have ht3 : takeP D3 (firstSt hn) none D3.falls G = (0, 92, D3, firstSt hn, none) := by
    rcases HI3.out.take (firstSt_byH hn) HD3.out.1 (by simp [firstSt]) G with ⟨h1, _⟩ | ⟨_, _, h2⟩ | ⟨_, h1, _⟩
    · exact absurd h1 hne
    · exact h2
    · rw [hneed] at h1; omega
  have hfl2 := HD2.out.2.1
  have hfl3 := HD3.out.2.1
  have hl2d : Live W6.heap.size W8 s2 d2 fp2 D2 (firstSt hn) none D2.falls := by rw [hfl2]; exact hl2c
  have hc2 := tookLive hl2d HI2.out (firstSt_byH hn) _ G (by omega) (EntSl.of_own hg8) ht2
  rw [hfl2] at hc2
  have HC2 := Lib.hid hc2
  have HL1 := Lib.hid hl1c
  have HL2c := Lib.hid hl2c
  have HAP := Lib.hid (And.intro ap12 (And.intro ap13 ap23))
  have HG8 := Lib.hid hg8
  have HT2 := Lib.hid ht2
  have HT3 := Lib.hid ht3
  have HE2 := Lib.hid hE
  have hn2I : (0 : Int) < (n2 : Int) := by omega
  have HFL := Lib.hid (And.intro hfl2 hfl3)
  clear hl1 ap12 hl1b ap13 ap23 hl1c hl2c hg8 hE hne hpz hneed ht2 ht3 hl2d hc2 hfree2 hfree3 hfl2 hfl3 hn2p
  go_upto_region 17 with (first
    | (go_at_call 39; refine HC2.out.mono ?_; rintro e W9 ⟨rfl, fp2', hs2⟩; have HS2 := Lib.hid hs2; clear hs2))
  obtain ⟨ap12, ap13, ap23⟩ := HAP.out
  have hl2e := HL2c.out.step (Nat.le_trans HK67.out.size HK78.out.size) HS2.out
  obtain ⟨hl1e, ap21⟩ := HL2c.out.other HL1.out ap12.symm HS2.out
  obtain ⟨hl3e, ap23e⟩ := HL2c.out.other HL3.out ap23 HS2.out
  have hg9 := own_keep HG8.out HS2.out.keeps (HL2c.out.row HG8.out)
  have hc3 := take_live hl3e HI3.out (firstSt_byH hn) _ G (by omega) (EntSl.of_own hg9)
  have ht3 := HT3.out
  rw [HFL.out.2] at ht3
  rw [ht3] at hc3
  have HC3 := Lib.hid (show Calls Tryz.prog 39 #[.pointer (some ⟨s3, 0, none⟩), .slice gva G.length gvcap] W9 fun e w' => e = .returned (.tuple #[.int .i64 0, .int .i64 92]) ∧ ∃ fp', SStep W9 s3 d3 fp3 w' D3 (firstSt hn) none 0 fp' from hc3)
  have HX := Lib.hid (And.intro hl1e (And.intro ap21 (And.intro hl2e (And.intro hl3e ap23e))))
  clear hl2e hl1e ap21 hl3e ap23e hg9 hc3 ht3 ap12 ap13 ap23
  go_upto_region 18 with (first
    | (go_at_call 39; refine HC3.out.mono ?_; rintro e W10 ⟨rfl, fp3', hs3⟩; have HS3 := Lib.hid hs3; clear hs3))
  obtain ⟨hl1e, ap21, hl2e, hl3e, ap23e⟩ := HX.out
  obtain ⟨hl1f, _⟩ := hl3e.other hl1e (fun k a b => by
    have h1 : Apart fp3 s3 fp1 s1 := by
      obtain ⟨ap12, ap13, ap23⟩ := HAP.out
      exact ap13.symm
    exact h1 k a b) HS3.out
  obtain ⟨hl2f, _⟩ := hl3e.other hl2e ap23e.symm HS3.out
  have hl3f := hl3e.step (Nat.le_trans HK78.out.size HS2.out.keeps.size) HS3.out
  have t2 := HT2.out
  have he2 : entsOf S2' = E := by rw [t2.byH.ents, t2.houses]; exact HE2.out
  have hF2 : ∀ T, F2' = some T → usesOf T = [] := fun T hT => by
    rcases t2.ends with ⟨_, _, _, e⟩ | ⟨_, e, _⟩
    · rw [e] at hT; cases hT
    · rw [e] at hT; rw [← Option.some.inj hT]; exact firstSt_uses hn
  have hfa := t2.inv.free_first hF2
  rw [he2, HPQ.out, t2.len, HD2.out.2.2] at hfa
  have hfb := HI3.out.free_first (fun T hT => by cases hT)
  rw [show pagesOfE (entsOf (firstSt hn)) = 0 by simp [pagesOfE, entsOf, firstSt], HD3.out.2.2] at hfb
  have HFREE1 := Lib.hid (fun W (k : Keeps None' W10 W) => show Calls Tryz.prog 37 #[.pointer (some ⟨s1, 0, none⟩)] W fun e w' => e = .returned (.int .i64 (1022 - (P : Int))) ∧ Keeps None' W w' by
    have := free_live (hl1f.keep k) (by rw [HA1.out.len]; omega) _ rfl
    have e : ((freeOf D1 S1 F1).length : Int) = 1022 - (P : Int) := by rw [HFQ.out]; omega
    rw [e] at this
    exact this)
  have HFREE2 := Lib.hid (fun W (k : Keeps None' W10 W) => free_live (hl2f.keep k) (by rw [t2.len, HD2.out.2.2]; omega) mn (by omega))
  have HFREE3 := Lib.hid (fun W (k : Keeps None' W10 W) => show Calls Tryz.prog 37 #[.pointer (some ⟨s3, 0, none⟩)] W fun e w' => e = .returned (.int .i64 ((P : Int) - 1)) ∧ Keeps None' W w' by
    have := free_live (hl3f.keep k) (by rw [HD3.out.2.2]; omega) _ rfl
    have e : ((freeOf D3 (firstSt hn) none).length : Int) = (P : Int) - 1 := by omega
    rw [e] at this
    exact this)
  have HSAME := Lib.hid (fun W (k : Keeps None' W10 W) => same_live (hl2f.keep k) (hl1f.keep k) t2.byH HA1.out.byH (by rw [t2.houses]; exact (firstSt_legal 2 hn (by omega) (by omega) (by omega) (by omega)).ok.houses) (by rw [he2, HE1.out]) (by rw [t2.houses, hh1]; rfl))
  obtain ⟨cb3, hcb3⟩ := hl3f.cell0
  have HCB3 := Lib.hid hcb3
  have HALL3 := Lib.hid (fun W (k : Keeps None' W10 W) => show Calls Tryz.prog 36 #[.pointer (some ⟨cb3, 0, none⟩)] W fun e w' => ∃ a c, e = .returned (.slice a 0 c) ∧ Keeps None' W w' from (all_sl cb3 (firstSt hn) W (hcb3 W k).2).mono fun e w' ⟨a, c, h1, _, _, h2⟩ => ⟨a, c, h1, h2⟩)
  have HKF := Lib.hid (show Keeps None' w W10 by
    have h0 := HK4.out.trans HKA8.out
    have h1 := h0.trans' HS2.out.keeps (fun i hi hf => by
      have := HL2c.out.ge hf; have := HK4.out.size; have := HKA6.out.size; omega)
    exact h1.trans' HS3.out.keeps (fun i hi hf => by
      have := hl3e.ge hf; have := HK4.out.size; have := HKA7.out.size; omega))
  clear hl1e ap21 hl2e hl3e ap23e hl1f hl2f hl3f t2 he2 hF2 hfa hfb hcb3
  have y3 := (HCB3.out W10 (Keeps.refl _ _)).1
  have hw10 : s3 < W10.heap.size := block_lt_of_cell y3
  go_wp2_with (first
    | (go_at_call 37; first
      | ((with_reducible refine (HFREE1.out _ (Keeps.refl _ _)).mono ?_); rintro e W11 ⟨rfl, hk11⟩; have HKB1 := Lib.hid hk11; clear hk11)
      | ((with_reducible refine (HFREE2.out _ HKB2.out).mono ?_); rintro e W13 ⟨rfl, hk13⟩; have HKB3 := Lib.hid (HKB2.out.trans hk13); clear y3; have y3 := (HCB3.out W13 HKB3.out).1; clear hk13)
      | ((with_reducible refine (HFREE3.out _ HKB4.out).mono ?_); rintro e W15 ⟨rfl, hk15⟩; have HKB5 := Lib.hid (HKB4.out.trans hk15); clear hk15))
    | (go_at_call 40; refine (HSAME.out _ HKB1.out).mono ?_; rintro e W12 ⟨rfl, hk12⟩; have HKB2 := Lib.hid (HKB1.out.trans hk12); clear hk12)
    | (go_at_call 36; refine (HALL3.out _ HKB3.out).mono ?_; rintro e W14 ⟨a14, c14, rfl, hk14⟩; have HKB4 := Lib.hid (HKB3.out.trans hk14); clear hk14))
  go_ret
  exact ⟨rfl, HKF.out.trans HKB5.out⟩
end Go.Proofs.YtlbaagjbehdmgaaGreat

namespace Go.Proofs.YtlbaagjbehdmgaaGreat
open Go.RowKit

/-- a store on a great disk, whose entries are of the list L -/
structure Pool (base : Nat) (w : World) (h : Nat) (L : List Ent) (s d : Nat) (fp : Nat → Prop) (D : Dsk) (S : St) (F : Option St) (B : Nat → List (List UInt8)) (g : Nat) : Prop where
  live : Live base w s d fp D S F 0
  inv : Inv D S F
  armed : D.armed = 0
  falls : D.falls = 0
  len : D.now.length = 1024
  houses : S.houses = h
  byH : ByH S B
  few : ∀ e ∈ entsOf S, e ∈ L
  former : ∀ T, F = some T → T.entries.length ≤ L.length
  gen : S.gen ≤ g
theorem AftAt.pool {base : Nat} {w : World} {h : Nat} {G L : List Ent} {s d : Nat} {fp : Nat → Prop} {D : Dsk} {S : St} {F : Option St} (A : AftAt base w h G s d fp D S F) (hG : ∀ e ∈ G, e ∈ L) : Pool base w h L s d fp D S F (newB G (fun _ => [])) 2 := by
  refine ⟨A.live, A.inv, A.armed, A.falls, A.len, A.houses, A.byH, fun e he => ?_, fun T hT => ?_, A.gen⟩
  · rw [A.byH.ents] at he
    rcases join_new_mem (fun _ _ => by simp) he with h1 | h1
    · obtain ⟨_, _, _, _, h2, _⟩ := joinH_mem.1 h1
      simp at h2
    · exact hG e h1
  · rw [A.former T hT]; simp [firstSt]
theorem Pool.few_len {base : Nat} {w : World} {h : Nat} {L : List Ent} {s d : Nat} {fp : Nat → Prop} {D : Dsk} {S : St} {F : Option St} {B : Nat → List (List UInt8)} {g : Nat} (P : Pool base w h L s d fp D S F B g) : S.entries.length ≤ L.length := by
  rw [← entries_len, P.byH.ents]
  refine join_sub_len fun e he => P.few e ?_
  rw [P.byH.ents]; exact he
theorem Pool.at' {base : Nat} {w w' : World} {h : Nat} {L : List Ent} {s d : Nat} {fp fp' : Nat → Prop} {D : Dsk} {S : St} {F : Option St} {B : Nat → List (List UInt8)} {g : Nat} (P : Pool base w h L s d fp D S F B g) {base' : Nat} (l : Live base' w' s d fp' D S F 0) : Pool base' w' h L s d fp' D S F B g :=
  ⟨l, P.inv, P.armed, P.falls, P.len, P.houses, P.byH, P.few, P.former, P.gen⟩
/-- Take, of entries of the list -/
theorem Pool.take {base : Nat} {w : World} {h : Nat} {L : List Ent} {s d : Nat} {fp : Nat → Prop} {D : Dsk} {S : St} {F : Option St} {B : Nat → List (List UInt8)} {g : Nat} (P : Pool base w h L s d fp D S F B g) (hL : L.length ≤ 48) (hg : g ≤ 100000) (hb : base ≤ w.heap.size) (G : List Ent) (hG : ∀ e ∈ G, e ∈ L) (hGl : G.length ≤ 100000) :
    ∃ (n : Nat) (D' : Dsk) (S' : St) (F' : Option St), ∀ v, EntSl w v G → Calls Tryz.prog 39 #[.pointer (some ⟨s, 0, none⟩), v] w fun e w' => e = .returned (.tuple #[.int .i64 (n : Int), .int .i64 0]) ∧ ∃ fp', SStep w s d fp w' D' S' F' 0 fp' ∧ Pool base w' h L s d fp' D' S' F' (newB G B) (g + 1) := by
  have hlen : (joinH (newB G B) S.houses).length ≤ 48 := by
    refine Nat.le_trans (join_sub_len (M := L) fun e he => ?_) hL
    rcases join_new_mem P.byH.len he with h1 | h1
    · exact P.few e (by rw [P.byH.ents]; exact h1)
    · exact hG e h1
  have hS := P.few_len
  obtain ⟨n, D', S', F', t⟩ := P.inv.take_big P.byH P.armed (by have := P.gen; omega) G P.len (by omega) (fun T hT => by have := P.former T hT; omega) hlen
  refine ⟨n, D', S', F', fun v hv => ?_⟩
  have hl := P.live
  rw [← P.falls] at hl
  refine (tookLive hl P.inv P.byH v G hGl hv t).mono ?_
  rintro e w' ⟨rfl, fp', st⟩
  rw [P.falls] at st
  refine ⟨rfl, fp', st, ⟨P.live.step hb st, t.inv, by rw [t.armed]; exact P.armed, by rw [t.falls]; exact P.falls, by rw [t.len]; exact P.len, by rw [t.houses]; exact P.houses, t.byH, fun e he => ?_, fun T hT => ?_, by have := t.gen; have := P.gen; omega⟩⟩
  · rw [t.byH.ents, t.houses] at he
    rcases join_new_mem P.byH.len he with h1 | h1
    · exact P.few e (by rw [P.byH.ents]; exact h1)
    · exact hG e h1
  · rcases t.ends with ⟨_, _, _, e⟩ | ⟨_, e, _⟩
    · rw [e] at hT; exact P.former T hT
    · rw [e] at hT; rw [← Option.some.inj hT]; exact hS
theorem elem_ent : Tryz.prog.elem 44 = 64 := by kernel_rfl
theorem elem_int : Tryz.prog.elem 47 = 3 := by kernel_rfl
theorem und_ent : Tryz.prog.underlying 44 = some (.slice (Tryz.prog.elem 44)) := by rw [elem_ent]; exact Tryz.underlying44
theorem und_int : Tryz.prog.underlying 47 = some (.slice (Tryz.prog.elem 47)) := by rw [elem_int]; exact Tryz.underlying47
theorem cells_ent : (sizeOf (Tryz.prog.elem 44)).run Tryz.prog = fun w => .ok 3 w := by funext w; kernel_rfl
theorem cells_int : (sizeOf (Tryz.prog.elem 47)).run Tryz.prog = fun w => .ok 1 w := by funext w; kernel_rfl
/-- x[:n:n] -/
theorem slice_top (W : World) (a : Option Addr) (c n : Nat) (L : List Ent) (h : EntSl W (.slice a L.length c) L) (hn : n ≤ L.length) :
    (∀ w, (Instr.slice 44 (.slice a L.length c) none (some (.int .i64 (n : Int))) (some (.int .i64 (n : Int)))).run Tryz.prog w = .ok (.slice a n n) w) ∧ EntSl W (.slice a n n) (L.take n) := by
  have hl : (L.take n).length = n := by rw [List.length_take]; omega
  by_cases h0 : L.length = 0
  · have hn0 : n = 0 := by omega
    subst hn0
    refine ⟨fun w => ?_, .inl ⟨a, 0, rfl, by simp⟩⟩
    rw [show ((0 : Nat) : Int) = 0 from rfl, run_slice_hm (P := Tryz.prog) w 44 a L.length c und_ent .i64 .i64 0 0 (by omega) (by omega) (by omega), cells_ent]
    rfl
  · rcases h with ⟨_, _, _, e⟩ | ⟨b, o, c', e, hb, hc, hr⟩
    · rw [e] at h0; exact absurd rfl h0
    · injection e with e1 e2 e3
      subst e1 e3
      refine ⟨fun w => ?_, ?_⟩
      · rw [run_slice_hm (P := Tryz.prog) w 44 _ L.length c und_ent .i64 .i64 n n (by omega) (by omega) (by omega), cells_ent]
        simp [Result.andThen, sliced, Addr.add]
      · refine .inr ⟨b, o, n, by rw [hl], hb, by rw [hl]; exact Nat.le_refl _, ?_⟩
        intro k v hk
        refine hr k v ?_
        have : entCells L = entCells (L.take n) ++ entCells (L.drop n) := by rw [← entCells_append, List.take_append_drop]
        rw [this, List.getElem?_append_left (List.getElem?_eq_some_iff.1 hk).1]
        exact hk
/-- l[i:i+1:i+1] -/
theorem slice_one (W : World) (a : Option Addr) (c i : Nat) (zs : List Int) (h : IntSl W (.slice a zs.length c) zs) (hi : i < zs.length) :
    ∃ b o, a = some ⟨b, o, none⟩ ∧ (∀ w, (Instr.slice 47 (.slice a zs.length c) (some (.int .i64 (i : Int))) (some (.int .i64 ((i : Int) + 1))) (some (.int .i64 ((i : Int) + 1)))).run Tryz.prog w = .ok (.slice (some ⟨b, o + i, none⟩) 1 1) w) ∧ IntSl W (.slice (some ⟨b, o + i, none⟩) 1 1) [zs[i]] := by
  rcases h with ⟨_, _, _, e⟩ | ⟨b, o, c', e, hb, hc, hr⟩
  · rw [e] at hi; simp at hi
  · injection e with e1 e2 e3
    subst e1 e3
    refine ⟨b, o, rfl, fun w => ?_, .inr ⟨b, o + i, 1, rfl, hb, Nat.le_refl _, ?_⟩⟩
    · rw [run_slice_lhm (P := Tryz.prog) w 47 _ zs.length c und_int .i64 .i64 .i64 i (i + 1) (i + 1) (by omega) (by omega) (by omega) (by omega), cells_int]
      have e1 : ((i : Int) + 1).toNat = i + 1 := by omega
      simp [Result.andThen, sliced, Addr.add, e1]
    · intro k v hk
      have hk' := (List.getElem?_eq_some_iff.1 hk).1
      simp only [List.map_cons, List.map_nil, List.length_cons, List.length_nil] at hk'
      obtain rfl : k = 0 := by omega
      simp only [List.map_cons, List.map_nil, List.getElem?_cons_zero, Option.some.injEq] at hk
      rw [Nat.add_zero, ← hk]
      exact hr i _ (by simp [hi])
/-- what begins answers -/
def beginsAll (S S2 : St) (H : Nat) : Bool := (List.range H).all fun k => beginsP S S2 k
theorem beginsAll_yes {S S2 : St} {H : Nat} (h : ∀ j, j < H → beginsP S S2 j = true) : beginsAll S S2 H = true := by
  unfold beginsAll
  rw [List.all_eq_true]
  exact fun x hx => h x (List.mem_range.1 hx)
theorem beginsAll_no {S S2 : St} {H k : Nat} (hk : k < H) (h : beginsP S S2 k = false) : beginsAll S S2 H = false := by
  unfold beginsAll
  rw [List.all_eq_false]
  exact ⟨k, List.mem_range.2 hk, by rw [h]; simp⟩
theorem beginsAll_at {S S2 : St} {H k : Nat} (h : beginsAll S S2 H = true) (hk : k < H) : beginsP S S2 k = true := by
  unfold beginsAll at h
  rw [List.all_eq_true] at h
  exact h k (List.mem_range.2 hk)
theorem ents_sl (b : Nat) (S : St) (w : World) (k : Nat) (hk : k < S.houses) (h : IsState w b S) :
    Calls Tryz.prog 84 #[.pointer (some ⟨b, 0, none⟩), .int .i64 (k : Int)] w fun e w' => ∃ a c, e = .returned (.tuple #[.slice a (fromOf S k 0).length c, .int .i64 0]) ∧ EntSl w' (.slice a (fromOf S k 0).length c) (fromOf S k 0) ∧ Keeps None' w w' := by
  have := entsH_any b S w k h
  rw [show entsP S (k : Int) = (0, fromOf S k 0) by unfold entsP; rw [if_neg (by omega)]] at this
  refine this.mono ?_
  rintro e w' ⟨v, rfl, ho, hk⟩
  have hs := EntSl.of_own ho
  obtain ⟨a, c, rfl⟩ := hs.shape
  exact ⟨a, c, rfl, hs, hk⟩
set_option maxRecDepth 100000 in
set_option maxHeartbeats 2000000 in
theorem begins_any (w : World) (s1 s2 b1 b2 : Nat) (S1 S2 : St) (H : Nat) (h1 : w.cell? ⟨s1, 0, none⟩ = some (.pointer (some ⟨b1, 0, none⟩))) (h2 : w.cell? ⟨s2, 0, none⟩ = some (.pointer (some ⟨b2, 0, none⟩))) (hS1 : IsState w b1 S1) (hS2 : IsState w b2 S2) (hh1 : S1.houses = H) (hh2 : S2.houses = H) (h8 : H ≤ 8) (hf1 : S1.entries.length ≤ 1024) (hf2 : S2.entries.length ≤ 1024) :
    Calls Tryz.prog 50 #[.pointer (some ⟨s1, 0, none⟩), .pointer (some ⟨s2, 0, none⟩), .int .i64 (H : Int)] w fun e w' => e = .returned (.bool (beginsAll S1 S2 H)) ∧ Keeps None' w w' := by
  have HE1 := Lib.hid (fun (W : World) (k : Keeps None' w W) (j : Nat) (hj : j < H) => ents_sl b1 S1 W j (by omega) (hS1.keep k (spares_none _)))
  have HE2 := Lib.hid (fun (W : World) (k : Keeps None' w W) (j : Nat) (hj : j < H) => ents_sl b2 S2 W j (by omega) (hS2.keep k (spares_none _)))
  have HC1 := Lib.hid (fun (W : World) (k : Keeps None' w W) => (k.cell (p := ⟨s1, 0, none⟩) (block_lt_of_cell h1) (fun h => h)).trans h1)
  have HC2 := Lib.hid (fun (W : World) (k : Keeps None' w W) => (k.cell (p := ⟨s2, 0, none⟩) (block_lt_of_cell h2) (fun h => h)).trans h2)
  have hle : ∀ (S : St) (j : Nat), S.entries.length ≤ 1024 → (fromOf S j 0).length ≤ 1024 := fun S j hS => Nat.le_trans (List.length_filter_le _ _) (by rw [entries_len]; exact hS)
  have HLE := Lib.hid (fun j => And.intro (hle S1 j hf1) (hle S2 j hf2))
  have HK := Lib.hid (Keeps.refl None' w)
  clear hS1 hS2 hh1 hh2 h1 h2 hle hf1 hf2
  go_enter Tryz.func50, Tryz.ntmps50
  go_wp2_with fail
  go_loopw [14] (fun i wr => ∃ k : Nat, k ≤ H ∧ i = .int .i64 k ∧ (∀ j, j < k → beginsP S1 S2 j = true) ∧ Keeps None' w wr) (fun i _ => H - (intOf i).toNat)
  case atStart => exact ⟨0, Nat.zero_le _, rfl, fun j hj => by omega, HK.out⟩
  case round =>
    obtain ⟨k, hk, rfl, hall, hkw⟩ := hrel
    have HALL := Lib.hid hall
    have HKW := Lib.hid hkw
    clear hall hkw
    by_cases hlt : k < H
    · have y1 := HC1.out wr HKW.out
      have HEa := Lib.hid (HE1.out wr HKW.out k hlt)
      have HEb := Lib.hid (fun W h => HE2.out W h k hlt)
      obtain ⟨l1, l2⟩ := HLE.out k
      obtain ⟨bp, hbp⟩ : ∃ bp, bp = beginsP S1 S2 k := ⟨_, rfl⟩
      have HBQ := Lib.hid hbp
      unfold beginsP at hbp
      have HBP := Lib.hid hbp
      clear hbp
      generalize fromOf S1 k 0 = X at *
      generalize fromOf S2 k 0 = Y at *
      go_upto_region 5 with (first
        | (go_at_call 84; refine HEa.out.mono ?_; rintro e W1 ⟨a1, c1, rfl, hE1, hk1⟩; have HX1 := Lib.hid hE1; have HK1 := Lib.hid (HKW.out.trans hk1); clear hE1 hk1))
      have y2 := HC2.out W1 HK1.out
      go_upto_region 6 with (first
        | (go_at_call 84; refine (HEb.out _ HK1.out).mono ?_; rintro e W2 ⟨a2, c2, rfl, hE2, hk2⟩; have HX2 := Lib.hid hE2; have HX1 := Lib.hid (HX1.out.keep hk2); have HK2 := Lib.hid (HK1.out.trans hk2); clear hE2 hk2))
      go_wp2_with fail
      have hm1 : min X.length Y.length ≤ X.length := Nat.min_le_left _ _
      have hm2 : min X.length Y.length ≤ Y.length := Nat.min_le_right _ _
      obtain ⟨r1, x1⟩ := slice_top W2 a1 c1 _ X HX1.out hm1
      obtain ⟨r2, x2⟩ := slice_top W2 a2 c2 _ Y HX2.out hm2
      have HEQ := Lib.hid (fun (W : World) (hW : Keeps None' W2 W) => equalE_any _ _ _ _ W (x1.keep hW) (x2.keep hW) (by rw [List.length_take]; omega))
      rw [← HBP.out] at HEQ
      have hmw : min (X.length : Int) (Y.length : Int) = ((min X.length Y.length : Nat) : Int) := by omega
      have HX := Lib.hid (And.intro x1 x2)
      have HMW := Lib.hid hmw
      clear x1 x2 HX1 HX2
      go_region_held3 (fun _ => True) (first | trivial)
        (first | (go_at_call 43; refine (HEQ.out _ (Keeps.refl None' W2).drew).mono ?_; rintro e W3 ⟨rfl, hk3⟩; have HK3 := Lib.hid (HK2.out.trans ((Keeps.refl None' W2).drew.trans hk3)); clear hk3))
      try simp only [Exit.then]
      cases bp with
      | true =>
        go_wp2
        go_roundw
        case rel =>
          refine ⟨k + 1, by omega, by go_num, fun j hj => ?_, HK3.out⟩
          by_cases c : j < k
          · exact HALL.out j c
          · obtain rfl : j = k := by omega
            exact HBQ.out.symm
        case measure => simp [intOf]; omega
      | false =>
        have HN := Lib.hid (beginsAll_no hlt HBQ.out.symm)
        go_wp2
        go_ret
        exact ⟨by rw [HN.out]; rfl, HK3.out⟩
    · obtain rfl : k = H := by omega
      have HY := Lib.hid (beginsAll_yes HALL.out)
      go_wp2_with fail
      go_ret
      exact ⟨by rw [HY.out]; rfl, HKW.out⟩
end Go.Proofs.YtlbaagjbehdmgaaGreat

namespace Go.Proofs.YtlbaagjbehdmgaaGreat
open Go.RowKit

/-- the entries that a store wants of another -/
theorem want_sl (cb : Nat) (S S2 : St) (B2 : Nat → List (List UInt8)) (W : World) (v : Value) (h : IsState W cb S) (hb2 : ByH S2 B2) (hh : S2.houses = S.houses) (h8 : S.houses ≤ 8) (hI : ISlice W v (haveOf S2)) :
    Calls Tryz.prog 41 #[.pointer (some ⟨cb, 0, none⟩), v] W fun e w' => ∃ a c, e = .returned (.tuple #[.slice a (sent S S2).length c, .int .i64 0]) ∧ w'.ownsRow W.heap.size 64 3 (.slice a (sent S S2).length c) (sent S S2).length (entCells (sent S S2)) ∧ Keeps None' W w' := by
  have := wanted_any cb S W v _ h hI.num (by rw [List.length_map, haveOf_join hb2]; simp; omega)
  rw [wanted_sent hb2 hh] at this
  refine this.mono ?_
  rintro e w' ⟨v', rfl, ho, hk⟩
  obtain ⟨a, c, rfl⟩ := own_shape ho
  exact ⟨a, c, rfl, ho, hk⟩
/-- a's state in the loop -/
structure AgA (w2 w : World) (h : Nat) (L : List Ent) (s1 d1 s2 d2 : Nat) (fp2 : Nat → Prop) (D2 : Dsk) (S2 : St) (F2 : Option St) (fp : Nat → Prop) (D : Dsk) (S : St) (F : Option St) (B : Nat → List (List UInt8)) (g : Nat) : Prop where
  pool : Pool w2.heap.size w h L s1 d1 fp D S F B g
  other : Live w2.heap.size w s2 d2 fp2 D2 S2 F2 0
  apart : Apart fp s1 fp2 s2
  keeps : Keeps None' w2 w
set_option maxRecDepth 100000 in
set_option maxHeartbeats 3000000 in
theorem agreeLaw_any (w : World) (h p : Int) (v vz vk : Value) (L : List Ent) (zs ks : List Int) (hv : EntSl w v L) (hz : IntSl w vz zs) (hks : IntSl w vk ks) :
    Calls Tryz.prog 7 #[.agg #[.int .i64 h, .int .i64 p, v], vz, vk] w fun e w' => e = .returned (.bool true) ∧ Keeps None' w w' := by
  obtain ⟨va, vcap, rfl⟩ := hv.shape
  obtain ⟨za, zcap, rfl⟩ := hz.shape
  obtain ⟨ka, kcap, rfl⟩ := hks.shape
  have HSN := Lib.hid (fun W => sane_any W)
  have HV := Lib.hid hv
  have HZ := Lib.hid hz
  have HKS := Lib.hid hks
  have hk0 : Keeps None' w (w.alloc (.cells #[.int .i64 h, .int .i64 p, .slice va L.length vcap] 46)) := (Keeps.refl _ _).alloc _
  have hbl := heap_alloc_new w (.cells #[.int .i64 h, .int .i64 p, .slice va L.length vcap] 46)
  have HBX := Lib.hid (fun W (k : Keeps None' (w.alloc (.cells #[.int .i64 h, .int .i64 p, .slice va L.length vcap] 46)) W) => (⟨cell_of_blk (k.blk hbl (fun h => h)) 0 rfl, cell_of_blk (k.blk hbl (fun h => h)) 1 rfl, cell_of_blk (k.blk hbl (fun h => h)) 2 rfl⟩ : W.cell? ⟨w.heap.size, 0, none⟩ = some (.int .i64 h) ∧ W.cell? ⟨w.heap.size, 1, none⟩ = some (.int .i64 p) ∧ W.cell? ⟨w.heap.size, 2, none⟩ = some (.slice va L.length vcap)))
  have HLT := Lib.hid (fun W (k : Keeps None' w W) => little_any W h p _ L (hv.keep k))
  have HK0 := Lib.hid hk0
  clear hv hz hks hbl hk0
  by_cases hli : littleP h p L = true
  case neg =>
    have hli' : littleP h p L = false := by simpa using hli
    rw [hli'] at HLT
    clear hli hli'
    go_enter Tryz.func7, Tryz.ntmps7
    go_wp2_with (first
      | (go_at_call 11; refine (HSN.out _).mono ?_; rintro e W1 ⟨rfl, hk1⟩; obtain ⟨b0, b1, b2⟩ := HBX.out W1 hk1; have HK1 := Lib.hid (HK0.out.trans hk1); clear hk1)
      | (go_at_call 32; refine (HLT.out _ HK1.out).mono ?_; rintro e W2 ⟨rfl, hk2⟩; have HK2 := Lib.hid (HK1.out.trans hk2); clear hk2))
    go_ret
    exact ⟨rfl, HK2.out⟩
  rw [hli] at HLT
  by_cases hz24 : zs.length ≤ 24
  case neg =>
    have hz24I : (24 : Int) < (zs.length : Int) := by omega
    clear hli
    go_enter Tryz.func7, Tryz.ntmps7
    go_wp2_with (first
      | (go_at_call 11; refine (HSN.out _).mono ?_; rintro e W1 ⟨rfl, hk1⟩; obtain ⟨b0, b1, b2⟩ := HBX.out W1 hk1; have HK1 := Lib.hid (HK0.out.trans hk1); clear hk1)
      | (go_at_call 32; refine (HLT.out _ HK1.out).mono ?_; rintro e W2 ⟨rfl, hk2⟩; have HK2 := Lib.hid (HK1.out.trans hk2); clear hk2))
    go_ret
    exact ⟨rfl, HK2.out⟩
  have hz24J : (zs.length : Int) ≤ 24 := by omega
  by_cases hk24 : ks.length ≤ 24
  case neg =>
    have hk24I : (24 : Int) < (ks.length : Int) := by omega
    clear hli
    go_enter Tryz.func7, Tryz.ntmps7
    go_wp2_with (first
      | (go_at_call 11; refine (HSN.out _).mono ?_; rintro e W1 ⟨rfl, hk1⟩; obtain ⟨b0, b1, b2⟩ := HBX.out W1 hk1; have HK1 := Lib.hid (HK0.out.trans hk1); clear hk1)
      | (go_at_call 32; refine (HLT.out _ HK1.out).mono ?_; rintro e W2 ⟨rfl, hk2⟩; have HK2 := Lib.hid (HK1.out.trans hk2); clear hk2))
    go_ret
    exact ⟨rfl, HK2.out⟩
  have hk24J : (ks.length : Int) ≤ 24 := by omega
  obtain ⟨g1, g2, g3, g4, g5, g6⟩ := littleP_spec hli
  obtain ⟨hn, rfl⟩ : ∃ n : Nat, h = (n : Int) := ⟨h.toNat, by omega⟩
  clear hli g6
  have hqs : ∀ (W : World) (d : Nat), (binOp .eql 50 (.pointer (some ⟨d, 0, none⟩)) (.pointer none)).run Tryz.prog W = .ok (.bool false) W := fun W d => by kernel_rfl
  go_enter Tryz.func7, Tryz.ntmps7
  go_upto_region 5 with (first
    | (go_at_call 11; refine (HSN.out _).mono ?_; rintro e W1 ⟨rfl, hk1⟩; obtain ⟨b0, b1, b2⟩ := HBX.out W1 hk1; have HK1 := Lib.hid (HK0.out.trans hk1); have HKX1 := Lib.hid hk1; clear hk1)
    | (go_at_call 32; refine (HLT.out _ HK1.out).mono ?_; rintro e W2 ⟨rfl, hk2⟩; have HK2 := Lib.hid (HK1.out.trans hk2); have HKX2 := Lib.hid (HKX1.out.trans hk2); clear b0 b1 b2 hk2))
  have HV2 := Lib.hid (HV.out.keep HK2.out)
  have HZ2 := Lib.hid (HZ.out.keep HK2.out)
  have HS2 := Lib.hid (HKS.out.keep HK2.out)
  have HB2 := Lib.hid (fun W (k : Keeps None' W2 W) => HBX.out W (HKX2.out.trans k))
  clear HSN HV HZ HKS HBX HLT HK0 HK1 HKX1 HKX2
  have HPK := Lib.hid (fun W (k : Keeps None' W2 W) => pick_any W (hn : Int) p _ _ L ks (HV2.out.keep k) (HS2.out.keep k) (by omega))
  have hgl : (pickE L ks).length ≤ 24 := Nat.le_trans (pickE_len _ _) hk24
  have HGM := Lib.hid (fun e (h : e ∈ pickE L ks) => pickE_mem h)
  generalize pickE L ks = G at *
  have HAN := Lib.hid (fun W => after_any W hn p va L.length vcap (.slice none 0 0) [] (by omega) (by omega) (by simp) (.inl ⟨none, 0, rfl, rfl⟩))
  have HAG := Lib.hid (fun W v (h : EntSl W v G) => after_any W hn p va L.length vcap v G (by omega) (by omega) (by omega) h)
  have HR0 := Lib.hid (Keeps.refl None' W2)
  go_region_held3 (fun W => W.cell? ⟨w.heap.size, 0, none⟩ = some (.int .i64 (hn : Int)) ∧ W.cell? ⟨w.heap.size, 1, none⟩ = some (.int .i64 p) ∧ W.cell? ⟨w.heap.size, 2, none⟩ = some (.slice va L.length vcap))
    (first | exact HB2.out _ HKr3.out | exact HB2.out _ HKr2.out | exact HB2.out _ HKr1.out | exact HB2.out _ HR0.out.drew | exact HB2.out _ HR0.out)
    (first
    | (go_at_call 33; first
      | ((with_reducible refine (HPK.out _ HKr1.out).mono ?_); rintro e W3 ⟨vg, rfl, hg, hk⟩; obtain ⟨ga, gc, rfl⟩ := (EntSl.of_own hg).shape; have HG := Lib.hid (EntSl.of_own hg); have HL1 := Lib.hid (HL1.out.keep hk); have HKr2 := Lib.hid (HKr1.out.trans hk); clear hg hk)
      | ((with_reducible refine (HPK.out _ HR0.out.drew).mono ?_); rintro e W3 ⟨vg, rfl, hg, hk⟩; obtain ⟨ga, gc, rfl⟩ := (EntSl.of_own hg).shape; have HG := Lib.hid (EntSl.of_own hg); have HKr1 := Lib.hid (HR0.out.drew.trans hk); clear hg hk))
    | (go_at_call 34; first
      | ((with_reducible refine (HAG.out W3 _ HG.out).mono ?_); rintro e W4 ⟨s2, d2, fp2, D2, S2, F2, rfl, hA2, hk⟩; have HKr2 := Lib.hid (HKr1.out.trans hk); have HX2 := Lib.hid hA2; have HL2 := Lib.hid (hA2.live.down (base' := W2.heap.size) HKr1.out.size); clear hk hA2)
      | ((with_reducible refine (HAG.out _ _ HG.out).mono ?_); rintro e W5 ⟨s2, d2, fp2, D2, S2, F2, rfl, hA2, hk⟩; have HKr3 := Lib.hid (HKr2.out.trans hk); have HX2 := Lib.hid hA2; have HL2 := Lib.hid (hA2.live.down (base' := W2.heap.size) HKr2.out.size); have HAP := Lib.hid (apart_later HL1.out hA2.live (Nat.le_refl _)); have HL1 := Lib.hid (HL1.out.keep hk); clear hk hA2)
      | ((with_reducible refine (HAN.out W4).mono ?_); rintro e W5 ⟨s1, d1, fp1, D1, S1, F1, rfl, hA1, hk⟩; have HKr3 := Lib.hid (HKr2.out.trans hk); have HX1 := Lib.hid hA1; have HL1 := Lib.hid (hA1.live.down (base' := W2.heap.size) HKr2.out.size); have HAP := Lib.hid (apart_later HL2.out hA1.live (Nat.le_refl _)).symm; have HL2 := Lib.hid (HL2.out.keep hk); clear hk hA1)
      | ((with_reducible refine (HAN.out W3).mono ?_); rintro e W4 ⟨s1, d1, fp1, D1, S1, F1, rfl, hA1, hk⟩; have HKr2 := Lib.hid (HKr1.out.trans hk); have HX1 := Lib.hid hA1; have HL1 := Lib.hid (hA1.live.down (base' := W2.heap.size) HKr1.out.size); have HG := Lib.hid (HG.out.keep hk); clear hk hA1)
      | ((with_reducible refine (HAN.out W2.drew).mono ?_); rintro e W3 ⟨s1, d1, fp1, D1, S1, F1, rfl, hA1, hk⟩; have HKr1 := Lib.hid (HR0.out.drew.trans hk); have HX1 := Lib.hid hA1; have HL1 := Lib.hid (hA1.live.down (base' := W2.heap.size) HR0.out.drew.size); clear hk hA1)))
  all_goals
    try simp only [Exit.then]
    have HP1 := Lib.hid ((HX1.out.pool (L := L) (by simp)).at' HL1.out)
    have HP2 := Lib.hid ((HX2.out.pool HGM.out).at' HL2.out)
    clear HX1 HX2 HGM HPK HAN HAG HG HKr1 HKr2
    generalize newB G (fun _ => []) = B2 at *
    generalize newB [] (fun _ => []) = B1 at *
    go_wp2_with fail
    go_loopw [50] (fun i wr => ∃ k : Nat, k ≤ zs.length ∧ i = .int .i64 k ∧ ∃ fp D S F B, AgA W2 wr hn L s1 d1 s2 d2 fp2 D2 S2 F2 fp D S F B (k + 2)) (fun i _ => zs.length - (intOf i).toNat)
    case atStart => exact ⟨0, Nat.zero_le _, rfl, fp1, D1, S1, F1, B1, ⟨HP1.out, HL2.out, HAP.out, HKr3.out⟩⟩
    case round =>
      obtain ⟨k, hk, rfl, fp, D, S, F, B, hA⟩ := hrel
      have HA := Lib.hid hA
      clear hA
      by_cases hlt : k < zs.length
      · obtain ⟨zb, zo, hza, hrun, his⟩ := slice_one W2 za zcap k zs HZ2.out hlt
        have HIS := Lib.hid his
        have HPK := Lib.hid (fun W (k' : Keeps None' wr W) => pick_any W (hn : Int) p _ _ L [zs[k]] (HV2.out.keep (HA.out.keeps.trans k')) (HIS.out.keep (HA.out.keeps.trans k')) (by simp))
        have HGM := Lib.hid (fun e (h : e ∈ pickE L [zs[k]]) => pickE_mem h)
        have hgl1 : (pickE L [zs[k]]).length ≤ 100000 := Nat.le_trans (pickE_len _ _) (by simp)
        generalize pickE L [zs[k]] = G1 at *
        have HTK := Lib.hid (fun W (k' : Keeps None' wr W) => (HA.out.pool.at' (HA.out.pool.live.keep k')).take (by omega) (by omega) (Nat.le_trans HA.out.keeps.size k'.size) G1 HGM.out hgl1)
        have HRR := Lib.hid (Keeps.refl None' wr)
        have hkI : (k : Int) < (zs.length : Int) := by omega
        have hwk : IntKind.i64.wrap ((k : Int) + 1) = (k : Int) + 1 := IntWalk.i64_in _ (by omega)
        clear hza his hgl1
        go_wp2_with fail
        go_region_held3 (fun W => W.cell? ⟨w.heap.size, 0, none⟩ = some (.int .i64 (hn : Int)) ∧ W.cell? ⟨w.heap.size, 1, none⟩ = some (.int .i64 p) ∧ W.cell? ⟨w.heap.size, 2, none⟩ = some (.slice va L.length vcap))
          (first | exact HB2.out _ HKt.out | exact HB2.out _ (HA.out.keeps.trans HKp.out) | exact HB2.out _ HA.out.keeps.drew | exact HB2.out _ HA.out.keeps)
          (first
          | (go_at_call 33; refine (HPK.out _ HRR.out.drew).mono ?_; rintro e W6 ⟨vg, rfl, hg, hk⟩; obtain ⟨ga1, gc1, rfl⟩ := (EntSl.of_own hg).shape; have HG1 := Lib.hid (EntSl.of_own hg); have HKp := Lib.hid (HRR.out.drew.trans hk); clear hg hk)
          | (go_at_call 39; obtain ⟨n, D', S', F', hc⟩ := HTK.out _ HKp.out; refine (hc _ HG1.out).mono ?_; rintro e W7 ⟨rfl, fp', hs, hp⟩; have HS7 := Lib.hid hs; have HP7 := Lib.hid hp; have HKt := Lib.hid ((HA.out.keeps.trans HKp.out).trans' hs.keeps (fun i hi hf => by have := HA.out.pool.live.ge hf; omega)); clear hs hp hc))
        try simp only [Exit.then]
        have HO7 := Lib.hid ((HA.out.pool.live.keep HKp.out).other (HA.out.other.keep HKp.out) HA.out.apart HS7.out)
        go_wp2
        go_roundw
        case rel => exact ⟨k + 1, by omega, by go_num, fp', D', S', F', _, ⟨HP7.out, HO7.out.1, HO7.out.2, HKt.out⟩⟩
        case measure => simp [intOf]; omega
      · have HA' := HA.out
        obtain ⟨cb1, f1⟩ := HA'.pool.live.cell0
        obtain ⟨cb2, f2⟩ := HA'.other.cell0
        have hlen1 := HA'.pool.few_len
        have hlen2 := HP2.out.few_len
        obtain ⟨b0, b1, b2⟩ := HB2.out wr HA'.keeps
        have h8 : S.houses ≤ 8 := by rw [HA'.pool.houses]; omega
        have hh2 : S2.houses = S.houses := by rw [HA'.pool.houses, HP2.out.houses]
        have hbg := begins_any wr s1 s2 cb1 cb2 S S2 hn (f1 wr (Keeps.refl _ _)).1 (f2 wr (Keeps.refl _ _)).1 (f1 wr (Keeps.refl _ _)).2 (f2 wr (Keeps.refl _ _)).2 HA'.pool.houses HP2.out.houses (by omega) (by omega) (by omega)
        by_cases hbv : beginsAll S S2 hn = true
        case neg =>
          rw [show beginsAll S S2 hn = false by simpa using hbv] at hbg
          have HBG := Lib.hid hbg
          clear hbg hbv HA' f1 f2 hlen1 hlen2 h8 hh2
          go_wp2_with (first
            | (go_at_call 50; refine HBG.out.mono ?_; rintro e W8 ⟨rfl, hk8⟩; have HK8 := Lib.hid hk8; clear hk8))
          go_ret
          exact ⟨rfl, (HK2.out.trans HA.out.keeps).trans HK8.out⟩
        rw [hbv] at hbg
        have HBG := Lib.hid hbg
        have HBV := Lib.hid (fun (j : Nat) (hj : j < hn) => beginsAll_at hbv hj)
        have HF1 := Lib.hid f1
        have HF2 := Lib.hid f2
        have HHV1 := Lib.hid (fun W (k : Keeps None' wr W) => have_sl cb1 S W (HF1.out W k).2 (HA.out.pool.byH.inHouse h8))
        have HHV2 := Lib.hid (fun W (k : Keeps None' wr W) => have_sl cb2 S2 W (HF2.out W k).2 (HP2.out.byH.inHouse (by omega)))
        have HWT1 := Lib.hid (fun W v (k : Keeps None' wr W) (hI : ISlice W v (haveOf S2)) => want_sl cb1 S S2 _ W v (HF1.out W k).2 HP2.out.byH hh2 h8 hI)
        have HWT2 := Lib.hid (fun W v (k : Keeps None' wr W) (hI : ISlice W v (haveOf S)) => want_sl cb2 S2 S _ W v (HF2.out W k).2 HA.out.pool.byH hh2.symm (by omega) hI)
        have HOK1 := Lib.hid HA'.pool.inv.legal.ok
        have HOK2 := Lib.hid HP2.out.inv.legal.ok
        have H8 := Lib.hid h8
        have HH2 := Lib.hid hh2
        clear hbg hbv HA' f1 f2 hlen1 hlen2 h8 hh2
        go_upto_region 17 with (first
            | (go_at_call 50; refine HBG.out.mono ?_; rintro e W8 ⟨rfl, hk8⟩; have HK8 := Lib.hid hk8; clear hk8))
        go_region_held3 (fun W => W.cell? ⟨s1, 0, none⟩ = some (.pointer (some ⟨cb1, 0, none⟩)) ∧ W.cell? ⟨s2, 0, none⟩ = some (.pointer (some ⟨cb2, 0, none⟩)))
          (first | exact ⟨(HF1.out _ HKe2.out).1, (HF2.out _ HKe2.out).1⟩ | exact ⟨(HF1.out _ HKe1.out).1, (HF2.out _ HKe1.out).1⟩ | exact ⟨(HF1.out _ HK8.out.drew).1, (HF2.out _ HK8.out.drew).1⟩ | exact ⟨(HF1.out _ HK8.out).1, (HF2.out _ HK8.out).1⟩)
          (first
          | (go_at_call 42; refine (HHV2.out _ HK8.out.drew).mono ?_; rintro e W9 ⟨a9, c9, rfl, hI9, hk9⟩; have HI9 := Lib.hid hI9; have HKe1 := Lib.hid (HK8.out.drew.trans hk9); clear hI9 hk9)
          | (go_at_call 41; refine (HWT1.out _ _ HKe1.out HI9.out).mono ?_; rintro e W10 ⟨a10, c10, rfl, ho10, hk10⟩; have HO10 := Lib.hid ho10; have HKe2 := Lib.hid (HKe1.out.trans hk10); clear ho10 hk10))
        all_goals
          try simp only [Exit.then]
          go_wp2_with fail
          go_region_held3 (fun W => W.cell? ⟨s1, 0, none⟩ = some (.pointer (some ⟨cb1, 0, none⟩)) ∧ W.cell? ⟨s2, 0, none⟩ = some (.pointer (some ⟨cb2, 0, none⟩)))
            (first | exact ⟨(HF1.out _ HKe4.out).1, (HF2.out _ HKe4.out).1⟩ | exact ⟨(HF1.out _ HKe3.out).1, (HF2.out _ HKe3.out).1⟩ | exact ⟨(HF1.out _ HKe2.out.drew).1, (HF2.out _ HKe2.out.drew).1⟩ | exact ⟨(HF1.out _ HKe2.out).1, (HF2.out _ HKe2.out).1⟩)
            (first
            | (go_at_call 42; refine (HHV1.out _ HKe2.out.drew).mono ?_; rintro e W11 ⟨a11, c11, rfl, hI11, hk11⟩; have HI11 := Lib.hid hI11; have HKe3 := Lib.hid (HKe2.out.drew.trans hk11); have HKf3 := Lib.hid ((Keeps.refl None' W10).drew.trans hk11); clear hI11 hk11)
            | (go_at_call 41; refine (HWT2.out _ _ HKe3.out HI11.out).mono ?_; rintro e W12 ⟨a12, c12, rfl, ho12, hk12⟩; have HO12 := Lib.hid ho12; have HKe4 := Lib.hid (HKe3.out.trans hk12); have HO10 := Lib.hid (own_keep HO10.out (HKf3.out.trans hk12) (fun _ _ h => h)); clear ho12 hk12))
          all_goals
            try simp only [Exit.then]
            have hp12 := HA.out.pool.at' (HA.out.pool.live.keep HKe4.out)
            have hl12 := HA.out.other.keep HKe4.out
            have hbz : W2.heap.size ≤ W12.heap.size := (HA.out.keeps.trans HKe4.out).size
            obtain ⟨n1, D', S', F', hc⟩ := hp12.take (by omega) (by omega) hbz (sent S2 S) (fun e he => HP2.out.few e (sent_mem he)) (Nat.le_trans (sent_len (by have := H8.out; have := HH2.out; omega) HOK2.out) (by omega))
            have HC1 := Lib.hid (hc _ (EntSl.of_own HO12.out))
            have HP12 := Lib.hid hp12
            have HL12 := Lib.hid hl12
            have HBZ := Lib.hid hbz
            clear hp12 hl12 hbz hc
            go_upto_region 20 with (first
              | (go_at_call 39; refine HC1.out.mono ?_; rintro e W13 ⟨rfl, fp', hs, hp⟩; have HS13 := Lib.hid hs; have HP13 := Lib.hid hp; clear hs hp))
            have hO13 := HP12.out.live.other HL12.out HA.out.apart HS13.out
            have hK13 := (HA.out.keeps.trans HKe4.out).trans' HS13.out.keeps (fun i hi hf => by have := HP12.out.live.ge hf; omega)
            have hR13 := own_keep HO10.out HS13.out.keeps (HP12.out.live.row HO10.out)
            obtain ⟨n2, D2', S2', F2', hc2⟩ := (HP2.out.at' hO13.1).take (by omega) (by omega) hK13.size (sent S S2) (fun e he => HA.out.pool.few e (sent_mem he)) (Nat.le_trans (sent_len H8.out HOK1.out) (by omega))
            have HC2 := Lib.hid (hc2 _ (EntSl.of_own hR13))
            have HO13 := Lib.hid hO13
            have HK13 := Lib.hid hK13
            clear hO13 hK13 hR13 hc2
            go_upto_region 21 with (first
              | (go_at_call 39; refine HC2.out.mono ?_; rintro e W14 ⟨rfl, fp2', hs, hp⟩; have HS14 := Lib.hid hs; have HP14 := Lib.hid hp; clear hs hp))
            have hO14 := HO13.out.1.other HP13.out.live HO13.out.2.symm HS14.out
            have hK14 := HK13.out.trans' HS14.out.keeps (fun i hi hf => by have := HO13.out.1.ge hf; omega)
            have hee : entsOf S' = entsOf S2' := by
              rw [HP13.out.byH.ents, HP14.out.byH.ents, HP13.out.houses, HP14.out.houses]
              refine joinH_congr fun j hj => ?_
              have hj' : j < S.houses := by rw [HA.out.pool.houses]; exact hj
              exact (agree_new HA.out.pool.byH HP2.out.byH H8.out HH2.out hj' (beginsP_spec HA.out.pool.byH HP2.out.byH HH2.out hj' (HBV.out j hj))).symm
            have HSAME := Lib.hid (same_live hO14.1 HP14.out.live HP13.out.byH HP14.out.byH (by rw [HP13.out.houses]; omega) hee (by rw [HP13.out.houses, HP14.out.houses]))
            have HK14 := Lib.hid hK14
            clear hO14 hK14 hee
            go_wp2_with (first
              | (go_at_call 40; refine HSAME.out.mono ?_; rintro e W15 ⟨rfl, hk15⟩; have HK15 := Lib.hid hk15; clear hk15))
            go_ret
            exact ⟨rfl, (HK2.out.trans HK14.out).trans HK15.out⟩
end Go.Proofs.YtlbaagjbehdmgaaGreat
