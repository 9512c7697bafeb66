/- Store.Take. -/
import Derived.Deep.QuietTactic
import Derived.BigQuiet
import Derived.Deep.RegionHeld3
import Derived.Test.YtlbaagjbehdmgaaGreatM36
namespace Go.Proofs.YtlbaagjbehdmgaaGreat
open Go.RowKit Go.Maps

def TkRet (w : World) (s d : Nat) (fp : Nat → Prop) (R : Nat × Int × Dsk × St × Option St) (falls : Int) (e : Ending) (w' : World) : Prop :=
  e = .returned (.tuple #[.int .i64 (R.1 : Int), .int .i64 R.2.1]) ∧ ∃ fp', SStep w s d fp w' R.2.2.1 R.2.2.2.1 R.2.2.2.2 falls fp'
theorem build_then (w : World) (h : Int) (x : Option Addr) (m c : Nat) : (Instr.build 119 #[(1, .int .i64 h), (3, .slice x m c)]).run Tryz.prog w = .ok (.agg #[.int .i64 0, .int .i64 h, .int .u64 0, .slice x m c, .slice none 0 0]) w := by kernel_rfl
theorem build_key (w : World) (h n : Int) : (Instr.build 123 #[(0, .int .i64 h), (1, .int .i64 n)]).run Tryz.prog w = .ok (.agg #[.int .i64 h, .int .i64 n]) w := by kernel_rfl

/-- what the first loop is in -/
structure LsAt (w : World) (L : List Ent) (mb k : Nat) (wr : World) : Prop where
  keeps : Keeps None' w wr
  map : IsLeastMap wr mb k (L.take k)
  new : w.heap.size ≤ mb

set_option maxRecDepth 100000 in
set_option maxHeartbeats 4000000 in
theorem Take_any (w : World) (s d : Nat) (D : Dsk) (fp : Nat → Prop) (cur : St) (former : Option St) (falls : Int) (v : Value) (L : List Ent) (hs : IsStore w s d cur former falls) (hd : IsDisk w d D fp) (h2 : 2 ≤ D.now.length) (hr : D.writes.length ≤ 20000)
    (hT : TkOk cur.houses 0 0 cur.entries) (hL : L.length ≤ 100000) (hv : EntSl w v L) :
    Calls Tryz.prog 39 #[.pointer (some ⟨s, 0, none⟩), v] w fun e w' => TkRet w s d fp (takeP D cur former falls L) falls e w' := by
  have HS := Lib.hid hs
  have HD := Lib.hid hd
  have HSAME := Lib.hid (fun w' (hk : Keeps None' w w') => SStep.same hs hd hk)
  have HDN := Lib.hid (fun W (hk : Keeps None' w W) => down_any W s d D fp cur former falls (by
    obtain ⟨cb, fv, h⟩ := hs
    exact ⟨cb, fv, h.keep hk (spares_none _) (fun h => h)⟩) (hd.keep hk (fun _ _ h => h)))
  clear hs hd
  obtain ⟨va, vcap, rfl⟩ := hv.shape
  have HV := Lib.hid hv
  have HT := Lib.hid hT
  clear hv hT
  by_cases hdn : D.falls = falls
  case neg =>
    have hb : (D.falls != falls) = true := by simpa using hdn
    have HP := Lib.hid (show takeP D cur former falls L = (0, 91, D, cur, former) by simp [takeP, hdn])
    rw [hb] at HDN
    clear hdn hb
    go_enter Tryz.func39, Tryz.ntmps39
    go_wp2_with (first | (refine (HDN.out _ (Keeps.refl _ _)).mono ?_; rintro r W1 ⟨rfl, hk1⟩; have HK1 := Lib.hid hk1; clear hk1))
    go_ret2
    refine ⟨by rw [HP.out]; rfl, fp, ?_⟩
    rw [HP.out]
    exact HSAME.out _ HK1.out
  have hb : (D.falls != falls) = false := by simpa using hdn
  rw [hb] at HDN
  clear hb
  have HDF := Lib.hid hdn
  have hmm := @run_makeMap Tryz.prog
  have hbk := build_key
  clear hdn
  go_enter Tryz.func39, Tryz.ntmps39
  go_wp2_with (first | (refine (HDN.out _ (Keeps.refl _ _)).mono ?_; rintro r W1 ⟨rfl, hk1⟩; have HK1 := Lib.hid hk1; clear hk1))
  generalize hmb : W1.heap.size = mb at *
  have h0 : LsAt w L mb 0 (W1.alloc (.map #[] 0)) := ⟨HK1.out.alloc _, by rw [← hmb]; exact IsLeastMap.made W1, by rw [← hmb]; exact HK1.out.size⟩
  have HMB := Lib.hid hmb
  clear hmb
  refine gen_wp (fun W => LsAt w L mb 0 W) h0 ?_
  rintro W2 h0
  have HCK := Lib.hid (fun (e : Ent) (W : World) => show Calls Tryz.prog 72 #[.agg #[.int .i64 e.house, .int .i64 e.no, .string (str e.body)]] W fun r w' => r = .returned (.int .i64 (chk e)) ∧ Keeps None' W w' from check_any e W)
  have hLI : (L.length : Int) ≤ 100000 := by omega
  go_loopw [26] (fun i wr => ∃ k : Nat, k ≤ L.length ∧ i = .int .i64 k ∧ LsAt w L mb k wr) (fun i _ => L.length - (intOf i).toNat)
  case atStart => exact ⟨0, Nat.zero_le _, rfl, h0⟩
  case round =>
    obtain ⟨k, hk, rfl, hA⟩ := hrel
    clear h0
    by_cases hlt : k < L.length
    · obtain ⟨b, off, rfl, hblt, hcap, d0, d1, d2⟩ := (HV.out.keep hA.keeps).get k hlt
      have hts := List.take_succ_eq_append_getElem hlt
      have hsn : ∀ a c, leastP (L.take (k + 1)) a c = least1 a c (leastP (L.take k) a c) L[k] := fun a c => by rw [hts, leastP_snoc]
      have HTS := Lib.hid hts
      have HSN := Lib.hid hsn
      have hws : w.heap.size ≤ wr.heap.size := hA.keeps.size
      have hmlt : mb < wr.heap.size := hA.map.lt
      have HA := Lib.hid hA
      have HCE := Lib.hid (HCK.out L[k])
      clear hA hts hsn
      generalize L[k] = E at *
      obtain ⟨eh, en, eb⟩ := E
      dsimp only at *
      have hkI : (k : Int) < (L.length : Int) := by omega
      by_cases hva : (Ent.mk eh en eb).valid = true
      · obtain ⟨wf1, wf2⟩ := valid_wf hva
        have hcn : chk ⟨eh, en, eb⟩ = 0 := by simp [chk, hva]
        rw [hcn] at HCE
        have hk100 : k ≤ 1000000 := by omega
        have hmapk : ∀ W, Keeps None' wr W → IsLeastMap W mb k (L.take k) := fun W hW => HA.out.map.keep hW (fun h => h)
        have HMK := Lib.hid hmapk
        have hput : leastP (L.take k ++ [⟨eh, en, eb⟩]) eh en = some ⟨eh, en, eb⟩ → ∀ W W5, Keeps None' wr W → IsLeastMap W5 mb (k + 1) (L.take k ++ [⟨eh, en, eb⟩]) → W.grownBy W5 (some mb) → LsAt w L mb (k + 1) W5 := fun _ W W5 hW hm hg =>
          ⟨(HA.out.keeps.trans hW).trans' (grownBy_keeps hg) (fun i hi e => by have := HA.out.new; injection e with e; omega), by rw [HTS.out]; exact hm, HA.out.new⟩
        have HPUT := Lib.hid hput
        clear hmapk hput hcn
        cases hl : leastP (L.take k) eh en with
        | none =>
          have hlp : leastP (L.take k ++ [⟨eh, en, eb⟩]) eh en = some ⟨eh, en, eb⟩ := by rw [leastP_snoc, hl]; unfold least1; rw [if_pos ⟨hva, rfl, rfl⟩]
          have HLP := Lib.hid hlp
          have HL := Lib.hid hl
          have HVA := Lib.hid hva
          clear hl hlp hva
          go_wp2_with (first
            | (refine (HCE.out _).mono ?_; rintro r W3 ⟨rfl, hk3⟩; have HK3 := Lib.hid (((Keeps.refl None' wr).alloc (.cells #[.int .i64 eh, .int .i64 en, .string (str eb)] 64)).trans hk3); have hb8 := hk3.blk (heap_alloc_new wr _) (fun h => h); have e0 := cell_of_blk hb8 0 rfl; have e1 := cell_of_blk hb8 1 rfl; have e2 := cell_of_blk hb8 2 rfl; have hz3 := lt_of_block hb8; clear hb8 hk3)
            | (at_lookup; refine list_look_none rfl _ _ rfl mb k eh en (L.take k) rfl rfl (HMK.out _ (HK3.out.alloc _)) wf1 wf2 HL.out ?_)
            | (at_mapUpdate; refine list_leastStore rfl _ _ _ rfl mb k (L.take k) ⟨eh, en, eb⟩ rfl rfl rfl (HMK.out _ ((HK3.out.alloc _).alloc _)) HVA.out hk100 HLP.out ?_; intro W5 hm5 hg5; have HNX := Lib.hid (HPUT.out HLP.out _ W5 ((HK3.out.alloc _).alloc _) hm5 hg5); clear hm5 hg5))
          go_roundw
          case rel => exact ⟨k + 1, by omega, by go_num, HNX.out⟩
          case measure => simp [intOf]; omega
        | some x =>
          obtain ⟨xh, xn, xb⟩ := x
          cases hbl : blt eb xb with
          | true =>
            have hlp : leastP (L.take k ++ [⟨eh, en, eb⟩]) eh en = some ⟨eh, en, eb⟩ := by rw [leastP_snoc, hl]; unfold least1; rw [if_pos ⟨hva, rfl, rfl⟩]; dsimp only; rw [if_pos hbl]
            have HLP := Lib.hid hlp
            have HL := Lib.hid hl
            have HVA := Lib.hid hva
            have hbs : Op.bytesLess (str eb).toList (str xb).toList = true := by rw [bless_str]; exact hbl
            clear hl hlp hva hbl
            go_wp2_with (first
              | (refine (HCE.out _).mono ?_; rintro r W3 ⟨rfl, hk3⟩; have HK3 := Lib.hid (((Keeps.refl None' wr).alloc (.cells #[.int .i64 eh, .int .i64 en, .string (str eb)] 64)).trans hk3); have hb8 := hk3.blk (heap_alloc_new wr _) (fun h => h); have e0 := cell_of_blk hb8 0 rfl; have e1 := cell_of_blk hb8 1 rfl; have e2 := cell_of_blk hb8 2 rfl; have hz3 := lt_of_block hb8; clear hb8 hk3)
              | (at_lookup; refine list_look_some rfl _ _ rfl mb k eh en (L.take k) ⟨xh, xn, xb⟩ rfl rfl (HMK.out _ (HK3.out.alloc _)) wf1 wf2 HL.out ?_)
              | (at_mapUpdate; refine list_leastStore rfl _ _ _ rfl mb k (L.take k) ⟨eh, en, eb⟩ rfl rfl rfl (HMK.out _ ((HK3.out.alloc _).alloc _)) HVA.out hk100 HLP.out ?_; intro W5 hm5 hg5; have HNX := Lib.hid (HPUT.out HLP.out _ W5 ((HK3.out.alloc _).alloc _) hm5 hg5); clear hm5 hg5))
            go_roundw
            case rel => exact ⟨k + 1, by omega, by go_num, HNX.out⟩
            case measure => simp [intOf]; omega
          | false =>
            have hnext : ∀ W, Keeps None' wr W → LsAt w L mb (k + 1) W := fun W hW => ⟨HA.out.keeps.trans hW, by
              obtain ⟨es, clock, q1, q2, q3, q4, q5⟩ := (HA.out.map.keep hW (fun h => h)).congr (M := L.take (k + 1)) (fun a c => by
                rw [HSN.out]; unfold least1
                split
                · rename_i hc
                  obtain ⟨_, c1, c2⟩ := hc
                  dsimp only at c1 c2
                  rw [← c1, ← c2, hl]
                  dsimp only
                  rw [if_neg (by rw [hbl]; simp)]
                · rfl)
              exact ⟨es, clock, q1, q2, by omega, q4, q5⟩, HA.out.new⟩
            have HNX := Lib.hid hnext
            have HL := Lib.hid hl
            have hbs : Op.bytesLess (str eb).toList (str xb).toList = false := by rw [bless_str]; exact hbl
            clear hl hva hbl hnext
            go_wp2_with (first
              | (refine (HCE.out _).mono ?_; rintro r W3 ⟨rfl, hk3⟩; have HK3 := Lib.hid (((Keeps.refl None' wr).alloc (.cells #[.int .i64 eh, .int .i64 en, .string (str eb)] 64)).trans hk3); have hb8 := hk3.blk (heap_alloc_new wr _) (fun h => h); have e0 := cell_of_blk hb8 0 rfl; have e1 := cell_of_blk hb8 1 rfl; have e2 := cell_of_blk hb8 2 rfl; have hz3 := lt_of_block hb8; clear hb8 hk3)
              | (at_lookup; refine list_look_some rfl _ _ rfl mb k eh en (L.take k) ⟨xh, xn, xb⟩ rfl rfl (HMK.out _ (HK3.out.alloc _)) wf1 wf2 HL.out ?_))
            go_roundw
            case rel => exact ⟨k + 1, by omega, by go_num, HNX.out _ ((HK3.out.alloc _).alloc _)⟩
            case measure => simp [intOf]; omega
      · have hcn := chk_bad (by simpa using hva)
        rw [hcn] at HCE
        have hnext : ∀ W, Keeps None' wr W → LsAt w L mb (k + 1) W := fun W hW => ⟨HA.out.keeps.trans hW, by
          obtain ⟨es, clock, q1, q2, q3, q4, q5⟩ := (HA.out.map.keep hW (fun h => h)).congr (M := L.take (k + 1)) (fun a c => by rw [HSN.out]; unfold least1; rw [if_neg (fun h => hva h.1)])
          exact ⟨es, clock, q1, q2, by omega, q4, q5⟩, HA.out.new⟩
        have HNX := Lib.hid hnext
        clear hnext hva hcn
        go_wp2_with (first | (refine (HCE.out _).mono ?_; rintro r W3 ⟨rfl, hk3⟩; have HK3 := Lib.hid (((Keeps.refl None' wr).alloc (.cells #[.int .i64 eh, .int .i64 en, .string (str eb)] 64)).trans hk3); clear hk3))
        go_roundw
        case rel => exact ⟨k + 1, by omega, by go_num, HNX.out _ HK3.out⟩
        case measure => simp [intOf]; omega
    · obtain rfl : k = L.length := by omega
      have hmap : IsLeastMap wr mb L.length L := by have := hA.map; rwa [List.take_length] at this
      have HM := Lib.hid hmap
      clear hmap
      have HA := Lib.hid hA
      obtain ⟨cb, fv, hS⟩ := HS.out
      obtain ⟨ev, iv, hC⟩ := hS.cur
      have s0 := (hA.keeps.cell (p := ⟨s, 0, none⟩) (lt_of_block hS.blk) (fun h => h)).trans hS.c0
      have q1 := (hA.keeps.cell (p := ⟨cb, 1, none⟩) (lt_of_block hC.blk) (fun h => h)).trans hC.c1
      have q3 := (hA.keeps.cell (p := ⟨cb, 3, none⟩) (lt_of_block hC.blk) (fun h => h)).trans hC.c3
      obtain ⟨r0, hr0, hp0⟩ := hC.entries.rowP
      obtain ⟨ea, ecap, rfl⟩ := hr0.shape
      have hh8 := hC.ok.houses
      have HSB := Lib.hid hS
      have HCB := Lib.hid hC
      have HR0 := Lib.hid hr0
      have HP0 := Lib.hid hp0
      have hws : w.heap.size ≤ wr.heap.size := hA.keeps.size
      clear hA hS hC hr0 hp0
      have hbt := build_then
      go_wp2
      go_region_held3 (fun W => W.cell? ⟨s, 0, none⟩ = some (.pointer (some ⟨cb, 0, none⟩)) ∧ W.cell? ⟨cb, 1, none⟩ = some (.int .i64 (cur.houses : Int)) ∧ W.cell? ⟨cb, 3, none⟩ = some (.slice ea r0.length ecap)) (go_keep) (fail)
      all_goals
        try simp only [Exit.then]
        go_wp2_with fail
        generalize htb : wr.heap.size = tb at *
        have hmt : mb < tb := by rw [← htb]; exact HM.out.lt
        have h1 : TkAt w cur.houses tb mb L.length L (cur.entries, 0) (wr.drew.alloc (.cells #[.int .i64 0, .int .i64 (cur.houses : Int), .int .u64 0, .slice ea r0.length ecap, .slice none 0 0] 119)) :=
          ⟨HA.out.keeps.drew.alloc _, HM.out.keep ((Keeps.refl None' wr).drew.alloc _) (fun h => h), _, r0, by rw [← htb]; exact heap_alloc_new wr.drew _, (HR0.out.keep HA.out.keeps).keep ((Keeps.refl None' wr).drew.alloc _), HP0.out, fun h => by cases h⟩
        have hcs : ∀ W, Keeps None' w W → W.cell? ⟨s, 0, none⟩ = some (.pointer (some ⟨cb, 0, none⟩)) ∧ W.cell? ⟨cb, 1, none⟩ = some (.int .i64 (cur.houses : Int)) := fun W hW =>
          ⟨(hW.cell (p := ⟨s, 0, none⟩) (lt_of_block HSB.out.blk) (fun h => h)).trans HSB.out.c0, (hW.cell (p := ⟨cb, 1, none⟩) (lt_of_block HCB.out.blk) (fun h => h)).trans HCB.out.c1⟩
        have HCS := Lib.hid hcs
        have hmw : w.heap.size ≤ mb := HA.out.new
        clear htb s0 q1 q3 hcs hbt
        refine gen_wp (fun W => TkAt w cur.houses tb mb L.length L (cur.entries, 0) W) h1 ?_
        rintro W4 hT4
        have HT4 := Lib.hid hT4
        clear h1 hT4
        obtain ⟨x0, x1⟩ := HCS.out W4 HT4.out.keeps
        have hhI : (cur.houses : Int) ≤ 8 := by omega
        go_wp2_with fail
        clear x0 x1
        go_loopw [13, 80] (fun n i wv => ∃ h : Nat, h ≤ cur.houses ∧ i = .int .i64 h ∧ n = .int .i64 ((takeAll L cur.entries h).2 : Int) ∧ (takeAll L cur.entries h).2 ≤ 65 * h ∧ TkOk cur.houses 0 0 (takeAll L cur.entries h).1 ∧ TkAt w cur.houses tb mb L.length L (takeAll L cur.entries h) wv) (fun _ i _ => cur.houses - (intOf i).toNat)
        case atStart => exact ⟨0, Nat.zero_le _, rfl, rfl, Nat.zero_le _, HT.out, HT4.out⟩
        case round =>
          obtain ⟨h, hh, rfl, rfl, hcnt, hTO, hTA⟩ := hrel
          clear HT4
          by_cases hlt : h < cur.houses
          · have hhI2 : (h : Int) < (cur.houses : Int) := by omega
            have HTA := Lib.hid hTA
            have HTO := Lib.hid hTO
            have HSU := Lib.hid (show takeAll L cur.entries (h + 1) = takeHouse L h 65 0 (takeAll L cur.entries h) from rfl)
            have hcI : ((takeAll L cur.entries h).2 : Int) ≤ 600 := by omega
            clear hTA hTO
            generalize takeAll L cur.entries h = st0 at *
            obtain ⟨wo, rfl⟩ : ∃ wo : World, wo = wr := ⟨_, rfl⟩
            go_wp2_with fail
            go_loopw [13, 15] (fun n j wq => ∃ (no : Nat) (st : List Placed × Nat), no ≤ 64 ∧ j = .int .i64 no ∧ n = .int .i64 (st.2 : Int) ∧ st.2 ≤ 65 * h + no ∧ takeHouse L h 65 0 st0 = takeHouse L h (65 - no) no st ∧ TkOk cur.houses h no st.1 ∧ TkAt w cur.houses tb mb L.length L st wq) (fun _ j _ => 65 - (intOf j).toNat)
            case atStart => exact ⟨0, st0, Nat.zero_le _, rfl, rfl, by omega, rfl, HTO.out.start h, HTA.out⟩
            case round =>
              obtain ⟨no, ⟨l, n⟩, hno, rfl, rfl, hcn, heq, hTO2, hTA2⟩ := hrel
              dsimp only at hcn hTO2 heq
              clear HTA HTO hcI
              obtain ⟨f, hf⟩ : ∃ f, 65 - no = f + 1 := ⟨64 - no, by omega⟩
              rw [hf] at heq
              have hf2 : f = 65 - (no + 1) := by omega
              obtain ⟨v, r, hb, hrow, hpg, hown⟩ := hTA2.blk
              dsimp only at hpg hown
              have hpe := pagesAt_ents hpg
              have hl512 := hTO2.len (H := cur.houses) (by omega)
              have hrl : r.length = l.length := hpg.1
              have hposle : posOf (l.map (·.e)) h no ≤ r.length := by have := posOf_le (l.map (·.e)) h no; rw [List.length_map] at this; omega
              have hspec : ∀ (m : Nat) (p : Ent × Value), r[m]? = some p → (cmpKey p.1 h no < 0 ↔ m < posOf (l.map (·.e)) h no) := fun m p hm => posOf_spec hTO2.sorted h no m p.1 (by rw [← hpe, List.getElem?_map, hm]; rfl)
              have hcall := find_row tb v r h no (posOf (l.map (·.e)) h no) wr (cell_of_blk hb 3 rfl) hrow (by omega) hposle hspec
              rw [hitE_map, hpe] at hcall
              have hwith : ∀ (e : Ent), e.house = h → e.no = no → ∀ W, Keeps None' wr W → Calls Tryz.prog 74 #[.pointer (some ⟨tb, 0, none⟩), .agg #[.int .i64 e.house, .int .i64 e.no, .string (str e.body)]] W fun x w' => FreshRow W 121 4 (withRow r (posOf (l.map (·.e)) h no) (hitL (l.map (·.e)) (posOf (l.map (·.e)) h no) h no) (e, .slice none 0 0)).length (plCells (withRow r (posOf (l.map (·.e)) h no) (hitL (l.map (·.e)) (posOf (l.map (·.e)) h no) h no) (e, .slice none 0 0))) x w' := fun e e1 e2 W hW => by
                have := with_any W tb v r e (posOf (l.map (·.e)) h no) (cell_of_blk (hW.blk hb (fun h => h)) 3 rfl) (hrow.keep hW) (pagesAt_one hpg) (by omega) hposle (by rw [e1, e2]; exact hspec)
                rw [hitE_map, hpe, e1, e2] at this
                rw [e1, e2]
                have e3 : e.val = .agg #[.int .i64 h, .int .i64 no, .string (str e.body)] := by unfold Ent.val; rw [e1, e2]
                rw [e3] at this
                exact this
              have HFIND := Lib.hid hcall
              have HWITH := Lib.hid hwith
              have HSTEP := Lib.hid (hTO2.step hlt L)
              have HTOK := Lib.hid hTO2
              have HB := Lib.hid hb
              have HROW := Lib.hid hrow
              have HPG := Lib.hid hpg
              have HPE := Lib.hid hpe
              have HKP := Lib.hid hTA2.keeps
              have HMAP := Lib.hid hTA2.map
              have HTA2 := Lib.hid hTA2
              have HEQ := Lib.hid heq
              have htblt := lt_of_block hb
              obtain ⟨rva, rcap, rfl⟩ := hrow.shape
              have hwfh : (Lit.int .i64 (h : Int)).wf = true := WalkArith.wf_i64 (by omega)
              have hwfn : (Lit.int .i64 (no : Int)).wf = true := WalkArith.wf_i64 (by omega)
              have HF2 := Lib.hid hf2
              clear hcall hwith hb hrow hpg hpe hTA2 heq hTO2 hown hspec hf hf2
              cases hhit : hitL (l.map (·.e)) (posOf (l.map (·.e)) h no) h no with
              | false =>
                have HHIT := Lib.hid hhit
                rw [hhit] at HFIND HWITH
                cases hlp : leastP L h no with
                | none =>
                  have HDONE := Lib.hid (show takeAll L cur.entries (h + 1) = (l, n) by rw [HSU.out, HEQ.out, takeHouse_stop hhit hlp])
                  have HLP := Lib.hid hlp
                  clear hhit hlp
                  go_wp2_with (first
                    | (go_at_call 73; refine HFIND.out.mono ?_; rintro e W5 ⟨rfl, hk5⟩; have HK5 := Lib.hid hk5; clear hk5)
                    | (at_lookup; refine list_look_none rfl _ _ rfl mb L.length h no L rfl rfl (HMAP.out.keep HK5.out (fun h => h)) hwfh hwfn HLP.out ?_))
                  go_quiet (fail)
                  go_wp2
                  go_roundw
                  case rel => exact ⟨h + 1, by omega, by go_num, by rw [HDONE.out], by rw [HDONE.out]; dsimp only; omega, by rw [HDONE.out]; exact HTOK.out.start 0, by rw [HDONE.out]; exact HTA2.out.keep (by first | exact (HK5.out.alloc _).drewN _ | exact (HK5.out.alloc _).drew | exact HK5.out.alloc _)⟩
                  case measure => simp [intOf]; omega
                | some e =>
                  obtain ⟨hn64, hTN⟩ := HSTEP.out.1 e hlp
                  have heh := leastP_eq hlp
                  have he1 : e.house = (h : Int) := by rw [heh]
                  have he2 : e.no = (no : Int) := by rw [heh]
                  have HWE := Lib.hid (HWITH.out e he1 he2)
                  have hwp : 0 < (withRow r (posOf (l.map (·.e)) h no) false (e, Value.slice none 0 0)).length := by
                    rw [withRow_length _ _ _ _ hposle]
                    simp
                  have hpn := with_pages HPG.out (posOf (l.map (·.e)) h no) false e
                  have hnext : ∀ W W2 g2 cap2, Keeps None' wr W → Keeps None' W W2 → W2.ownsRow W.heap.size 121 4 (.slice (some ⟨g2, 0, none⟩) (withRow r (posOf (l.map (·.e)) h no) false (e, Value.slice none 0 0)).length cap2) (withRow r (posOf (l.map (·.e)) h no) false (e, Value.slice none 0 0)).length (plCells (withRow r (posOf (l.map (·.e)) h no) false (e, Value.slice none 0 0))) →
                      TkAt w cur.houses tb mb L.length L (withRow l (posOf (l.map (·.e)) h no) false ⟨e, []⟩, n + 1) (W2.setCell ⟨tb, 3, none⟩ (.slice (some ⟨g2, 0, none⟩) (withRow r (posOf (l.map (·.e)) h no) false (e, Value.slice none 0 0)).length cap2)) := fun W W2 g2 cap2 k1 k2 ho => by
                    have hbW := (k1.trans k2).blk HB.out (fun h => h)
                    have hgl := (ho.lt g2 rfl).1
                    have hws2 := HKP.out.size
                    have hk1s := k1.size
                    have ks : Keeps (One tb) W2 (W2.setCell ⟨tb, 3, none⟩ (.slice (some ⟨g2, 0, none⟩) (withRow r (posOf (l.map (·.e)) h no) false (e, Value.slice none 0 0)).length cap2)) := Keeps.set1 _ _ _ _
                    have ho2 := own_keep ho ks (fun b hb hc => by simp [Value.ownBlock] at hb; have hc' : b = tb := hc; omega)
                    have ho3 := own_base ho2 (base' := w.heap.size) (by omega)
                    exact ⟨(HKP.out.trans (k1.trans k2)).trans' ks (fun i hi hc => by have hc' : i = tb := hc; omega), (HMAP.out.keep (k1.trans k2) (fun h => h)).keep ks (fun hc => by have hc' : mb = tb := hc; omega), _, _, heap_setCell_same _ _ _ _ _ _ hbW, RowP.of_own ho3, hpn, fun _ => ho3⟩
                  have HNEXT := Lib.hid hnext
                  have HTN := Lib.hid hTN
                  have HLP := Lib.hid hlp
                  have HGO := Lib.hid (show takeHouse L h 65 0 st0 = takeHouse L h (65 - (no + 1)) (no + 1) (withRow l (posOf (l.map (·.e)) h no) false ⟨e, []⟩, n + 1) by rw [HEQ.out, ← HF2.out, takeHouse_put hlp (.inl hhit)]; dsimp only; rw [HHIT.out])
                  rw [HHIT.out] at HTN
                  clear hhit hlp heh hnext hpn hTN
                  obtain ⟨eh, en, eb⟩ := e
                  dsimp only at he1 he2 HWE
                  subst he1 he2
                  generalize withRow r (posOf (l.map (·.e)) h no) false (Ent.mk (h : Int) (no : Int) eb, Value.slice none 0 0) = R at *
                  go_wp2_with (first
                    | (go_at_call 73; refine HFIND.out.mono ?_; rintro e W5 ⟨rfl, hk5⟩; have HK5 := Lib.hid hk5; have hb5 := hk5.blk HB.out (fun h => h); have t3 := cell_of_blk hb5 3 rfl; have htl5 := lt_of_block hb5; clear hk5 hb5)
                    | (at_lookup; refine list_look_some rfl _ _ rfl mb L.length h no L ⟨h, no, eb⟩ rfl rfl (HMAP.out.keep HK5.out (fun h => h)) hwfh hwfn HLP.out ?_))
                  go_quiet (fail)
                  clear t3
                  go_wp2_with (first
                    | (go_at_call 74; refine (HWE.out _ (by first | exact (HK5.out.alloc _).drewN _ | exact (HK5.out.alloc _).drew | exact HK5.out.alloc _)).mono ?_; rintro x W7 ⟨v7, rfl, ho7, hk7⟩; obtain ⟨g7, cap7, cu7, rfl, -⟩ := own_block ho7 hwp; have HN7 := Lib.hid (HNEXT.out _ W7 g7 cap7 (by first | exact (HK5.out.alloc _).drewN _ | exact (HK5.out.alloc _).drew | exact HK5.out.alloc _) hk7 ho7); have hb7 := hk7.blk (Keeps.blk (S := None') (a := wr) (by first | exact (HK5.out.alloc _).drewN _ | exact (HK5.out.alloc _).drew | exact HK5.out.alloc _) HB.out (fun h => h)) (fun h => h); have t3 := cell_of_blk hb7 3 rfl; have t3f := free_of_blk hb7 3; clear hb7 hk7 ho7))
                  go_roundw
                  case rel => exact ⟨no + 1, _, by omega, by go_num, by go_num, by dsimp only; omega, HGO.out, HTN.out, HN7.out⟩
                  case measure => simp [intOf]; omega
              | true =>
                have HHIT := Lib.hid hhit
                have hposlt : posOf (l.map (·.e)) h no < r.length := by have := hitL_lt hhit; rw [List.length_map] at this; omega
                have hbodyr : ((l[posOf (l.map (·.e)) h no]?).map (·.e.body)).getD [] = (r[posOf (l.map (·.e)) h no]).1.body := by
                  have hq : (r.map (·.1))[posOf (l.map (·.e)) h no]? = (l.map (·.e))[posOf (l.map (·.e)) h no]? := by rw [HPE.out]
                  rw [List.getElem?_map, List.getElem?_map, List.getElem?_eq_getElem hposlt] at hq
                  cases hl : l[posOf (l.map (·.e)) h no]? with
                  | none => rw [hl] at hq; cases hq
                  | some p => rw [hl] at hq; simp only [Option.map_some, Option.some.injEq] at hq; simp [hq]
                rw [hhit] at HFIND HWITH
                cases hlp : leastP L h no with
                | none =>
                  have hskip := takeHouse_skip (st := (l, n)) (f := f) hhit (fun e he => by rw [hlp] at he; cases he)
                  have HGO := Lib.hid (show takeHouse L h 65 0 st0 = takeHouse L h (65 - (no + 1)) (no + 1) (l, n) by rw [HEQ.out, ← HF2.out, hskip])
                  obtain ⟨hn64, hTN⟩ := HSTEP.out.2 hhit
                  have HTN := Lib.hid hTN
                  have HLP := Lib.hid hlp
                  clear hhit hlp hskip hTN hbodyr
                  go_wp2_with (first
                    | (go_at_call 73; refine HFIND.out.mono ?_; rintro e W5 ⟨rfl, hk5⟩; have HK5 := Lib.hid hk5; clear hk5)
                    | (at_lookup; refine list_look_none rfl _ _ rfl mb L.length h no L rfl rfl (HMAP.out.keep HK5.out (fun h => h)) hwfh hwfn HLP.out ?_))
                  go_quiet (fail)
                  go_wp2
                  go_roundw
                  case rel => exact ⟨no + 1, (l, n), by omega, by go_num, rfl, by dsimp only; omega, HGO.out, HTN.out, HTA2.out.keep (by first | exact (HK5.out.alloc _).drewN _ | exact (HK5.out.alloc _).drew | exact HK5.out.alloc _)⟩
                  case measure => simp [intOf]; omega
                | some e =>
                  obtain ⟨rb, roff, rfl, hrblt, hrcap, -, -, hrbody, -⟩ := HROW.out.get (posOf (l.map (·.e)) h no) hposlt
                  have HRB := Lib.hid hrbody
                  have hposI : ((posOf (l.map (·.e)) h no : Nat) : Int) < (r.length : Int) := by omega
                  generalize hxb : (r[posOf (l.map (·.e)) h no]).1.body = xb at *
                  clear hxb hrbody
                  cases hbl : blt e.body xb with
                  | true =>
                    have hbs : Op.bytesLess (str e.body).toList (str xb).toList = true := by rw [bless_str]; exact hbl
                    obtain ⟨hn64, hTN⟩ := HSTEP.out.1 e hlp
                    have heh := leastP_eq hlp
                    have he1 : e.house = (h : Int) := by rw [heh]
                    have he2 : e.no = (no : Int) := by rw [heh]
                    have HWE := Lib.hid (HWITH.out e he1 he2)
                    have hwp : 0 < (withRow r (posOf (l.map (·.e)) h no) true (e, Value.slice none 0 0)).length := by
                      rw [withRow_length _ _ _ _ hposle]
                      simp; omega
                    have hpn := with_pages HPG.out (posOf (l.map (·.e)) h no) true e
                    have hnext : ∀ W W2 g2 cap2, Keeps None' wr W → Keeps None' W W2 → W2.ownsRow W.heap.size 121 4 (.slice (some ⟨g2, 0, none⟩) (withRow r (posOf (l.map (·.e)) h no) true (e, Value.slice none 0 0)).length cap2) (withRow r (posOf (l.map (·.e)) h no) true (e, Value.slice none 0 0)).length (plCells (withRow r (posOf (l.map (·.e)) h no) true (e, Value.slice none 0 0))) →
                        TkAt w cur.houses tb mb L.length L (withRow l (posOf (l.map (·.e)) h no) true ⟨e, []⟩, n + 1) (W2.setCell ⟨tb, 3, none⟩ (.slice (some ⟨g2, 0, none⟩) (withRow r (posOf (l.map (·.e)) h no) true (e, Value.slice none 0 0)).length cap2)) := fun W W2 g2 cap2 k1 k2 ho => by
                      have hbW := (k1.trans k2).blk HB.out (fun h => h)
                      have hgl := (ho.lt g2 rfl).1
                      have hws2 := HKP.out.size
                      have hk1s := k1.size
                      have ks : Keeps (One tb) W2 (W2.setCell ⟨tb, 3, none⟩ (.slice (some ⟨g2, 0, none⟩) (withRow r (posOf (l.map (·.e)) h no) true (e, Value.slice none 0 0)).length cap2)) := Keeps.set1 _ _ _ _
                      have ho2 := own_keep ho ks (fun b hb hc => by simp [Value.ownBlock] at hb; have hc' : b = tb := hc; omega)
                      have ho3 := own_base ho2 (base' := w.heap.size) (by omega)
                      exact ⟨(HKP.out.trans (k1.trans k2)).trans' ks (fun i hi hc => by have hc' : i = tb := hc; omega), (HMAP.out.keep (k1.trans k2) (fun h => h)).keep ks (fun hc => by have hc' : mb = tb := hc; omega), _, _, heap_setCell_same _ _ _ _ _ _ hbW, RowP.of_own ho3, hpn, fun _ => ho3⟩
                    have HNEXT := Lib.hid hnext
                    have HTN := Lib.hid hTN
                    have HLP := Lib.hid hlp
                    have HGO := Lib.hid (show takeHouse L h 65 0 st0 = takeHouse L h (65 - (no + 1)) (no + 1) (withRow l (posOf (l.map (·.e)) h no) true ⟨e, []⟩, n + 1) by rw [HEQ.out, ← HF2.out, takeHouse_put hlp (.inr (by rw [hbodyr]; exact hbl))]; dsimp only; rw [HHIT.out])
                    rw [HHIT.out] at HTN
                    clear hhit hlp hbl hbodyr heh hnext hpn hTN
                    obtain ⟨eh, en, eb⟩ := e
                    dsimp only at he1 he2 HWE
                    subst he1 he2
                    generalize withRow r (posOf (l.map (·.e)) h no) true (Ent.mk (h : Int) (no : Int) eb, Value.slice none 0 0) = R at *
                    go_wp2_with (first
                      | (go_at_call 73; refine HFIND.out.mono ?_; rintro e W5 ⟨rfl, hk5⟩; have HK5 := Lib.hid hk5; have hb5 := hk5.blk HB.out (fun h => h); have t9 : W5.cell? ⟨rb, roff + posOf (l.map (·.e)) h no * 4 + 2, none⟩ = some (.string (str xb)) := (hk5.cell (p := ⟨rb, roff + posOf (l.map (·.e)) h no * 4 + 2, none⟩) hrblt (fun h => h)).trans HRB.out; have hrb5 := Nat.lt_of_lt_of_le hrblt hk5.size; have t3 := cell_of_blk hb5 3 rfl; have htl5 := lt_of_block hb5; clear hk5 hb5)
                      | (at_lookup; refine list_look_some rfl _ _ rfl mb L.length h no L ⟨h, no, eb⟩ rfl rfl (HMAP.out.keep HK5.out (fun h => h)) hwfh hwfn HLP.out ?_))
                    go_quiet (fail)
                    clear t3 t9
                    go_wp2_with (first
                      | (go_at_call 74; refine (HWE.out _ (by first | exact (HK5.out.alloc _).drewN _ | exact (HK5.out.alloc _).drew | exact HK5.out.alloc _)).mono ?_; rintro x W7 ⟨v7, rfl, ho7, hk7⟩; obtain ⟨g7, cap7, cu7, rfl, -⟩ := own_block ho7 hwp; have HN7 := Lib.hid (HNEXT.out _ W7 g7 cap7 (by first | exact (HK5.out.alloc _).drewN _ | exact (HK5.out.alloc _).drew | exact HK5.out.alloc _) hk7 ho7); have hb7 := hk7.blk (Keeps.blk (S := None') (a := wr) (by first | exact (HK5.out.alloc _).drewN _ | exact (HK5.out.alloc _).drew | exact HK5.out.alloc _) HB.out (fun h => h)) (fun h => h); have t3 := cell_of_blk hb7 3 rfl; have t3f := free_of_blk hb7 3; clear hb7 hk7 ho7))
                    go_roundw
                    case rel => exact ⟨no + 1, _, by omega, by go_num, by go_num, by dsimp only; omega, HGO.out, HTN.out, HN7.out⟩
                    case measure => simp [intOf]; omega
                  | false =>
                    have hbs : Op.bytesLess (str e.body).toList (str xb).toList = false := by rw [bless_str]; exact hbl
                    have hskip := takeHouse_skip (st := (l, n)) (f := f) hhit (fun e' he => by rw [hlp] at he; cases he; rw [hbodyr]; exact hbl)
                    have HGO := Lib.hid (show takeHouse L h 65 0 st0 = takeHouse L h (65 - (no + 1)) (no + 1) (l, n) by rw [HEQ.out, ← HF2.out, hskip])
                    obtain ⟨hn64, hTN⟩ := HSTEP.out.2 hhit
                    have HTN := Lib.hid hTN
                    have HLP := Lib.hid hlp
                    have heh := leastP_eq hlp
                    have he1 : e.house = (h : Int) := by rw [heh]
                    have he2 : e.no = (no : Int) := by rw [heh]
                    obtain ⟨eh, en, eb⟩ := e
                    dsimp only at he1 he2 hbs
                    subst he1 he2
                    clear hhit hlp hskip hTN hbodyr hbl heh
                    go_wp2_with (first
                      | (go_at_call 73; refine HFIND.out.mono ?_; rintro e W5 ⟨rfl, hk5⟩; have HK5 := Lib.hid hk5; have hb5 := hk5.blk HB.out (fun h => h); have t9 : W5.cell? ⟨rb, roff + posOf (l.map (·.e)) h no * 4 + 2, none⟩ = some (.string (str xb)) := (hk5.cell (p := ⟨rb, roff + posOf (l.map (·.e)) h no * 4 + 2, none⟩) hrblt (fun h => h)).trans HRB.out; have hrb5 := Nat.lt_of_lt_of_le hrblt hk5.size; have t3 := cell_of_blk hb5 3 rfl; have htl5 := lt_of_block hb5; clear hk5 hb5)
                      | (at_lookup; refine list_look_some rfl _ _ rfl mb L.length h no L ⟨h, no, eb⟩ rfl rfl (HMAP.out.keep HK5.out (fun h => h)) hwfh hwfn HLP.out ?_))
                    go_quiet (fail)
                    go_wp2
                    go_roundw
                    case rel => exact ⟨no + 1, (l, n), by omega, by go_num, rfl, by dsimp only; omega, HGO.out, HTN.out, HTA2.out.keep (by first | exact (HK5.out.alloc _).drewN _ | exact (HK5.out.alloc _).drew | exact HK5.out.alloc _)⟩
                    case measure => simp [intOf]; omega
          · obtain rfl : h = cur.houses := by omega
            have HTA := Lib.hid hTA
            have HTO := Lib.hid hTO
            have HRES := Lib.hid (show takeP D cur former falls L = (if (takeAll L cur.entries cur.houses).2 = 0 then (0, 0, D, cur, former) else if (changeP D cur former (takeAll L cur.entries cur.houses).1).1 ≠ 0 then (0, changeP D cur former (takeAll L cur.entries cur.houses).1) else ((takeAll L cur.entries cur.houses).2, changeP D cur former (takeAll L cur.entries cur.houses).1)) by unfold takeP; rw [if_neg (by rw [HDF.out]; simp)])
            have hcI : ((takeAll L cur.entries cur.houses).2 : Int) ≤ 600 := by omega
            have HFIT := Lib.hid (fun hn => take_fit HCB.out.ok HT.out L hn)
            clear hTA hTO
            generalize takeAll L cur.entries cur.houses = st at *
            obtain ⟨l, n⟩ := st
            dsimp only at hcnt hcI HRES HTO HFIT
            obtain ⟨v, r, hb, hrow, hpg, hown⟩ := HTA.out.blk
            dsimp only at hpg hown
            have t3 := cell_of_blk hb 3 rfl
            obtain ⟨rva, rcap, rfl⟩ := hrow.shape
            by_cases hn0 : n = 0
            · subst hn0
              have HP := Lib.hid (show takeP D cur former falls L = (0, 0, D, cur, former) by rw [HRES.out]; rfl)
              clear hb hrow hpg hown
              go_wp2_with fail
              go_ret2
              refine ⟨by rw [HP.out]; rfl, fp, ?_⟩
              rw [HP.out]
              exact HSAME.out _ HTA.out.keeps
            · have hnI : ((n : Int) == 0) = false := by simpa using hn0
              have hfit : Fit l := HFIT.out hn0
              have hch := change_any w wr s d D fp cur former falls _ r l HTA.out.keeps HS.out HD.out h2 hr hfit hpg (hown (by omega))
              have HCH := Lib.hid hch
              have HP := Lib.hid (show takeP D cur former falls L = (if (changeP D cur former l).1 ≠ 0 then (0, changeP D cur former l) else (n, changeP D cur former l)) by rw [HRES.out, if_neg hn0])
              clear hb hrow hpg hown hch hfit hn0
              generalize changeP D cur former l = R at *
              obtain ⟨c, D', S', F'⟩ := R
              dsimp only at HCH HP
              by_cases hc : c = 0
              · subst hc
                have HP2 := Lib.hid (show takeP D cur former falls L = (n, 0, D', S', F') by rw [HP.out]; rfl)
                go_wp2_with (first | (go_at_call 75; refine HCH.out.mono ?_; rintro r W8 ⟨rfl, fp8, hs8⟩; have HS8 := Lib.hid hs8; clear hs8))
                go_ret2
                refine ⟨by rw [HP2.out]; rfl, fp8, ?_⟩
                rw [HP2.out]
                exact HS8.out
              · have HP2 := Lib.hid (show takeP D cur former falls L = (0, c, D', S', F') by rw [HP.out, if_pos hc])
                have hcb : (c != 0) = true := by simpa using hc
                clear hc
                go_wp2_with (first | (go_at_call 75; refine HCH.out.mono ?_; rintro r W8 ⟨rfl, fp8, hs8⟩; have HS8 := Lib.hid hs8; clear hs8))
                go_ret2
                refine ⟨by rw [HP2.out]; rfl, fp8, ?_⟩
                rw [HP2.out]
                exact HS8.out
end Go.Proofs.YtlbaagjbehdmgaaGreat
