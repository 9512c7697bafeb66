/- Store.change: how many pages it needs. -/
import Derived.Deep.RegionHeld3
import Derived.Test.YtlbaagjbehdmgaaGreatM20
namespace Go.Proofs.YtlbaagjbehdmgaaGreat
open Go.RowKit

/-- what the walk of change is in, once the free pages are known: the old world w0, the box of the free pages, the row of entries -/
structure ChAt (w0 w : World) (bx fb g cap fcap : Nat) (r : List (Ent × Value)) (free : List Nat) (wr : World) : Prop where
  keeps : Keeps None' w0 wr
  box : wr.heap[bx]? = some (.cells #[.slice (some ⟨fb, 0, none⟩) free.length fcap] 47 (0, 0))
  row : wr.ownsRow w0.heap.size 121 4 (.slice (some ⟨g, 0, none⟩) r.length cap) r.length (plCells r)

/-- what the store's call leaves -/
structure SStep (w : World) (s d : Nat) (fp : Nat → Prop) (w' : World) (D' : Dsk) (cur' : St) (former' : Option St) (falls : Int) (fp' : Nat → Prop) : Prop where
  store : IsStore w' s d cur' former' falls
  disk : IsDisk w' d D' fp'
  keeps : Keeps (fun k => fp k ∨ k = s) w w'
  fresh : ∀ k, fp' k → fp k ∨ w.heap.size ≤ k
def SRet (w : World) (s d : Nat) (fp : Nat → Prop) (v : Value) (D' : Dsk) (cur' : St) (former' : Option St) (falls : Int) (e : Ending) (w' : World) : Prop :=
  e = .returned v ∧ ∃ fp', SStep w s d fp w' D' cur' former' falls fp'

theorem nil_iff {w : World} {v : Value} {l : List Nat} (h : RInts w v l) : ∃ a cap, v = .slice a l.length cap ∧ (a = none ↔ l = []) ∧ (l = [] → cap = 0) := by
  rcases h with ⟨rfl, rfl⟩ | ⟨b, off, cap, cs, rfl, ⟨hn, _⟩, _⟩
  · exact ⟨none, 0, rfl, by simp, fun _ => rfl⟩
  · exact ⟨_, cap, rfl, by simp [hn], fun h => absurd h hn⟩

attribute [local go_sem ↓] buildWr_eq sliceWr_eq
theorem build_state (w : World) (a h n : Int) (x : Option Addr) (m c : Nat) : (Instr.build 119 #[(0, .int .i64 a), (1, .int .i64 h), (2, .int .u64 n), (3, .slice x m c)]).run Tryz.prog w = .ok (.agg #[.int .i64 a, .int .i64 h, .int .u64 n, .slice x m c, .slice none 0 0]) w := by kernel_rfl

set_option maxRecDepth 100000 in
set_option maxHeartbeats 2000000 in
theorem change_any (w0 w : World) (s d : Nat) (D : Dsk) (fp : Nat → Prop) (cur : St) (former : Option St) (falls : Int) (v : Value) (r : List (Ent × Value)) (l : List Placed)
    (hK : Keeps None' w0 w) (hs : IsStore w0 s d cur former falls) (hd : IsDisk w0 d D fp) (h2 : 2 ≤ D.now.length) (hr : D.writes.length ≤ 20000) (hf : Fit l) (hp : PagesAt w0 r l) (hown : w.ownsRow w0.heap.size 121 4 v r.length (plCells r)) :
    Calls Tryz.prog 75 #[.pointer (some ⟨s, 0, none⟩), v] w fun e w' => SRet w0 s d fp (.int .i64 (changeP D cur former l).1) (changeP D cur former l).2.1 (changeP D cur former l).2.2.1 (changeP D cur former l).2.2.2 falls e w' := by
  have hsW : IsStore w s d cur former falls := by
    obtain ⟨cb, fv, h⟩ := hs
    exact ⟨cb, fv, h.keep hK (spares_none _) (fun h => h)⟩
  have hdW : IsDisk w d D fp := hd.keep hK (fun _ _ h => h)
  have HFREE := Lib.hid (free_any w s d D fp cur former falls hsW hdW h2)
  obtain ⟨g, cap, cu, rfl, _⟩ := own_block hown (by rw [hp.1]; exact List.length_pos_iff.2 hf.some)
  have HS := Lib.hid hs
  have HD := Lib.hid hd
  have HOWN := Lib.hid hown
  have HP := Lib.hid hp
  have HF := Lib.hid hf
  have HKW := Lib.hid hK
  have hlen : r.length = l.length := hp.1
  have hfew := hf.few
  have hfree : freeOf D cur former = freeTo (usedOf cur former) D.now.length := rfl
  have hfl : (freeTo (usedOf cur former) D.now.length).length ≤ 1024 := by
    have := freeTo_le (usedOf cur former) D.now.length
    have : D.now.length ≤ 1024 := by obtain ⟨_, _, _, hD, _⟩ := hd; exact hD.ok.few
    omega
  have hfx : ∀ x ∈ freeTo (usedOf cur former) D.now.length, x < 1024 := fun x hx => by
    have : D.now.length ≤ 1024 := by obtain ⟨_, _, _, hD, _⟩ := hd; exact hD.ok.few
    have := List.mem_range.1 (List.mem_filter.1 hx).1
    omega
  have HFX := Lib.hid hfx
  generalize freeTo (usedOf cur former) D.now.length = free at *
  have HFREE0 := Lib.hid hfree
  clear hfree hsW hdW hs hd hp hf hK hown hfx
  go_enter Tryz.func75, Tryz.ntmps75
  go_wp2_with fail
  refine HFREE.out.mono ?_
  rintro e W1 ⟨fv, rfl, hfown, hk1⟩
  obtain ⟨fa, fcap, rfl, -⟩ := ISlice.of_own hfown
  have hown1 := own_keep HOWN.out hk1 (fun _ _ h => h)
  have hK1 := HKW.out.trans hk1
  have HK1 := Lib.hid hK1
  have HFO := Lib.hid hfown
  have HO1 := Lib.hid hown1
  have hW1s : w0.heap.size ≤ W1.heap.size := hK1.size
  clear HFREE HOWN hk1 hfown hown1 hK1
  have hrl : (r.length : Int) ≤ 1024 := by omega
  go_wp2_with fail
  have hKb : Keeps None' W1 (W1.alloc (.cells #[.slice fa free.length fcap] 47)) := (Keeps.refl None' W1).alloc _
  have hbox := heap_alloc_new W1 (.cells #[.slice fa free.length fcap] 47)
  have HFb := Lib.hid (own_keep HFO.out hKb (fun _ _ h => h))
  have HOb := Lib.hid (own_keep HO1.out hKb (fun _ _ h => h))
  have HKb := Lib.hid (HK1.out.trans hKb)
  have HBX := Lib.hid hbox
  generalize hWb : W1.alloc (.cells #[.slice fa free.length fcap] 47) = Wb at *
  clear hWb hKb hbox HFO HO1 HK1
  go_loopw [6, 25] (fun n i wr => ∃ k : Nat, k ≤ l.length ∧ i = .int .i64 k ∧ n = .int .i64 ((idxMany l + needTo l k : Nat) : Int) ∧ Keeps None' Wb wr) (fun _ i _ => l.length - (intOf i).toNat)
  case atStart => exact ⟨0, Nat.zero_le _, rfl, by simp [needTo, idxMany]; omega, Keeps.refl _ _⟩
  case round =>
    obtain ⟨k, hk, rfl, rfl, hkr⟩ := hrel
    by_cases hkl : k < l.length
    · have hkr' : k < r.length := by omega
      obtain ⟨b', off', hba, hblt, hcap, d0, d1, d2, d3⟩ := (RowP.of_own (own_keep HOb.out hkr (fun _ _ h => h))).get k hkr'
      injection hba with hba
      injection hba with e1 e2
      subst e1; subst e2
      rw [Nat.zero_add] at d0 d1 d2 d3
      have hpk := HP.out.2 k r[k] l[k] (by simp [hkr']) (by simp [hkl])
      have hsucc := needTo_succ l k l[k] (by simp [hkl])
      have hvk := HF.out.each _ (List.getElem_mem hkl)
      have hnle := needTo_le l (fun p hp => (HF.out.each p hp).1) k hk
      generalize r[k] = x at *
      generalize l[k] = p at *
      obtain ⟨xe, xv⟩ := x
      dsimp only at *
      obtain ⟨rfl, hri⟩ := hpk
      obtain ⟨ap, capp, rfl, hnil, _⟩ := nil_iff hri
      have hpc := fun W => pieces_any p.e hvk.1 W
      have HPC := Lib.hid hpc
      have hnp := npieces_le p.e hvk.1
      have hkI : (k : Int) < (r.length : Int) := by omega
      have hix : idxMany l ≤ 1024 := by unfold idxMany; omega
      have HKR := Lib.hid hkr
      clear hri hpc hkr
      by_cases hpg : p.pages = []
      · have hap := hnil.2 hpg
        subst hap
        have hq : ∀ W : World, (binOp .eql 47 (.slice none p.pages.length capp) (.slice none 0 0)).run Tryz.prog W = .ok (.bool true) W := fun W => Lib.run_eql_slice_nil W _ _ none p.pages.length capp 0 0 Tryz.underlying47
        have ha : asks p = npieces p.e := by simp [asks, hpg]
        rw [ha] at hsucc
        have HSU := Lib.hid hsucc
        clear ha hsucc hpg hnil
        go_wp2_with (first | (refine (HPC.out _).mono ?_; rintro e W4 ⟨rfl, hk4⟩))
        have hkn := (HKR.out.alloc (.cells #[.int .i64 p.e.house, .int .i64 p.e.no, .string (str p.e.body), .slice none p.pages.length capp] 121)).trans hk4
        have HSU2 := HSU.out
        go_roundw
        case rel => exact ⟨k + 1, by omega, by go_num, by rw [HSU2]; go_num, hkn⟩
        case measure => simp [intOf]; omega
      · obtain ⟨ab, rfl⟩ : ∃ ab, ap = some ab := by
          cases ap with
          | none => exact absurd (hnil.1 rfl) hpg
          | some ab => exact ⟨ab, rfl⟩
        have hq : ∀ W : World, (binOp .eql 47 (.slice (some ab) p.pages.length capp) (.slice none 0 0)).run Tryz.prog W = .ok (.bool false) W := fun W => Lib.run_eql_slice_nil W _ _ (some ab) p.pages.length capp 0 0 Tryz.underlying47
        have ha : asks p = 0 := by simp [asks, hpg]
        rw [ha] at hsucc
        have HSU := Lib.hid hsucc
        clear ha hsucc hpg hnil
        go_wp2
        have hkn := HKR.out.alloc (.cells #[.int .i64 p.e.house, .int .i64 p.e.no, .string (str p.e.body), .slice (some ab) p.pages.length capp] 121)
        have HSU2 := HSU.out
        go_roundw
        case rel => exact ⟨k + 1, by omega, by go_num, by rw [HSU2]; go_num, hkn⟩
        case measure => simp [intOf]; omega
    · obtain rfl : k = l.length := by omega
      have hix : idxMany l ≤ 1024 := by unfold idxMany; omega
      have hnle := needTo_le l (fun p hp => (HF.out.each p hp).1) l.length (Nat.le_refl _)
      have hneed : needOf l = idxMany l + needTo l l.length := rfl
      have HKR := Lib.hid (HKb.out.trans hkr)
      have HBR := Lib.hid (hkr.blk HBX.out (fun h => h))
      have HFR := Lib.hid (own_keep HFb.out hkr (fun _ _ h => h))
      have HOR := Lib.hid (own_keep HOb.out hkr (fun _ _ h => h))
      clear hkr HBX HFb HOb HKb
      obtain ⟨cb, fv, hS⟩ := HS.out
      have hSr := hS.keep HKR.out (spares_none _) (fun h => h)
      have cs0 := hSr.c0
      have cbx := cell_of_blk HBR.out 0 rfl
      obtain ⟨ev0, iv0, hC⟩ := hSr.cur
      have cc0 := hC.c0
      have cc1 := hC.c1
      have cc2 := hC.c2
      have hg63 := hC.ok.gen
      have hC0' := hC.ok
      clear hS hSr hC
      by_cases hfull : free.length < needOf l
      · have hP : changeP D cur former l = (92, D, cur, former) := by simp [changeP, HFREE0.out, hfull]
        have HPP := Lib.hid hP
        clear hP
        rw [hneed] at hfull
        have hfI : (free.length : Int) < (idxMany l : Int) + (needTo l l.length : Int) := by omega
        go_wp2
        go_ret
        refine ⟨by rw [HPP.out]; rfl, fp, ?_⟩
        rw [HPP.out]
        refine ⟨?_, HD.out.keep HKR.out (fun _ _ h => h), HKR.out.mono (fun _ _ h => h.elim), fun _ h => .inl h⟩
        obtain ⟨cb, fv, hS⟩ := HS.out
        exact ⟨cb, fv, hS.keep HKR.out (spares_none _) (fun h => h)⟩
      have hfI : ¬ ((free.length : Int) < (idxMany l : Int) + (needTo l l.length : Int)) := by omega
      by_cases hgen : cur.gen = 9223372036854775807
      · have hP : changeP D cur former l = (92, D, cur, former) := by simp [changeP, HFREE0.out, hgen]
        have HPP := Lib.hid hP
        clear hP
        rw [hgen] at cc2
        clear hgen
        go_wp2
        go_ret
        refine ⟨by rw [HPP.out]; rfl, fp, ?_⟩
        rw [HPP.out]
        refine ⟨?_, HD.out.keep HKR.out (fun _ _ h => h), HKR.out.mono (fun _ _ h => h.elim), fun _ h => .inl h⟩
        obtain ⟨cb, fv, hS⟩ := HS.out
        exact ⟨cb, fv, hS.keep HKR.out (spares_none _) (fun h => h)⟩
      have hgI : ((cur.gen : Int) == 9223372036854775807) = false := by rw [beq_eq_false_iff_ne]; omega
      go_wp2_with fail
      have hat := hC0'.at_
      have hh8 := hC0'.houses
      have hbst := build_state
      have hw1 : IntKind.i64.wrap (1 - (cur.at_ : Int)) = ((1 - cur.at_ : Nat) : Int) := (IntWalk.i64_in _ (by omega)).trans (by omega)
      have hw2 : IntKind.u64.wrap ((cur.gen : Int) + 1) = ((cur.gen + 1 : Nat) : Int) := (IntWalk.u64_in _ (by omega)).trans (by omega)
      have ds0 : wr.drew.cell? ⟨s, 0, none⟩ = _ := cs0
      have dc0 : wr.drew.cell? ⟨cb, 0, none⟩ = _ := cc0
      have dc1 : wr.drew.cell? ⟨cb, 1, none⟩ = _ := cc1
      have dc2 : wr.drew.cell? ⟨cb, 2, none⟩ = _ := cc2
      refine wp_region_still_tail 25 (by kernel_rfl) (by kernel_rfl) ?_
      simp only [List.take_succ_cons, List.take_zero, List.drop_succ_cons, List.drop_zero]
      iterate 25 still_step
      refine wpStill_nil ?_
      change wpList _ _ _ _ _ wr.drew
      clear ds0 dc0 dc1 dc2 hw1 hw2
      go_wp2_with fail
      obtain ⟨wz, hwz⟩ : ∃ wz, wz = wr := ⟨_, rfl⟩
      subst hwz
      have hl1 : 1 ≤ l.length := List.length_pos_iff.2 HF.out.some
      have hfpos : 0 < free.length := by unfold idxMany at hix hneed; unfold needOf at hfull; unfold idxMany at hfull; omega
      obtain ⟨fb, fcap', curF, hfv, hfb, hfc, -⟩ := own_block HFR.out hfpos
      injection hfv with hfa _ hfcap
      subst hfa; subst hfcap
      have h0 : ∀ W, Keeps None' wz W → W.heap[wz.heap.size]? = some (.cells #[.int .i64 ((1 - cur.at_ : Nat) : Int), .int .i64 (cur.houses : Int), .int .u64 ((cur.gen + 1 : Nat) : Int), .slice (some ⟨g, 0, none⟩) l.length cap, .slice none 0 0] 119 (0, 0)) → wz.heap.size ≤ W.heap.size →
          Ch2At w0 l r free W1.heap.size fb g cap fcap wz.heap.size wz.heap.size w.heap.size #[.int .i64 ((1 - cur.at_ : Nat) : Int), .int .i64 (cur.houses : Int), .int .u64 ((cur.gen + 1 : Nat) : Int), .slice (some ⟨g, 0, none⟩) l.length cap, .slice none 0 0] 0 0 (.slice none 0 0) W := fun W hk ht hsz => by
        refine ⟨HKR.out.trans hk, ht, by rw [rowTo_zero]; exact own_keep HOR.out hk (fun _ _ h => h), World.ownsRow_nil _ _ _ _, ⟨0, fcap, ?_, ?_, ?_⟩, own_keep HFR.out hk (fun _ _ h => h), hsz, ?_⟩
        · have := hk.blk HBR.out (fun h => h)
          simpa [needTo] using this
        · simpa [needTo] using hfc
        · intro _; simp [needTo]
        · exact ⟨HKR.out.size, hW1s⟩
      refine gen_wp (fun W => Ch2At w0 l r free W1.heap.size fb g cap fcap wz.heap.size wz.heap.size w.heap.size #[.int .i64 ((1 - cur.at_ : Nat) : Int), .int .i64 (cur.houses : Int), .int .u64 ((cur.gen + 1 : Nat) : Int), .slice (some ⟨g, 0, none⟩) l.length cap, .slice none 0 0] 0 0 (.slice none 0 0) W) (h0 _ ?_ ?_ ?_) ?_
      · exact ((Keeps.refl None' wz).drew).alloc _
      · exact heap_alloc_new wz.drew _
      · simp
      rintro Wc hC0
      clear h0
      have hTB0 := HKR.out.size
      generalize hTB : wz.heap.size = tb at *
      generalize hBXX : W1.heap.size = bx at *
      clear hTB hBXX
      have hfullN : needOf l ≤ free.length := by omega
      have HFN := Lib.hid hfullN
      clear hfull hfI hgI cs0 cbx cc0 cc1 cc2 hfc
      generalize hST : (#[.int .i64 ((1 - cur.at_ : Nat) : Int), .int .i64 (cur.houses : Int), .int .u64 ((cur.gen + 1 : Nat) : Int), .slice (some ⟨g, 0, none⟩) l.length cap, .slice none 0 0] : Array Value) = st at *
      have HST := Lib.hid hST
      clear hST
      go_loopw [11, 81] (fun v i wv => ∃ k : Nat, k ≤ l.length ∧ i = .int .i64 k ∧ Ch2At w0 l r free bx fb g cap fcap tb tb w.heap.size st k k v wv) (fun _ i _ => l.length - (intOf i).toNat)
      case atStart => exact ⟨0, Nat.zero_le _, rfl, hC0⟩
      case round =>
        obtain ⟨k, hk, rfl, hA⟩ := hrel
        clear hC0
        by_cases hkl : k < l.length
        · have hkr' : k < r.length := by omega
          obtain ⟨b', off', hba, hblt, hcap, d0, d1, d2, d3⟩ := (RowP.of_own (by have := hA.row; rwa [← rowTo_length r l fb k] at this)).get k (by rw [rowTo_length]; exact hkr')
          injection hba with hba
          injection hba with e1 e2
          subst e1; subst e2
          rw [Nat.zero_add] at d0 d1 d2 d3
          have hrk : (rowTo r l fb k)[k]'(by rw [rowTo_length]; exact hkr') = r[k] := by
            have := rowTo_get r l fb k r[k] (by simp [hkr'])
            rw [List.getElem?_eq_getElem (by rw [rowTo_length]; exact hkr')] at this
            exact Option.some.inj this
          rw [hrk] at d0 d1 d2 d3
          have hxk : r[k]? = some r[k] := by simp [hkr']
          have hpl : l[k]? = some l[k] := by simp [hkl]
          have hpk := HP.out.2 k r[k] l[k] hxk hpl
          have hsucc := needTo_succ l k l[k] hpl
          have hmono := needTo_mono l (k + 1) l.length (by omega)
          have hvk := HF.out.each _ (List.getElem_mem hkl)
          clear hrk
          generalize r[k] = x at *
          generalize l[k] = p at *
          obtain ⟨xe, xv⟩ := x
          dsimp only at *
          obtain ⟨rfl, hri⟩ := hpk
          have hkI : (k : Int) < (l.length : Int) := by omega
          have HA := Lib.hid hA
          have HXK := Lib.hid hxk
          have HPL := Lib.hid hpl
          have hnp := npieces_le p.e hvk.1
          obtain ⟨o, c, hbx, hcc, hoo⟩ := hA.box
          obtain ⟨cg, hcg⟩ := own_type hA.row (b := g) rfl
          have hgb : g ≠ bx := blk_ne hcg hbx (by decide)
          have f3 := free_of_blk hcg (k * 4 + 3)
          clear hA hxk hpl
          by_cases hpg : p.pages = []
          · have hxv : xv = .slice none 0 0 := by
              rcases hri with ⟨h, _⟩ | ⟨_, _, _, _, _, ⟨h, _⟩, _⟩
              · exact h
              · exact absurd hpg h
            subst hxv
            have hq : ∀ W : World, (binOp .eql 47 (.slice none 0 0) (.slice none 0 0)).run Tryz.prog W = .ok (.bool true) W := fun W => Lib.run_eql_slice_nil W _ _ none 0 0 0 0 Tryz.underlying47
            rw [show asks p = npieces p.e by simp [asks, hpg]] at hsucc
            have hfit : npieces p.e ≤ free.length - needTo l k := by unfold needOf at hfullN; omega
            have HPC := Lib.hid (fun W => pieces_any p.e hvk.1 W)
            have htk := fun (W : World) (hk : Keeps None' wr W) => take_any W bx fb o (free.length - needTo l k) c (npieces p.e) (hk.blk hbx (fun h => h)) hfit hcc
            have HTK := Lib.hid htk
            have HPG := Lib.hid hpg
            clear htk hpg hri
            go_upto_region 20 with (first | (refine (HPC.out _).mono ?_; rintro e W4 ⟨rfl, hk4⟩; have g3 := (hk4.cell (p := ⟨g, k * 4 + 3, none⟩) hblt (fun h => h)).trans d3; have gf := (hk4.frozen (p := ⟨g, k * 4 + 3, none⟩) hblt (fun h => h)).trans f3; have hT4 := HTK.out W4 hk4; have HT4 := Lib.hid hT4; have HK4 := Lib.hid hk4; clear hT4 hk4 HTK HPC) | (refine HT4.out.mono ?_; rintro e W5 ⟨rfl, hW5⟩; have HW5 := Lib.hid hW5; clear HT4))
            refine gen_wp (fun W => Ch2At w0 l r free bx fb g cap fcap tb tb w.heap.size st (k + 1) k u11 W) ?_ ?_
            · have hg := (HA.out.keep HK4.out).give HPL.out HPG.out HXK.out (Nat.le_trans hmono (by unfold needOf at hfullN; omega)) (HK4.out.blk hbx (fun h => h)) hcc hoo
              have ho : o = needTo l k := hoo (by have := npieces_pos p.e; omega)
              subst ho
              exact hg
            rintro W6 hB
            clear hbx hcg f3 g3 gf d0 d1 d2 d3 hblt hcap hq
            have hrowk : (rowTo r l fb (k + 1))[k]? = some (p.e, Value.slice (some ⟨fb, needTo l k, none⟩) (npieces p.e) (npieces p.e)) := by
              rw [rowTo_hit r l fb k p _ HPL.out HXK.out HPG.out, List.getElem?_set, if_pos rfl, rowTo_length, if_pos hkr']
            have hklr : k < (rowTo r l fb (k + 1)).length := by rw [rowTo_length]; exact hkr'
            obtain ⟨b', off', hba, hblt, hcap, d0, d1, d2, d3⟩ := (RowP.of_own (by have := hB.row; rwa [← rowTo_length r l fb (k + 1)] at this)).get k hklr
            injection hba with hba
            injection hba with e1 e2
            subst e1; subst e2
            have hrk := Option.some.inj ((List.getElem?_eq_getElem hklr).symm.trans hrowk)
            rw [hrk] at d0 d1 d2 d3
            rw [Nat.zero_add] at d0 d1 d2 d3
            dsimp only at d0 d1 d2 d3
            clear hrk hrowk hklr
            have hRI : RInts W6 (.slice (some ⟨fb, needTo l k, none⟩) (npieces p.e) (npieces p.e)) ((free.drop (needTo l k)).take (npieces p.e)) := ri_free hB.free _ _ (by unfold needOf at hfullN; omega) (npieces_pos p.e)
            have hwr := writes_any p.e ((free.drop (needTo l k)).take (npieces p.e)) (.slice (some ⟨fb, needTo l k, none⟩) (npieces p.e) (npieces p.e)) W6 hvk.1 hRI (by rw [List.length_take, List.length_drop]; omega) (fun x hx => by have := HFX.out x (List.mem_of_mem_drop (List.mem_of_mem_take hx)); omega)
            have HWR := Lib.hid hwr
            have HB := Lib.hid hB
            clear hwr hRI hB
            unfold placedVal at HWR
            obtain ⟨i0, hi, hz0, hz1, hz2⟩ := info_parts info_write3
            have hwl := newWr_length l free (fun p hp => (HF.out.each p hp).1) k (by omega)
            have hpw : (pieceWrites p.e ((free.drop (needTo l k)).take (npieces p.e))).length ≤ 4 := by rw [pieceWrites_length, List.length_take]; omega
            obtain ⟨nh1, nh2⟩ := newWr_hit2 l free k p HPL.out HPG.out
            have NH1 := Lib.hid nh1
            have NH2 := Lib.hid nh2
            have HPW := Lib.hid hpw
            clear nh1 nh2 hpw hnp hsucc hmono
            generalize pieceWrites p.e ((free.drop (needTo l k)).take (npieces p.e)) = pw at *
            generalize hNW : newWr l free k = nw at *
            have HNW := Lib.hid hNW
            clear hNW
            go_wp2_with (first | (refine HWR.out.mono ?_; rintro e W7 ⟨v7, rfl, hown7, hk7⟩; have HO7 := Lib.hid hown7; have HC7 := Lib.hid (HB.out.keep hk7); have hws : tb ≤ W7.heap.size := HC7.out.size; clear hown7 hk7) | (at_builtin; refine list_append_rowsG rfl _ _ _ rfl tb W6.heap.size 110 i0 (.agg (#[.int .i64 0] ++ bvs (zeros 64))) 65 72 Tryz.underlying99 hi hz0 hz1 hz2 (by simp [Value.cells, zeros]) (by decide) u11 v7 nw.length pw.length (writeCells nw) (writeCells pw) rfl (by have := HC7.out.writes; rw [HNW.out] at this; exact this) rfl HO7.out (writeCells_one _) (by have := HPW.out; unfold maxLen; omega) (by have := HPW.out; omega) hws ?_; intro v8 W8 hown8 hgrow8))
            have hC8 := HC7.out.wrote (j' := k + 1) (by rw [NH1.out, NH2.out]; exact hown8) hgrow8
            clear hown8 hgrow8 HC7 HB HO7
            go_roundw
            case rel => exact ⟨k + 1, by omega, by go_num, hC8⟩
            case measure => simp [intOf]; omega
          · obtain ⟨ap, capp, rfl, hnil, _⟩ := nil_iff hri
            obtain ⟨ab, rfl⟩ : ∃ ab, ap = some ab := by
              cases ap with
              | none => exact absurd (hnil.1 rfl) hpg
              | some ab => exact ⟨ab, rfl⟩
            have hq : ∀ W : World, (binOp .eql 47 (.slice (some ab) p.pages.length capp) (.slice none 0 0)).run Tryz.prog W = .ok (.bool false) W := fun W => Lib.run_eql_slice_nil W _ _ (some ab) p.pages.length capp 0 0 Tryz.underlying47
            have hsk := HA.out.skip HPL.out hpg
            have HSK := Lib.hid hsk
            clear hsk hnil hpg hri hsucc hmono hbx hcg
            go_wp2
            go_roundw
            case rel => exact ⟨k + 1, by omega, by go_num, HSK.out⟩
            case measure => simp [intOf]; omega
        · obtain rfl : k = l.length := by omega
          have HA := Lib.hid hA
          clear hA hk hkl
          obtain ⟨o, c, hbx, hcc, hoo⟩ := HA.out.box
          have hidx : ((l.length : Int) + 26 - 1) / 26 = ((idxMany l : Nat) : Int) := by unfold idxMany; omega
          have hneed2 : needOf l = idxMany l + needTo l l.length := rfl
          have hi1 : 0 < idxMany l := by unfold idxMany; omega
          have htk := take_any wr bx fb o (free.length - needTo l l.length) c (idxMany l) hbx (by omega) hcc
          rw [hoo (by omega), ← hidx] at htk
          have HTK := Lib.hid htk
          have hdone := HA.out.done (vv := .slice (some ⟨fb, offTo (needTo l l.length) c (idxMany l), none⟩) (free.length - needTo l l.length - idxMany l) (c - idxMany l)) HST.out HF.out HFN.out HP.out hC0' HFX.out (by omega) hTB0 hbx
          have HDONE := Lib.hid hdone
          have htbx : tb ≠ bx := blk_ne HA.out.thenB hbx (by decide)
          have hthen := HA.out.thenB
          rw [← HST.out] at hthen
          have f4 := free_of_blk hthen 4
          have c4 := cell_of_blk hthen 4 (v := .slice none 0 0) rfl
          clear htk hdone hbx hcc hoo hthen hidx
          go_upto_region 23 with (first | (refine HTK.out.mono ?_; rintro e W2 ⟨rfl, rfl⟩))
          refine gen_wp (fun W => Keeps None' w0 W ∧ IsState W tb (cur.next l free) ∧ W.ownsRow tb 110 65 u11 (newWr l free l.length).length (writeCells (newWr l free l.length)) ∧ tb ≤ W.heap.size) HDONE.out ?_
          rintro W2 ⟨hk2, hS2, hw2, hz2⟩
          clear HDONE HTK f4 c4 HA HBR HFR HOR
          have hcP : changeP D cur former l = (if (D.all (newWr l free l.length ++ idxWrites (cur.next l free))).1 ≠ 0 then ((D.all (newWr l free l.length ++ idxWrites (cur.next l free))).1, (D.all (newWr l free l.length ++ idxWrites (cur.next l free))).2, cur, former) else
              if ((D.all (newWr l free l.length ++ idxWrites (cur.next l free))).2.all [((cur.next l free).at_, sealP (cur.next l free).at_ (rootRaw (cur.next l free)))]).1 ≠ 0 then (((D.all (newWr l free l.length ++ idxWrites (cur.next l free))).2.all [((cur.next l free).at_, sealP (cur.next l free).at_ (rootRaw (cur.next l free)))]).1, ((D.all (newWr l free l.length ++ idxWrites (cur.next l free))).2.all [((cur.next l free).at_, sealP (cur.next l free).at_ (rootRaw (cur.next l free)))]).2, cur, former) else
              (0, ((D.all (newWr l free l.length ++ idxWrites (cur.next l free))).2.all [((cur.next l free).at_, sealP (cur.next l free).at_ (rootRaw (cur.next l free)))]).2, cur.next l free, some cur)) := by
            unfold changeP
            rw [HFREE0.out]
            dsimp only
            rw [if_neg (fun h => h.elim (fun h => by omega) hgen)]
          have HCP := Lib.hid hcP
          have hixl := next_index (cur := cur) hfullN
          have hixl2 : (cur.next l free).index.length = idxMany l := by
            rw [hixl]
            simp only [St.next, given_length, idxMany]
          have hixn : (idxWrites (cur.next l free)).length ≤ 1024 := by
            rw [idxWrites_length]
            obtain ⟨_, _, h⟩ := hS2
            exact h.ok.index
          have h64 : ∀ x ∈ newWr l free l.length ++ idxWrites (cur.next l free), x.2.length = 64 := fun x hx => by
            rcases List.mem_append.1 hx with h | h
            · exact newWr_64 l free _ x h
            · exact idxWrites_64 _ x h
          have hwl := newWr_length l free (fun p hp => (HF.out.each p hp).1) l.length (Nat.le_refl _)
          have hrP := rootRaw_length (cur.next l free)
          have hsP := sealP_length (cur.next l free).at_ _ hrP
          have HHI := Lib.hid (fun W (k : Keeps None' W2 W) => indexWrites_any tb (cur.next l free) W (hS2.keep k (spares_none _)) hixl)
          have HS2 := Lib.hid hS2
          have HW2 := Lib.hid hw2
          have HK2 := Lib.hid hk2
          have H64 := Lib.hid h64
          have hcs2 : W2.drew.cell? ⟨s, 2, none⟩ = some (.pointer (some ⟨d, 0, none⟩)) := by
            obtain ⟨cb, fv, hS⟩ := HS.out
            exact (hS.keep hk2 (spares_none _) (fun h => h)).c2
          clear hcP hixl hS2 hw2 hk2 h64 hrP
          generalize hNX : cur.next l free = nx at *
          generalize hNW : newWr l free l.length = nw at *
          have HNX := Lib.hid hNX
          clear hNX hNW
          obtain ⟨i0, hi, hz0, hz1, hz2'⟩ := info_parts info_write3
          have hcs3 : W2.cell? ⟨s, 2, none⟩ = some (.pointer (some ⟨d, 0, none⟩)) := hcs2
          have hslt : s < w0.heap.size := by obtain ⟨cb, fv, hS⟩ := HS.out; exact lt_of_block hS.blk
          have hsfp : ¬ fp s := by obtain ⟨cb, fv, hS⟩ := HS.out; exact HD.out.not_of_type hS.blk (by decide) (by decide) (by decide)
          have hipos : 0 < (idxWrites nx).length := by rw [idxWrites_length, hixl2]; omega
          have hall := fun (W : World) (hk : Keeps None' w0 W) (v : Value) (hv : W.ownsRow tb 110 65 v (nw.length + (idxWrites nx).length) (writeCells nw ++ writeCells (idxWrites nx))) =>
            allW_any W d D fp v (nw ++ idxWrites nx) tb (HD.out.keep hk (fun _ _ h => h)) (by rw [List.length_append, writeCells_append]; exact hv) (fun b hb hf => by
              have h1 := (hv.lt b hb).1
              have h2 := HD.out.lt b hf
              omega) H64.out (by rw [List.length_append]; omega) (by omega)
          have HALL := Lib.hid hall
          have HSFP := Lib.hid hsfp
          clear hall hsfp hcs2
          have hlen1 : (D.all (nw ++ idxWrites nx)).2.writes.length ≤ 50000 := by
            have := Dsk.all_writes (nw ++ idxWrites nx) D
            rw [List.length_append] at this
            omega
          generalize hR1 : D.all (nw ++ idxWrites nx) = R1 at *
          clear hR1
          obtain ⟨E1, D1⟩ := R1
          dsimp only at *
          go_region_held3 (fun W => W.cell? ⟨s, 2, none⟩ = some (.pointer (some ⟨d, 0, none⟩))) (first | exact hcs3 | exact g4 | exact g5 | exact g6) (first | (go_at_call 119; refine (HHI.out _ ((Keeps.refl None' W2).drew)).mono ?_; rintro e W4 ⟨v4, rfl, hown4, hk4⟩; obtain ⟨b4, cap4, cur4, rfl, -⟩ := own_block hown4 hipos; have g4 := (hk4.cell (p := ⟨s, 2, none⟩) (block_lt_of_cell hcs3) (fun h => h)).trans hcs3; have HO4 := Lib.hid hown4; have HK4 := Lib.hid (((Keeps.refl None' W2).drew).trans hk4); have hws : tb ≤ W4.heap.size := Nat.le_trans hz2 HK4.out.size; clear hown4 hk4) | (refine step_append_own rfl _ _ _ rfl tb 110 i0 (.agg (#[.int .i64 0] ++ bvs (zeros 64))) 65 72 Tryz.underlying99 hi hz0 hz1 hz2' (by simp [Value.cells, zeros]) (by decide) u11 nw.length (writeCells nw) rfl (own_keep HW2.out HK4.out (fun _ _ h => h)) ⟨b4, 0, none⟩ (idxWrites nx).length cap4 (writeCells (idxWrites nx)) rfl HO4.out.1 (by intro j u hj; rw [Addr.add_lit]; exact own_range HO4.out j u hj) (writeCells_one _) (by unfold maxLen; omega) (by omega) hws ?_; intro v5 W5 hown5 hgrow5 hfr5; have HO5 := Lib.hid hown5; have HK5 := Lib.hid ((HK2.out.trans HK4.out).trans' (grownBy_keeps hgrow5) (fun i hi e => by have := (HW2.out.lt i e.symm).1; omega)); have HN5 := Lib.hid ((HS2.out.keep HK4.out (spares_none _)).keep (grownBy_keeps hgrow5) (spares_own (own_keep HW2.out HK4.out (fun _ _ h => h)) (by decide))); have g5 := ((grownBy_keeps hgrow5).cell (p := ⟨s, 2, none⟩) (block_lt_of_cell g4) (fun e => by have h1 := (HW2.out.lt s e.symm).1; omega)).trans g4; clear hown5 hgrow5 hfr5) | (go_at_call 97; refine (HALL.out _ HK5.out _ HO5.out).mono ?_; rintro e W6 ⟨rfl, fp6, hS6⟩; have g6 := (hS6.keeps.cell (p := ⟨s, 2, none⟩) (block_lt_of_cell g5) (fun h => HSFP.out h)).trans g5; have HS6 := Lib.hid hS6; have HN6 := Lib.hid (HN5.out.keep hS6.keeps (HD.out.keep HK5.out (fun _ _ h => h)).spares); clear hS6))
          try simp only [Exit.then]
          have hK6 : Keeps (fun k => fp k ∨ k = s) w0 W6 := (HK5.out.mono (S' := fun k => fp k ∨ k = s) (fun _ _ h => h.elim)).trans' HS6.out.keeps (fun i _ h => .inl h)
          have hfr6 : ∀ k, fp6 k → fp k ∨ w0.heap.size ≤ k := fun k hk => (HS6.out.fresh k hk).imp id (fun h => Nat.le_trans HK5.out.size h)
          have hst6 : IsStore W6 s d cur former falls := by
            obtain ⟨cb, fv, hS⟩ := HS.out
            exact ⟨cb, fv, (hS.keep HK5.out (spares_none _) (fun h => h)).keep HS6.out.keeps (HD.out.keep HK5.out (fun _ _ h => h)).spares HSFP.out⟩
          have HK6 := Lib.hid hK6
          have HF6 := Lib.hid hfr6
          have HT6 := Lib.hid hst6
          clear hK6 hfr6 hst6 hcs3 g4 g5 HHI HALL HO4 HO5 HK4 HK5 HW2 HN5 HK2
          by_cases hE : E1 = 0
          · subst hE
            have HPG := Lib.hid (fun W (k : Keeps None' W6 W) => page_any tb nx W (HN6.out.keep k (spares_none _)))
            have hpl := sealP_length nx.at_ _ (rootRaw_length nx)
            have hcP2 : changeP D cur former l = (if (D1.all [(nx.at_, sealP nx.at_ (rootRaw nx))]).1 ≠ 0 then ((D1.all [(nx.at_, sealP nx.at_ (rootRaw nx))]).1, (D1.all [(nx.at_, sealP nx.at_ (rootRaw nx))]).2, cur, former) else (0, (D1.all [(nx.at_, sealP nx.at_ (rootRaw nx))]).2, nx, some cur)) := by
              rw [HCP.out]
              simp
            have HCP2 := Lib.hid hcP2
            clear hcP2 HCP
            generalize sealP nx.at_ (rootRaw nx) = pg at *
            have ct0 : W6.cell? ⟨tb, 0, none⟩ = some (.int .i64 (nx.at_ : Int)) := by obtain ⟨_, _, h⟩ := HN6.out; exact h.c0
            have htfp : ¬ fp6 tb := by
              obtain ⟨_, _, h⟩ := HN6.out
              exact HS6.out.is.not_of_type h.blk (by decide) (by decide) (by decide)
            have HTFP := Lib.hid htfp
            have hsfp6 : ¬ fp6 s := by
              obtain ⟨cb, fv, hS⟩ := HT6.out
              exact HS6.out.is.not_of_type hS.blk (by decide) (by decide) (by decide)
            have HSFP6 := Lib.hid hsfp6
            clear htfp hsfp6
            have hbw := fun (W : World) (i : Int) => run_buildWr W i pg hpl
            have hsw := fun (W : World) (i : Int) => run_sliceWr1 W i pg hpl
            have hall2 := fun (W : World) (hk : Keeps None' W6 W) (gg : Nat) (hgg : W.heap[gg]? = some (.cells (#[.int .i64 (nx.at_ : Int)] ++ bvs pg) 110 (0, 0))) (hge : W6.heap.size ≤ gg) =>
              allW_any W d D1 fp6 (.slice (some ⟨gg, 0, none⟩) 1 1) [(nx.at_, pg)] 0 (HS6.out.is.keep hk (fun _ _ h => h)) (own_write1 hpl hgg 0 (Nat.zero_le _)) (fun b hb hf => by
                cases hb
                have := HS6.out.is.lt gg hf
                omega) (fun x hx => by simp at hx; rw [hx]; exact hpl) (by simp) hlen1
            have HALL2 := Lib.hid hall2
            clear hall2
            generalize hR2 : D1.all [(nx.at_, pg)] = R2 at *
            clear hR2
            obtain ⟨E2, D2⟩ := R2
            dsimp only at *
            go_upto_region 26 with (first | fail)
            go_region_held3 (fun W => W.cell? ⟨s, 2, none⟩ = some (.pointer (some ⟨d, 0, none⟩)) ∧ W.cell? ⟨tb, 0, none⟩ = some (.int .i64 (nx.at_ : Int))) (first | exact ⟨g6, ct0⟩ | exact ⟨g7, ct7⟩ | exact ⟨Lib.cell?_alloc_some _ g7, Lib.cell?_alloc_some _ ct7⟩ | exact ⟨g8, ct8⟩) (first | (go_at_call 98; refine (HPG.out _ ((Keeps.refl None' W6).drew)).mono ?_; rintro e W7 ⟨rfl, hk7⟩; have g7 := (hk7.cell (p := ⟨s, 2, none⟩) (block_lt_of_cell g6) (fun h => h)).trans g6; have ct7 := (hk7.cell (p := ⟨tb, 0, none⟩) (block_lt_of_cell ct0) (fun h => h)).trans ct0; have HK7 := Lib.hid (((Keeps.refl None' W6).drew).trans hk7); clear hk7) | (go_at_call 97; refine (HALL2.out _ (HK7.out.alloc _) _ (heap_alloc_new _ _) HK7.out.size).mono ?_; rintro e W8 ⟨rfl, fp8, hS8⟩; have g8 := (hS8.keeps.cell (p := ⟨s, 2, none⟩) (block_lt_of_cell (Lib.cell?_alloc_some _ g7)) (fun h => HSFP6.out h)).trans (Lib.cell?_alloc_some _ g7); have ct8 := (hS8.keeps.cell (p := ⟨tb, 0, none⟩) (block_lt_of_cell (Lib.cell?_alloc_some _ ct7)) (fun h => HTFP.out h)).trans (Lib.cell?_alloc_some _ ct7); have HS8 := Lib.hid hS8; clear hS8))
            try simp only [Exit.then]
            have hK8 : Keeps fp6 W6 W8 := ((HK7.out.alloc _).mono (S' := fp6) (fun _ _ h => h.elim)).trans' HS8.out.keeps (fun i _ h => h)
            have hfr8 : ∀ k, fp8 k → fp k ∨ w0.heap.size ≤ k := fun k hk => by
              rcases HS8.out.fresh k hk with h | h
              · exact HF6.out k h
              · exact .inr (Nat.le_trans (Nat.le_trans HK6.out.size (HK7.out.alloc (.cells (#[.int .i64 (nx.at_ : Int)] ++ bvs pg) 110)).size) h)
            have hK80 : Keeps (fun k => fp k ∨ k = s) w0 W8 := HK6.out.trans' hK8 (fun i hi h => .inl ((HF6.out i h).elim id (fun h' => absurd hi (by omega))))
            have hst8 : IsStore W8 s d cur former falls := by
              obtain ⟨cb, fv, hS⟩ := HT6.out
              exact ⟨cb, fv, hS.keep hK8 HS6.out.is.spares HSFP6.out⟩
            have hn8 : IsState W8 tb nx := HN6.out.keep hK8 HS6.out.is.spares
            have HK8 := Lib.hid hK80
            have HF8 := Lib.hid hfr8
            have HT8 := Lib.hid hst8
            have HN8 := Lib.hid hn8
            clear hK8 hfr8 hK80 hst8 hn8 HN6 HSFP6 HTFP HK7 g6 g7 g8 ct0 ct7 ct8 hbw hsw HALL2 HPG
            by_cases hE2 : E2 = 0
            · subst hE2
              have hP : changeP D cur former l = (0, D2, nx, some cur) := by rw [HCP2.out, if_neg (by simp)]
              have HPP := Lib.hid hP
              obtain ⟨cb8, fv8, hS8'⟩ := HT8.out
              have q0 := hS8'.c0
              have q1 := hS8'.c1
              have qf0 := free_of_blk hS8'.blk 0
              have qf1 := free_of_blk hS8'.blk 1
              have hb1 := heap_setCell_same _ _ 1 _ _ (.pointer (some ⟨cb8, 0, none⟩)) hS8'.blk
              have hb2 := heap_setCell_same _ _ 0 _ _ (.pointer (some ⟨tb, 0, none⟩)) hb1
              have hk1 := Keeps.set1 W8 s 1 (.pointer (some ⟨cb8, 0, none⟩))
              have hk2 := Keeps.set1 (W8.setCell ⟨s, 1, none⟩ (.pointer (some ⟨cb8, 0, none⟩))) s 0 (.pointer (some ⟨tb, 0, none⟩))
              have hk12 := hk1.trans hk2
              have hsp := spares_one hS8'.blk (by decide)
              have hfin : SStep w0 s d fp ((W8.setCell ⟨s, 1, none⟩ (.pointer (some ⟨cb8, 0, none⟩))).setCell ⟨s, 0, none⟩ (.pointer (some ⟨tb, 0, none⟩))) D2 nx (some cur) falls fp8 := by
                refine ⟨⟨tb, .pointer (some ⟨cb8, 0, none⟩), ⟨hb2, HN8.out.keep hk12 hsp, cb8, rfl, hS8'.cur.keep hk12 hsp⟩⟩, HS8.out.is.keep hk12 (fun b hb e => ?_), HK8.out.trans' hk12 (fun i _ e => .inr e), HF8.out⟩
                rw [show b = s from e] at hb
                exact HS8.out.is.not_of_type hS8'.blk (by decide) (by decide) (by decide) hb
              have HFIN := Lib.hid hfin
              have hfvs : fv8.oneCell' = true := by
                have := hS8'.former
                cases former with
                | none => rw [show fv8 = .pointer none from this]; rfl
                | some F => obtain ⟨fb', e, _⟩ := this; rw [e]; rfl
              clear hP HCP2 hS8' hb1 hb2 hk1 hk2 hk12 hsp hfin
              go_wp2
              go_ret
              refine ⟨by rw [HPP.out]; rfl, fp8, ?_⟩
              rw [HPP.out]
              exact HFIN.out
            · have hP : changeP D cur former l = (E2, D2, cur, former) := by rw [HCP2.out, if_pos hE2]
              have HPP := Lib.hid hP
              clear hP HCP2
              go_wp2
              go_ret
              refine ⟨by rw [HPP.out]; rfl, fp8, ?_⟩
              rw [HPP.out]
              exact ⟨HT8.out, HS8.out.is, HK8.out, HF8.out⟩
          · have hP : changeP D cur former l = (E1, D1, cur, former) := by rw [HCP.out, if_pos hE]
            have HPP := Lib.hid hP
            clear hP HCP
            go_wp2
            go_ret
            refine ⟨by rw [HPP.out]; rfl, fp6, ?_⟩
            rw [HPP.out]
            exact ⟨HT6.out, HS6.out.is, HK6.out, HF6.out⟩
end Go.Proofs.YtlbaagjbehdmgaaGreat
