/- store.root. -/
import Derived.Deep.QuietTactic
import Derived.BigQuiet
import Derived.Test.YtlbaagjbehdmgaaGreatM26
namespace Go.Proofs.YtlbaagjbehdmgaaGreat
open Go.RowKit Go.Maps

def RootRet (w : World) (R : Option St) (e : Ending) (w' : World) : Prop :=
  match R with
  | none => ∃ v, e = .returned (.tuple #[.pointer v, .bool false]) ∧ Keeps None' w w'
  | some S => ∃ b, e = .returned (.tuple #[.pointer (some ⟨b, 0, none⟩), .bool true]) ∧ w.heap.size ≤ b ∧ IsState w' b S ∧ Keeps None' w w'

set_option maxRecDepth 100000 in
set_option maxHeartbeats 4000000 in
theorem root_any (w : World) (gn cap k : Nat) (pages : List (List UInt8)) (hrow : w.ownsRow 0 108 64 (.slice (some ⟨gn, 0, none⟩) pages.length cap) pages.length (pageCells pages)) (h64 : ∀ p ∈ pages, p.length = 64) (hfew : pages.length ≤ 1024) (hk : k ≤ 1) (hkp : k < pages.length) :
    Calls Tryz.prog 80 #[.slice (some ⟨gn, 0, none⟩) pages.length cap, .int .i64 (k : Int)] w fun e w' => RootRet w (rootP pages k) e w' := by
  obtain ⟨p, hp⟩ : ∃ p, pages[k]? = some p := ⟨pages[k], by simp [hkp]⟩
  have hp64 : p.length = 64 := h64 p (List.mem_of_getElem? hp)
  have hpe : pages[k] = p := by rw [List.getElem?_eq_getElem hkp] at hp; exact Option.some.inj hp
  have hgl : gn < w.heap.size := (own_type hrow (b := gn) rfl).elim fun _ h => lt_of_block h
  have hrg : ∀ W, Keeps None' w W → W.rangeAt gn (k * 64) (p.map bv) := fun W hW => by
    have := page_range (own_keep hrow hW (fun _ _ h => h)) h64 k hkp
    rw [hpe, Nat.mul_comm] at this
    exact this
  have hRP : rootP pages k = (if rootBad k p = true then none else
    if rMany p = 0 then some ⟨k, rHouses p, rGen p, [], []⟩ else
    match chainP pages 26 pages.length [] (rIndex p) with
    | none => none
    | some l => match rootFold pages (rHouses p) (l.reverse ++ [], []) (names pages l) with
      | none => none
      | some st => if st.2.length = rMany p then some ⟨k, rHouses p, rGen p, st.2, l⟩ else none) := by
    unfold rootP; rw [hp]; rfl
  have hsub : ∀ W, Keeps None' w W → ∀ a n, a + n ≤ 64 → W.rangeAt gn (k * 64 + a) (((p.drop a).take n).map bv) := fun W hW a n han => fun t v ht => by
    rw [List.map_take, List.getElem?_take] at ht
    split at ht
    · rw [List.map_drop, List.getElem?_drop] at ht
      have := hrg W hW (a + t) v ht
      rw [Nat.add_assoc]
      exact this
    · cases ht
  have hg : ∀ W, Keeps None' w W → ∀ a n, a + n ≤ 64 → n ≤ 8 → Calls Tryz.prog 121 #[.slice (some ⟨gn, k * 64 + a, none⟩) n (64 - a)] W fun e W' => e = .returned (.int .u64 (num ((p.drop a).take n))) ∧ Keeps None' W W' := fun W hW a n han hn => by
    have h1 := get_any gn (k * 64 + a) (64 - a) ((p.drop a).take n) (by simp; omega) W (Nat.lt_of_lt_of_le hgl hW.size) (hsub W hW a n han)
    rw [show ((p.drop a).take n).length = n by simp [hp64]; omega] at h1
    exact h1
  have hg8 : ∀ W, Keeps None' w W → Calls Tryz.prog 121 #[.slice (some ⟨gn, k * 64, none⟩) 8 64] W fun e W' => e = .returned (.int .u64 (rGen p)) ∧ Keeps None' W W' := fun W hW => hg W hW 0 8 (by omega) (by omega)
  have hsd : ∀ W, Keeps None' w W → Calls Tryz.prog 106 #[.pointer (some ⟨gn, k * 64, none⟩), .int .i64 (k : Int)] W fun e W' => e = .returned (.bool (soundP k p)) ∧ Keeps None' W W' := fun W hW => sound_any gn (k * 64) k W p hp64 (Nat.lt_of_lt_of_le hgl hW.size) (hrg W hW)
  have hx8 : p[8]? = some p[8] := by simp [hp64]
  have hh8 : rHouses p = p[8].toNat := by simp [rHouses, hx8]
  have c8 : w.cell? ⟨gn, k * 64 + 8, none⟩ = some (.int .u8 (rHouses p : Int)) := by rw [hh8]; exact hrg w (Keeps.refl _ _) 8 (bv p[8]) (by simp [hx8])
  have hhw : IntKind.i64.wrap (rHouses p : Int) = (rHouses p : Int) := IntWalk.i64_in _ (by have := rHouses_lt p; omega)
  have hmw : IntKind.i64.wrap (num ((p.drop 9).take 2) : Int) = (rMany p : Int) := IntWalk.i64_in _ (by have := num2_lt (p.drop 9); omega)
  have hiw : IntKind.i64.wrap (num ((p.drop 11).take 2) : Int) = (rIndex p : Int) := IntWalk.i64_in _ (by have := num2_lt (p.drop 11); omega)
  have HG8 := Lib.hid hg8
  have HG := Lib.hid hg
  have HSD := Lib.hid hsd
  have HRP := Lib.hid hRP
  have HROW := Lib.hid hrow
  have H64 := Lib.hid h64
  have hkI : (k : Int) < (pages.length : Int) := by omega
  have hml := num2_lt (p.drop 9)
  have hil := num2_lt (p.drop 11)
  have hhl := rHouses_lt p
  have hgnl := rGen_lt p
  rw [← show rMany p = num ((p.drop 9).take 2) from rfl] at hml
  rw [← show rIndex p = num ((p.drop 11).take 2) from rfl] at hil
  have hq : ∀ W, (Instr.build 119 #[(0, .int .i64 (k : Int)), (1, .int .i64 (rHouses p : Int)), (2, .int .u64 (rGen p : Int))]).run Tryz.prog W = .ok (.agg #[.int .i64 (k : Int), .int .i64 (rHouses p : Int), .int .u64 (rGen p : Int), .slice none 0 0, .slice none 0 0]) W := fun W => by kernel_rfl
  clear hRP hg hg8 hsd hrg hsub hp hpe hx8 hh8 hrow h64
  generalize rootP pages k = R at *
  go_enter Tryz.func80, Tryz.ntmps80
  go_upto_region 2 with (first | fail)
  have c8d : w.drew.cell? ⟨gn, k * 64 + 8, none⟩ = some (.int .u8 (rHouses p : Int)) := c8
  go_region_held3 (fun W => W.cell? ⟨gn, k * 64 + 8, none⟩ = some (.int .u8 (rHouses p : Int))) (first | exact Lib.cell?_alloc_some _ g8 | exact g8 | exact c8d) (first | (go_at_call 121; refine (HG8.out _ ((Keeps.refl None' w).drew)).mono ?_; rintro e W1 ⟨rfl, hk1⟩; have g8 := (hk1.cell (p := ⟨gn, k * 64 + 8, none⟩) hgl (fun h => h)).trans c8d))
  try simp only [Exit.then]
  go_upto_region 3 with (first | fail)
  have hk1w : Keeps None' w W1 := ((Keeps.refl None' w).drew).trans hk1
  refine gen_wp (fun W => Keeps None' w W ∧ StBlk W W1.heap.size k (rHouses p) (rGen p) (.slice none 0 0) (.slice none 0 0)) ⟨hk1w.alloc _, heap_alloc_new _ _⟩ ?_
  rintro W2 ⟨hk2, hst2⟩
  have hsb := hk1w.size
  generalize W1.heap.size = sb at *
  clear hk1w g8 hk1 c8d c8 hq
  apply rest_of W2.drew
  · intro HREST
    go_region_held3 (fun _ => True) (first | exact trivial) (first
      | (go_at_call 121; refine (HG.out _ hkB _ _ (by decide) (by decide)).mono ?_; rintro e WB ⟨rfl, hkb⟩; have hkC := hk1.trans hkb)
      | (go_at_call 121; refine (HG.out _ hk2.drew _ _ (by decide) (by decide)).mono ?_; rintro e W1 ⟨rfl, hk1⟩; have hkB := hk2.drew.trans hk1))
    all_goals
      try simp only [Exit.then]
      exact HREST _ hkC
  rintro W3 hk3
  have hk3w := hk2.drew.trans hk3
  go_upto_region 4 with (first | fail)
  have hst3 : StBlk W3 sb k (rHouses p) (rGen p) (.slice none 0 0) (.slice none 0 0) := hk3.blk hst2 (fun h => h)
  have hsbl := lt_of_block hst3
  have hsdw := HSD.out W3 hk3w
  have HSDW := Lib.hid hsdw
  clear hsdw HSD HG HG8 hmw hiw hst2 hk2
  by_cases b1 : soundP k p = true
  case neg =>
    have b1' : soundP k p = false := by simpa using b1
    have HN := Lib.hid (show R = none by rw [HRP.out, if_pos (by simp [rootBad, b1'])])
    rw [b1'] at HSDW
    go_wp2_with (first | (go_at_call 106; refine HSDW.out.mono ?_; rintro e W4 ⟨rfl, hk4⟩))
    go_ret2
    rw [HN.out]
    exact ⟨_, rfl, hk3w.trans hk4⟩
  rw [b1] at HSDW
  have hcs : ∀ W4, Keeps None' W3 W4 → W4.cell? ⟨sb, 1, none⟩ = some (.int .i64 (rHouses p : Int)) ∧ W4.cell? ⟨sb, 2, none⟩ = some (.int .u64 (rGen p : Int)) := fun W4 hk4 => ⟨cell_of_blk (hk4.blk hst3 (fun h => h)) 1 rfl, cell_of_blk (hk4.blk hst3 (fun h => h)) 2 rfl⟩
  by_cases b2 : rGen p < 1
  · have HN := Lib.hid (show R = none by rw [HRP.out, if_pos (by simp [rootBad]; omega)])
    have b2I : (rGen p : Int) < 1 := by omega
    go_wp2_with (first | (go_at_call 106; refine HSDW.out.mono ?_; rintro e W4 ⟨rfl, hk4⟩; obtain ⟨s1, s2⟩ := hcs W4 hk4))
    go_ret2
    rw [HN.out]
    exact ⟨_, rfl, hk3w.trans hk4⟩
  have b2I : decide ((rGen p : Int) < 1) = false := decide_eq_false (by omega)
  by_cases b3 : 9223372036854775808 ≤ rGen p
  · have HN := Lib.hid (show R = none by rw [HRP.out, if_pos (by simp [rootBad, b3])])
    have b3I : (9223372036854775808 : Int) ≤ (rGen p : Int) := by omega
    go_wp2_with (first | (go_at_call 106; refine HSDW.out.mono ?_; rintro e W4 ⟨rfl, hk4⟩; obtain ⟨s1, s2⟩ := hcs W4 hk4))
    go_ret2
    rw [HN.out]
    exact ⟨_, rfl, hk3w.trans hk4⟩
  have b3I : decide ((9223372036854775808 : Int) ≤ (rGen p : Int)) = false := decide_eq_false (by omega)
  by_cases b4 : rHouses p < 1
  · have HN := Lib.hid (show R = none by rw [HRP.out, if_pos (by simp [rootBad]; omega)])
    have b4I : (rHouses p : Int) < 1 := by omega
    go_wp2_with (first | (go_at_call 106; refine HSDW.out.mono ?_; rintro e W4 ⟨rfl, hk4⟩; obtain ⟨s1, s2⟩ := hcs W4 hk4))
    go_ret2
    rw [HN.out]
    exact ⟨_, rfl, hk3w.trans hk4⟩
  have b4I : decide ((rHouses p : Int) < 1) = false := decide_eq_false (by omega)
  by_cases b5 : 8 < rHouses p
  · have HN := Lib.hid (show R = none by rw [HRP.out, if_pos (by simp [rootBad]; omega)])
    have b5I : (8 : Int) < (rHouses p : Int) := by omega
    go_wp2_with (first | (go_at_call 106; refine HSDW.out.mono ?_; rintro e W4 ⟨rfl, hk4⟩; obtain ⟨s1, s2⟩ := hcs W4 hk4))
    go_ret2
    rw [HN.out]
    exact ⟨_, rfl, hk3w.trans hk4⟩
  have b5I : decide ((8 : Int) < (rHouses p : Int)) = false := decide_eq_false (by omega)
  have hne : ∀ (W : World) (a b : Bool), (binOp .neq 4 (.bool a) (.bool b)).run Tryz.prog W = .ok (.bool (a != b)) W := fun W a b => by cases a <;> cases b <;> kernel_rfl
  by_cases b6 : decide (rMany p = 0) = decide (rIndex p = 0)
  case neg =>
    have HN := Lib.hid (show R = none by rw [HRP.out, if_pos (by simp [rootBad, b6])])
    have b6I : (((rMany p : Int) == 0) != ((rIndex p : Int) == 0)) = true := by
      rw [show ((rMany p : Int) == 0) = decide (rMany p = 0) by rw [Bool.eq_iff_iff]; simp, show ((rIndex p : Int) == 0) = decide (rIndex p = 0) by rw [Bool.eq_iff_iff]; simp]
      simpa using b6
    go_wp2_with (first | (go_at_call 106; refine HSDW.out.mono ?_; rintro e W4 ⟨rfl, hk4⟩; obtain ⟨s1, s2⟩ := hcs W4 hk4))
    go_ret2
    rw [HN.out]
    exact ⟨_, rfl, hk3w.trans hk4⟩
  have b6I : (((rMany p : Int) == 0) != ((rIndex p : Int) == 0)) = false := by
    rw [show ((rMany p : Int) == 0) = decide (rMany p = 0) by rw [Bool.eq_iff_iff]; simp, show ((rIndex p : Int) == 0) = decide (rIndex p = 0) by rw [Bool.eq_iff_iff]; simp, b6]
    simp
  have hgood : rootBad k p = false := by
    simp only [rootBad, b1, b6]
    simp
    omega
  have hRP2 := HRP.out
  rw [if_neg (by rw [hgood]; decide)] at hRP2
  have HOKG := Lib.hid (show ((rGen p : Nat) : Int) ≤ 9223372036854775807 by omega)
  have HST3 := Lib.hid hst3
  have HCS := Lib.hid hcs
  have HB6 := Lib.hid b6
  clear hst3 hcs b1 hgood b6
  go_upto_region 6 with (first | (go_at_call 106; refine HSDW.out.mono ?_; rintro e W4 ⟨rfl, hk4⟩; obtain ⟨s1, s2⟩ := HCS.out W4 hk4))
  have hk4w := hk3w.trans hk4
  have hst4 := hk4.blk HST3.out (fun h => h)
  have b6 := HB6.out
  clear b6I b5I b4I b3I b2I hne HSDW HCS s1 s2 HST3 HB6
  by_cases b7 : rMany p = 0
  · rw [if_pos b7] at hRP2
    have HY := Lib.hid hRP2
    have b8 : rIndex p = 0 := by rw [b7] at b6; simpa using b6.symm
    have b7I : ((rMany p : Int) == 0) = true := by rw [b7]; rfl
    have b8I : ((rIndex p : Int) == 0) = true := by rw [b8]; rfl
    clear hRP2 b6 b7 b8 HRP
    go_wp2
    go_ret2
    rw [HY.out]
    exact ⟨sb, rfl, hsb, ⟨_, _, ⟨hst4, .inl ⟨rfl, rfl⟩, .inl ⟨rfl, rfl⟩, ⟨hk, (show 1 ≤ rHouses p by omega), (show rHouses p ≤ 8 by omega), HOKG.out, by simp, by simp, (fun x hx => by cases hx), (fun x hx => by cases hx)⟩⟩⟩, hk4w⟩
  rw [if_neg b7] at hRP2
  have b8 : rIndex p ≠ 0 := fun e => by rw [e] at b6; simp at b6; exact b7 b6
  have b7I : ((rMany p : Int) == 0) = false := by rw [beq_eq_false_iff_ne]; omega
  have b8I : ((rIndex p : Int) == 0) = false := by rw [beq_eq_false_iff_ne]; omega
  have HRP2 := Lib.hid hRP2
  clear hRP2 b6 b7 b8 HRP
  have hmk := fun (W : World) => run_makeMap (P := Tryz.prog) 172 W
  have hbr : ∀ (W : World) (mb : Nat), (Instr.build 174 #[(0, .slice (some ⟨gn, 0, none⟩) pages.length cap), (1, .map (some mb))]).run Tryz.prog W = .ok (.agg #[.slice (some ⟨gn, 0, none⟩) pages.length cap, .map (some mb)]) W := fun W mb => by kernel_rfl
  go_upto_region 9 with (first | fail)
  refine gen_wp (fun W => Keeps None' w W ∧ StBlk W sb k (rHouses p) (rGen p) (.slice none 0 0) (.slice none 0 0) ∧ ReaderAt W (W4.heap.size + 1) gn cap W4.heap.size 0 pages [] ∧ W4.heap.size < W.heap.size) ⟨(hk4w.alloc _).alloc _, (((Keeps.refl None' W4).alloc _).alloc _).blk hst4 (fun h => h), ⟨by simpa using heap_alloc_new (W4.alloc (.map #[] 0)) (.cells #[.slice (some ⟨gn, 0, none⟩) pages.length cap, .map (some W4.heap.size)] 174), own_keep HROW.out ((hk4w.alloc _).alloc _) (fun _ _ h => h), H64.out, hfew, (isSet_empty W4).keep ((Keeps.refl None' _).alloc _) (fun h => h)⟩, by simp; omega⟩ ?_
  rintro W5 ⟨hk5, hst5, hrd5, hmb5⟩
  have hmbw := hk4w.size
  generalize W4.heap.size = mb at *
  clear hk4w hst4 hk4 hbr hmk
  have HLI := Lib.hid (list_any W5 (mb + 1) gn cap mb 0 pages [] (rIndex p) 26 pages.length hrd5 (by omega) (by omega) (by omega) hfew hmb5)
  have hsmb := hrd5.set.ne hst5
  have hsl5 := lt_of_block hst5
  cases hC : chainP pages 26 pages.length [] (rIndex p) with
  | none =>
    rw [hC] at HLI
    have HN := Lib.hid (show R = none by rw [HRP2.out, hC])
    clear hC HRP2
    go_wp2_with (first | (go_at_call 122; refine HLI.out.mono ?_; rintro e W6 ⟨rfl, hk6⟩))
    go_ret2
    rw [HN.out]
    exact ⟨_, rfl, hk5.trans' hk6 (fun i hi e => by have e' : i = mb := e; omega)⟩
  | some l =>
    rw [hC] at HLI
    have hRP3 : R = (match rootFold pages (rHouses p) (l.reverse ++ [], []) (names pages l) with
      | none => none
      | some st => if st.2.length = rMany p then some ⟨k, rHouses p, rGen p, st.2, l⟩ else none) := by rw [HRP2.out, hC]
    have HRP3 := Lib.hid hRP3
    have hlm := chainP_mem pages 26 _ _ _ _ hC
    have hlo := chainP_ok pages 26 _ _ _ _ hC List.nodup_nil (fun x hx => by cases hx)
    have hlne := chainP_ne pages 26 _ _ _ _ hC
    have hok0 := FoldOk.start hC
    have HLM := Lib.hid hlm
    have HLO := Lib.hid hlo
    have HLNE := Lib.hid hlne
    have HOK0 := Lib.hid hok0
    clear hC HRP2 hRP3 hlm hlo hlne hok0
    have HHD := Lib.hid (fun W => head_1 W)
    go_upto_region 13 with (first | (go_at_call 122; refine HLI.out.mono ?_; rintro e W6 ⟨v1, rfl, hown1, hrd1, hk6, hl1⟩; have HO1 := Lib.hid hown1; have HR1 := Lib.hid hrd1; have hst6 := hk6.blk hst5 hsmb; have s4 := cell_of_blk hst6 4 (v := .slice none 0 0) rfl; have f4 := free_of_blk hst6 4; clear hown1 hrd1; obtain ⟨va, vc, rfl, -⟩ := ISlice.of_own HO1.out))
    have hstart : RootAt w sb (mb + 1) gn cap mb k (rHouses p) (rGen p) pages (.slice va l.length vc) l (l.reverse ++ [], []) (.slice none 0 0) (W6.setCell ⟨sb, 4, none⟩ (.slice va l.length vc)) := by
      have hk7 := Keeps.set1 W6 sb 4 (.slice va l.length vc)
      refine ⟨heap_setCell_same _ _ 4 _ _ (.slice va l.length vc) hst6, ⟨[], rfl, World.ownsRow_nil _ _ _ _, rfl, fun i x p hx => by simp at hx⟩, fun _ => rfl, own_base (own_keep HO1.out hk7 (fun b hb e => ?_)) hk5.size, ?_, HOK0.out, (hk5.trans' hk6 (fun i hi e => ?_)).trans' hk7 (fun i hi e => ?_)⟩
      · obtain ⟨cs, hc⟩ := own_type HO1.out hb
        have e' : b = sb := e
        rw [e', hst6] at hc
        cases hc
      · have h1 := HR1.out.keepS hk7 (fun e => ?_) (fun e => ?_) (fun e => ?_)
        · rw [show (0 + l.length) = (l.reverse ++ ([] : List Nat)).length by simp] at h1
          exact h1
        · have e' : mb + 1 = sb := e
          have := HR1.out.blk
          rw [e', hst6] at this
          cases this
        · obtain ⟨cs, hc⟩ := own_type HR1.out.row (b := gn) rfl
          have e' : gn = sb := e
          rw [e', hst6] at hc
          cases hc
        · exact hsmb (Eq.symm e)
      · have e' : i = mb := e
        omega
      · have e' : i = sb := e
        omega
    generalize W6.setCell ⟨sb, 4, none⟩ (.slice va l.length vc) = W7 at *
    have HSTART := Lib.hid hstart
    clear hstart hst6 s4 f4 HO1 HR1 HLI hrd5 hst5 hk6 HOK0
    have hlI : (l.length : Int) ≤ 1024 := by omega
    go_wp2_with fail
    go_loopw [107] (fun av wr => ∃ (a : Nat) (st : List Nat × List Placed) (ev : Value), a ≤ l.length ∧ av = .int .i64 a ∧ RootAt w sb (mb + 1) gn cap mb k (rHouses p) (rGen p) pages (.slice va l.length vc) l st ev wr ∧ rootFold pages (rHouses p) (l.reverse ++ [], []) (names pages l) = rootFold pages (rHouses p) st (names pages (l.drop a))) (fun av _ => l.length - (intOf av).toNat)
    case atStart => exact ⟨0, _, _, Nat.zero_le _, rfl, HSTART.out, rfl⟩
    case round =>
      obtain ⟨a, st, ev, ha, rfl, hA, hfold⟩ := hrel
      have HA := Lib.hid hA
      have HF := Lib.hid hfold
      clear hA hfold HSTART
      by_cases hal : a < l.length
      case neg =>
        obtain rfl : a = l.length := by omega
        have HE := Lib.hid (show R = if st.2.length = rMany p then some ⟨k, rHouses p, rGen p, st.2, l⟩ else none by rw [HRP3.out, HF.out, List.drop_length]; rfl)
        obtain ⟨ae, cape, rfl⟩ := HA.out.placed.shape
        have s3 : wr.cell? ⟨sb, 3, none⟩ = some (.slice ae st.2.length cape) := cell_of_blk HA.out.blk 3 rfl
        clear HF HRP3
        by_cases hlm : st.2.length = rMany p
        · have hY := HE.out
          rw [if_pos hlm] at hY
          have HY := Lib.hid hY
          have hlmI : ((st.2.length : Int) == (rMany p : Int)) = true := by rw [hlm]; simp
          clear hY HE hlm
          go_wp2_with fail
          go_quiet (fail)
          go_wp2
          go_ret2
          rw [HY.out]
          exact ⟨sb, rfl, hsb, (HA.out.keep ((Keeps.refl None' wr).drewN _)).state hk (by omega) (by omega) HOKG.out HLNE.out (Nat.le_trans HLO.out.2.2 hfew) (fun x hx => Nat.lt_of_lt_of_le (HLO.out.2.1 x (by simp [hx])) hfew) hfew, HA.out.keeps.drewN _⟩
        · have hY := HE.out
          rw [if_neg hlm] at hY
          have HY := Lib.hid hY
          have hlmI : ((st.2.length : Int) == (rMany p : Int)) = false := by rw [beq_eq_false_iff_ne]; omega
          clear hY HE hlm
          go_wp2_with fail
          go_quiet (fail)
          go_wp2
          go_ret2
          rw [HY.out]
          exact ⟨_, rfl, HA.out.keeps.drewN _⟩
      obtain ⟨j, hj⟩ : ∃ j, l[a]? = some j := ⟨l[a], by simp [hal]⟩
      obtain ⟨pj, hpj, hm1, hm2⟩ := HLM.out j (List.mem_of_getElem? hj)
      have hnc := names_cons pages l a j hj
      rw [hpj, Option.getD_some] at hnc
      have hF2 := HF.out
      rw [hnc] at hF2
      have HF2 := Lib.hid hF2
      obtain ⟨hjl, hpe⟩ := List.getElem?_eq_some_iff.1 hpj
      have hpj64 : pj.length = 64 := H64.out pj (List.mem_of_getElem? hpj)
      obtain ⟨a1, cc1, he1, hcc1⟩ := ISlice.of_own HA.out.idx
      injection he1 with h1 _ h3
      subst h1
      subst h3
      obtain ⟨b1, o1, hva, hcell⟩ := hcc1 a j hj
      clear hcc1
      subst hva
      have hrgj : ∀ W, Keeps None' w W → W.rangeAt gn (j * 64) (pj.map bv) := fun W hW => by
        have := page_range (own_keep HROW.out hW (fun _ _ h => h)) H64.out j hjl
        rw [hpe, Nat.mul_comm] at this
        exact this
      have hx2 : pj[2]? = some pj[2] := by simp [hpj64]
      have hmany : manyOf pj = pj[2].toNat := by simp [manyOf, hx2]
      have hc2 : wr.cell? ⟨gn, j * 64 + 2, none⟩ = some (.int .u8 (manyOf pj : Int)) := by rw [hmany]; exact hrgj wr HA.out.keeps 2 (bv pj[2]) (by simp [hx2])
      have hmyw : IntKind.i64.wrap (manyOf pj : Int) = (manyOf pj : Int) := IntWalk.i64_in _ (by omega)
      have hjI : (j : Int) < (pages.length : Int) := by omega
      have haI : (a : Int) < (l.length : Int) := by omega
      have HRGJ := Lib.hid hrgj
      clear hnc hF2 HF hpe hrgj hx2 hmany hpj
      go_wp2_with fail
      go_loopw [119] (fun kv wi => ∃ (kk : Nat) (st2 : List Nat × List Placed) (ev2 : Value), kk ≤ manyOf pj ∧ kv = .int .i64 kk ∧ RootAt w sb (mb + 1) gn cap mb k (rHouses p) (rGen p) pages (.slice (some ⟨b1, o1, none⟩) l.length vc) l st2 ev2 wi ∧ rootFold pages (rHouses p) (l.reverse ++ [], []) (names pages l) = rootFold pages (rHouses p) st2 ((namesOf pj).drop kk ++ names pages (l.drop (a + 1)))) (fun kv _ => manyOf pj - (intOf kv).toNat)
      case atStart => exact ⟨0, st, ev, Nat.zero_le _, rfl, HA.out, by rw [HF2.out]; rfl⟩
      case round =>
        obtain ⟨kk, st2, ev2, hkk, rfl, hA2, hF3⟩ := hrel
        have HA2 := Lib.hid hA2
        have HF3 := Lib.hid hF3
        clear hA2 hF3 HA HF2 hc2 hcell
        by_cases hkl : kk < manyOf pj
        case neg =>
          obtain rfl : kk = manyOf pj := by omega
          have hF4 := HF3.out
          rw [namesOf_done, List.nil_append] at hF4
          have HF4 := Lib.hid hF4
          clear hF4 HF3
          go_wp2_with fail
          go_roundw
          case rel => exact ⟨a + 1, st2, ev2, by omega, by go_num, HA2.out, HF4.out⟩
          case measure => simp [intOf]; omega
        have hkkI : (kk : Int) < (manyOf pj : Int) := by omega
        have hX : nameOf pj kk < 65536 := num2_lt _
        have hnd := namesOf_drop pj kk hkl
        have hF4 := HF3.out
        rw [hnd, List.cons_append, rootFold, rootStep] at hF4
        have hlenw : st2.1.length ≤ 1024 := Nat.le_trans HA2.out.ok.len hfew
        have hmbi : mb < wr.heap.size := Nat.lt_of_succ_lt (lt_of_block HA2.out.rd.blk)
        have hent := fun W (hW : Keeps None' wr W) => entry_any W (mb + 1) gn cap mb st2.1.length pages st2.1 (nameOf pj kk) (HA2.out.rd.keep hW) (by omega) (by omega) (Nat.lt_of_lt_of_le hmbi hW.size)
        have hget := fun W (hW : Keeps None' wr W) => get_any gn (j * 64 + (3 + 2 * kk)) (64 - (3 + 2 * kk)) ((pj.drop (3 + 2 * kk)).take 2) (by simp; omega) W (Nat.lt_of_lt_of_le hgl (HA2.out.keeps.trans hW).size) (fun t v ht => by
          rw [List.map_take, List.getElem?_take] at ht
          split at ht
          · rw [List.map_drop, List.getElem?_drop] at ht
            have := HRGJ.out W (HA2.out.keeps.trans hW) ((3 + 2 * kk) + t) v ht
            rw [Nat.add_assoc]
            exact this
          · cases ht)
        rw [show ((pj.drop (3 + 2 * kk)).take 2).length = 2 by simp [hpj64]; omega] at hget
        obtain ⟨fr, hfr⟩ : ∃ fr, fr = 3 + 2 * kk := ⟨_, rfl⟩
        have hcw : IntKind.i64.wrap (num ((pj.drop fr).take 2) : Int) = (nameOf pj kk : Int) := by rw [hfr]; exact IntWalk.i64_in _ (by have := num2_lt (pj.drop (3 + 2 * kk)); omega)
        have hsl : ∀ W : World, (Instr.sliceAt 108 (.pointer (some ⟨gn, j * 64, none⟩)) (some (.int .i64 (3 + 2 * (kk : Int)))) (some (.int .i64 (3 + 2 * (kk : Int) + 2))) none).run Tryz.prog W = .ok (.slice (some ⟨gn, j * 64 + fr, none⟩) 2 (64 - fr)) W := fun W => by
          have h1 := run_slice_pg W gn (j * 64) fr 2 (by omega) (by omega)
          rw [show (fr : Int) = 3 + 2 * (kk : Int) by omega] at h1
          exact h1
        rw [← hfr] at hget
        have hw1 : IntKind.i64.wrap (2 * (kk : Int)) = 2 * (kk : Int) := IntWalk.i64_in _ (by omega)
        have hw2 : IntKind.i64.wrap (3 + 2 * (kk : Int)) = 3 + 2 * (kk : Int) := IntWalk.i64_in _ (by omega)
        have hw3 : IntKind.i64.wrap (3 + 2 * (kk : Int) + 2) = 3 + 2 * (kk : Int) + 2 := IntWalk.i64_in _ (by omega)
        subst hfr
        have HGT := Lib.hid hget
        clear hget hnd hF4
        cases hE : entryP pages st2.1 (nameOf pj kk) with
        | none =>
          have hn : R = none := by rw [HRP3.out, HF3.out, namesOf_drop pj kk hkl, List.cons_append, rootFold, rootStep, hE]
          rw [hE] at hent
          have HN := Lib.hid hn
          have HEN := Lib.hid hent
          clear hn hent hE
          go_upto_region 22 with (first | (go_at_call 123; refine (HHD.out _).mono ?_; rintro e W2 ⟨rfl, rfl⟩) | (go_at_call 121; refine (HGT.out _ (Keeps.refl _ _)).mono ?_; rintro e W3 ⟨rfl, hk3⟩) | (go_at_call 124; refine (HEN.out _ hk3).mono ?_; rintro e W4 ⟨rfl, hk4⟩))
          go_wp2_with fail
          go_ret2
          rw [HN.out]
          exact ⟨_, rfl, ((HA2.out.keeps.trans hk3).trans' hk4 (fun i hi e => by have e' : i = mb := e; omega)).alloc _⟩
        | some q =>
          rw [hE] at hent
          have hent2 : ∀ W, Keeps None' wr W → Calls Tryz.prog 124 #[.pointer (some ⟨mb + 1, 0, none⟩), .int .i64 (nameOf pj kk : Int)] W fun e w' => ∃ pa pc, e = .returned (.tuple #[.agg #[.int .i64 q.e.house, .int .i64 q.e.no, .string (str q.e.body), .slice pa q.pages.length pc], .bool true]) ∧ RootAt w sb (mb + 1) gn cap mb k (rHouses p) (rGen p) pages (.slice (some ⟨b1, o1, none⟩) l.length vc) l (q.pages.reverse ++ st2.1, st2.2) ev2 w' ∧ RInts w' (.slice pa q.pages.length pc) q.pages := fun W hW => (hent W hW).mono fun e w' h => by
            obtain ⟨pv, he, hown, hrd, hkm, hne, hlen⟩ := h
            obtain ⟨pa, pc, rfl, -⟩ := ISlice.of_own hown
            exact ⟨pa, pc, he, (HA2.out.keep hW).entry hmbw q.pages hrd hkm (entryP_some hE), ri_own hown hne⟩
          have HEN := Lib.hid hent2
          have HE := Lib.hid hE
          clear hent hent2 hE
          go_upto_region 22 with (first | (go_at_call 123; refine (HHD.out _).mono ?_; rintro e W2 ⟨rfl, rfl⟩) | (go_at_call 121; refine (HGT.out _ (Keeps.refl _ _)).mono ?_; rintro e W3 ⟨rfl, hk3⟩) | (go_at_call 124; refine (HEN.out _ hk3).mono ?_; rintro e W4 ⟨pa, pc, rfl, hR4, hpv4⟩))
          refine gen_wp (fun W => RootAt w sb (mb + 1) gn cap mb k (rHouses p) (rGen p) pages (.slice (some ⟨b1, o1, none⟩) l.length vc) l (q.pages.reverse ++ st2.1, st2.2) ev2 W ∧ RInts W (.slice pa q.pages.length pc) q.pages ∧ W.heap[W4.heap.size]? = some (.cells #[.int .i64 q.e.house, .int .i64 q.e.no, .string (str q.e.body), .slice pa q.pages.length pc] 121 (0, 0))) ⟨hR4.keep ((Keeps.refl None' W4).alloc _), hpv4.keep ((Keeps.refl None' W4).alloc _) (fun _ _ _ h => h.elim), heap_alloc_new _ _⟩ ?_
          rintro Wd ⟨hRd, hpvd, hbd⟩
          generalize W4.heap.size = eb at *
          clear hR4 hpv4 HEN HGT hsl hcw hw1 hw2 hw3 hk3
          have e0 := cell_of_blk hbd 0 (v := .int .i64 q.e.house) rfl
          have e1 := cell_of_blk hbd 1 (v := .int .i64 q.e.no) rfl
          have e2 := cell_of_blk hbd 2 (v := .string (str q.e.body)) rfl
          have HRD := Lib.hid hRd
          have HPV := Lib.hid hpvd
          have hfo : Calls Tryz.prog 125 #[.pointer (some ⟨sb, 0, none⟩), .agg #[.int .i64 q.e.house, .int .i64 q.e.no, .string (str q.e.body)]] Wd fun r w' => r = .returned (.bool (followsP (rHouses p) st2.2 q.e)) ∧ Keeps None' Wd w' :=
            follows_any Wd sb _ _ _ _ _ st2.2 q.e hRd.blk hRd.placed (Nat.le_trans HA2.out.ok.few hlenw) (fun x hx => by
              have hv := (HA2.out.ok.each x hx).1
              simp only [Ent.valid, Bool.and_eq_true, decide_eq_true_eq] at hv
              omega)
          have HFO := Lib.hid hfo
          clear hfo hRd hpvd
          by_cases hf : followsP (rHouses p) st2.2 q.e = true
          case neg =>
            have hf' : followsP (rHouses p) st2.2 q.e = false := by simpa using hf
            have hn : R = none := by rw [HRP3.out, HF3.out, namesOf_drop pj kk hkl, List.cons_append, rootFold, rootStep, HE.out]; simp [hf']
            rw [hf'] at HFO
            have HN := Lib.hid hn
            clear hn hf hf'
            go_wp2_with (first | (go_at_call 125; refine HFO.out.mono ?_; rintro e W5 ⟨rfl, hk5⟩))
            go_ret2
            rw [HN.out]
            exact ⟨_, rfl, HRD.out.keeps.trans hk5⟩
          rw [hf] at HFO
          have hF5 : rootFold pages (rHouses p) (l.reverse ++ [], []) (names pages l) = rootFold pages (rHouses p) (q.pages.reverse ++ st2.1, st2.2 ++ [q]) ((namesOf pj).drop (kk + 1) ++ names pages (l.drop (a + 1))) := by
            rw [HF3.out, namesOf_drop pj kk hkl, List.cons_append, rootFold, rootStep, HE.out]
            simp only [hf, if_true]
          have HF5 := Lib.hid hF5
          have HOK5 := Lib.hid (HA2.out.ok.step HE.out hf)
          clear hF5 hf
          go_upto_region 24 with (first | (go_at_call 125; refine HFO.out.mono ?_; rintro e W5 ⟨rfl, hk5⟩))
          have hR5 := HRD.out.keep hk5
          have HPV5 := Lib.hid (HPV.out.keep hk5 (fun _ _ _ h => h.elim))
          have hb5 := hk5.blk hbd (fun h => h)
          obtain ⟨r, hr, hro, hrp⟩ := hR5.row
          obtain ⟨ae, cape, rfl⟩ := hR5.placed.shape
          dsimp only at hr hro hrp
          have s3 : W5.drew.cell? ⟨sb, 3, none⟩ = some (.slice ae st2.2.length cape) := cell_of_blk (w := W5.drew) hR5.blk 3 rfl
          have t0 : W5.drew.cell? ⟨eb, 0, none⟩ = some (.int .i64 q.e.house) := cell_of_blk (w := W5.drew) hb5 0 rfl
          have t1 : W5.drew.cell? ⟨eb, 1, none⟩ = some (.int .i64 q.e.no) := cell_of_blk (w := W5.drew) hb5 1 rfl
          have t2 : W5.drew.cell? ⟨eb, 2, none⟩ = some (.string (str q.e.body)) := cell_of_blk (w := W5.drew) hb5 2 rfl
          have t3 : W5.drew.cell? ⟨eb, 3, none⟩ = some (.slice pa q.pages.length pc) := cell_of_blk (w := W5.drew) hb5 3 rfl
          have HR5 := Lib.hid hR5
          have HRO := Lib.hid hro
          have HRP := Lib.hid hrp
          have hfew5 : st2.2.length ≤ 1024 := Nat.le_trans HA2.out.ok.few hlenw
          have hws : w.heap.size ≤ W5.heap.size := hR5.keeps.size
          obtain ⟨i0, hi0, hz0, hz1, hz2⟩ := info_parts info_placed3
          clear hR5 hro hrp hbd hb5 HRD HPV e0 e1 e2 hk5 HFO HA2
          have hsp := slice_placed
          have hkz : Keeps None' W5 (W5.drew.alloc (.cells #[.int .i64 q.e.house, .int .i64 q.e.no, .string (str q.e.body), .slice pa q.pages.length pc] 121)) := ((Keeps.refl None' W5).drew).alloc _
          have hRz := HR5.out.keep hkz
          have hpz := HRP.out.keepI hkz (fun _ _ _ h => h.elim)
          have hvz := HPV5.out.keep hkz (fun _ _ _ h => h.elim)
          have HPUT := Lib.hid (fun (v3 : Value) (W8 : World) (ho : W8.ownsRow w.heap.size 121 4 v3 (st2.2.length + 1) (plCells r ++ [.int .i64 q.e.house, .int .i64 q.e.no, .string (str q.e.body), .slice pa q.pages.length pc])) (hg : (W5.drew.alloc (.cells #[.int .i64 q.e.house, .int .i64 q.e.no, .string (str q.e.body), .slice pa q.pages.length pc] 121)).grownBy W8 (Value.slice ae st2.2.length cape).ownBlock) =>
            hRz.put hsb r hr hpz q _ hvz hg v3 ho HOK5.out)
          have HBLK := Lib.hid (fun (W8 : World) (hg : (W5.drew.alloc (.cells #[.int .i64 q.e.house, .int .i64 q.e.no, .string (str q.e.body), .slice pa q.pages.length pc] 121)).grownBy W8 (Value.slice ae st2.2.length cape).ownBlock) => show W8.cell? ⟨sb, 3, none⟩ = some (.slice ae st2.2.length cape) ∧ W8.frozen? ⟨sb, 3, none⟩ = false from by
            obtain ⟨r1, _, ho1, _⟩ := hRz.row
            have hb8 := (grownBy_keeps hg).blk hRz.blk (fun e => own_ne_type ho1 hRz.blk (by decide) e.symm)
            exact ⟨cell_of_blk hb8 3 rfl, free_of_blk hb8 3⟩)
          have s3z : (W5.alloc (.cells #[.int .i64 q.e.house, .int .i64 q.e.no, .string (str q.e.body), .slice pa q.pages.length pc] 121)).cell? ⟨sb, 3, none⟩ = some (.slice ae st2.2.length cape) := cell_of_blk hRz.blk 3 rfl
          clear hkz hRz hpz hvz
          go_region_law (first | (refine step_append_own rfl _ _ _ rfl w.heap.size 121 i0 (.agg #[.int .i64 0, .int .i64 0, .string ⟨#[]⟩, .slice none 0 0]) 4 56 Tryz.underlying117 hi0 hz0 hz1 hz2 rfl (by decide) (.slice ae st2.2.length cape) st2.2.length (plCells r) rfl (by exact own_keep HRO.out (((Keeps.refl None' W5).drew).alloc _) (fun _ _ h => h)) ⟨W5.heap.size, 0, none⟩ 1 1 [.int .i64 q.e.house, .int .i64 q.e.no, .string (str q.e.body), .slice pa q.pages.length pc] rfl rfl (by intro t u ht; rw [Addr.add_lit, Nat.zero_add]; exact cell_of_blk (w := W5.drew.alloc _) (heap_alloc_new W5.drew _) t (by simpa using ht)) (by simp [Value.oneCell']) (by unfold maxLen; omega) (by omega) (by simp; omega) ?_; intro v3 W8 hown8 hgrow8 hfr8; obtain ⟨av, cv, rfl⟩ := own_shape hown8; have hput := HPUT.out _ W8 hown8 hgrow8; have HPT := Lib.hid hput; have g3 := (HBLK.out W8 hgrow8).1; have f3 := (HBLK.out W8 hgrow8).2; clear hput hown8 hgrow8 hfr8))
          all_goals
            try simp only [Exit.then]
            go_wp2
            go_roundw
            case rel => exact ⟨kk + 1, _, _, by omega, by go_num, HPT.out, HF5.out⟩
            case measure => simp [intOf]; omega
end Go.Proofs.YtlbaagjbehdmgaaGreat
