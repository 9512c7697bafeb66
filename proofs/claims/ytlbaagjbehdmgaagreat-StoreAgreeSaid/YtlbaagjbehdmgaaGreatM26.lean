/- reader.entry. What a root is, in plain Lean. The state that root builds. -/
import Derived.Laws.ResultCell
import Derived.Test.YtlbaagjbehdmgaaGreatM25
namespace Go.Proofs.YtlbaagjbehdmgaaGreat
open Go.RowKit

/-- what a page holds of an entry -/
def contentOf (p : List UInt8) : List UInt8 := (p.drop 3).take (manyOf p)
def joinTo (pages : List (List UInt8)) (l : List Nat) (k : Nat) : List UInt8 := ((l.take k).map fun i => contentOf ((pages[i]?).getD [])).flatten
def joined (pages : List (List UInt8)) (l : List Nat) : List UInt8 := joinTo pages l l.length
theorem joinTo_succ (pages : List (List UInt8)) (l : List Nat) (k i : Nat) (h : l[k]? = some i) : joinTo pages l (k + 1) = joinTo pages l k ++ contentOf ((pages[i]?).getD []) := by
  obtain ⟨hk, rfl⟩ := List.getElem?_eq_some_iff.1 h
  unfold joinTo
  rw [List.take_succ_eq_append_getElem hk, List.map_append, List.flatten_append]
  simp only [List.map_cons, List.map_nil, List.flatten_cons, List.flatten_nil, List.append_nil]
theorem contentOf_le (p : List UInt8) : (contentOf p).length ≤ 255 := by
  have := manyOf_lt p
  simp [contentOf]
  omega
theorem joinTo_le (pages : List (List UInt8)) (l : List Nat) : ∀ k, k ≤ l.length → (joinTo pages l k).length ≤ k * 255 := by
  intro k
  induction k with
  | zero => intro _; simp [joinTo]
  | succ k ih =>
    intro hk
    rw [joinTo_succ pages l k l[k] (by simp), List.length_append]
    have := ih (by omega)
    have := contentOf_le ((pages[l[k]]?).getD [])
    omega
/-- the entry that begins on a page -/
def entryP (pages : List (List UInt8)) (met : List Nat) (i : Nat) : Option Placed :=
  match chainP pages 53 pages.length met i with
  | none => none
  | some l => match joined pages l with
    | a :: b :: r => some ⟨⟨(a.toNat : Int), (b.toNat : Int), r⟩, l⟩
    | _ => none
theorem chainP_mem (pages : List (List UInt8)) (most : Nat) : ∀ (f : Nat) (met : List Nat) (i : Nat) (l : List Nat), chainP pages most f met i = some l → ∀ x ∈ l, ∃ p, pages[x]? = some p ∧ 1 ≤ manyOf p ∧ manyOf p ≤ most := by
  intro f
  induction f with
  | zero => intro met i l h; cases h
  | succ f ih =>
    intro met i l h x hx
    unfold chainP at h
    split at h
    · rename_i hc
      obtain ⟨p, hp⟩ : ∃ p, pages[i]? = some p := by
        unfold canRead at hc
        cases hq : pages[i]? with
        | none => rw [hq] at hc; simp at hc
        | some p => exact ⟨p, rfl⟩
      rw [hp] at h
      simp only [Option.getD_some] at h
      split at h
      · cases h
      · rename_i hb
        have hbb : 1 ≤ manyOf p ∧ manyOf p ≤ most := by
          simp only [badPart, Bool.or_eq_true, decide_eq_true_eq] at hb
          omega
        split at h
        · simp only [Option.some.injEq] at h
          subst h
          simp only [List.mem_singleton] at hx
          subst hx
          exact ⟨p, hp, hbb⟩
        · cases hq : chainP pages most f (i :: met) (nextPg p) with
          | none => rw [hq] at h; cases h
          | some q =>
            rw [hq] at h
            simp only [Option.map_some, Option.some.injEq] at h
            subst h
            rcases List.mem_cons.1 hx with h | h
            · subst h; exact ⟨p, hp, hbb⟩
            · exact ih _ _ _ hq x h
    · cases h
theorem chainP_ne (pages : List (List UInt8)) (most : Nat) (f : Nat) (met : List Nat) (i : Nat) (l : List Nat) (h : chainP pages most f met i = some l) : l ≠ [] := by
  cases f with
  | zero => cases h
  | succ f =>
    unfold chainP at h
    split at h
    · dsimp only at h
      split at h
      · cases h
      · split at h
        · cases h; simp
        · cases hq : chainP pages most f (i :: met) (nextPg ((pages[i]?).getD [])) with
          | none => rw [hq] at h; cases h
          | some q => rw [hq] at h; cases h; simp
    · cases h
theorem str_append (a b : List UInt8) : str a ++ str b = str (a ++ b) := by
  apply ByteArray.ext
  simp [str]
theorem run_slice_pg (W : World) (g o a n : Nat) (h : a + n ≤ 64) (ha : a < 64) :
    (Instr.sliceAt 108 (.pointer (some ⟨g, o, none⟩)) (some (.int .i64 (a : Int))) (some (.int .i64 ((a : Int) + (n : Int)))) none).run Tryz.prog W = .ok (.slice (some ⟨g, o + a, none⟩) n (64 - a)) W := by
  have hs := run_sizeOf (w := W) info_u8
  have e1 : ((a : Int) + (n : Int)).toNat = a + n := by omega
  have e2 : ¬ (64 = a) := by omega
  have e3 : a + n - a = n := by omega
  have hl : Tryz.prog.arrayLen 108 = 64 := by kernel_rfl
  have hel : Tryz.prog.elem 108 = 5 := by kernel_rfl
  have := run_sliceAt_array_lh (P := Tryz.prog) W 108 ⟨g, o, none⟩ (by rw [hl, hel]; exact Tryz.underlying108) .i64 .i64 a (a + n) (by omega) (by omega) (by rw [hl]; omega)
  rw [this, hel, hs, hl, Result.andThen_ok, slicedAt, e1, Int.toNat_natCast, if_neg e2, e3, Addr.add_mid, Nat.mul_one]
theorem results_cell_tmp_mid {P : Program} {fn : Func} {p u : Tmp} {ty : TypeId} (h : fn.results = #[.cell p ty, .tmp u]) (tmps : Array Value) (w : World) (g o : Nat) (cs : List Value) (d : TypeDesc)
    (hp : tmps.getD p undef = .pointer (some ⟨g, o, none⟩)) (hc : w.rangeAt g o cs) (hu : P.underlying ty = some d) (hd : d.isRow = true) (hi : (P.info? ty).map (·.size) = some cs.length) :
    (results fn tmps).run P w = .ok (.tuple #[.agg cs.toArray, tmps.getD u undef]) w := by
  rw [results_cell_tmp h, hp]
  simp [asAddr, run_loadVar_mid w g o ty cs d hc hu hd hi, Result.andThen]
theorem ri_own {w : World} {base : Nat} {v : Value} {l : List Nat} (h : w.ownsRow base 3 1 v l.length (ints l)) (hl : l ≠ []) : RInts w v l := by
  obtain ⟨g, c, cur, he, hb, hc, hmax, hs, ht⟩ := own_block h (List.length_pos_iff.2 hl)
  refine .inr ⟨g, 0, c, cur, he, ⟨hl, hc⟩, hb, fun i x hx => ?_⟩
  have h1 : (ints l)[i]? = some (.int .i64 (x : Int)) := by simp [ints, hx]
  rw [← ht, List.getElem?_take] at h1
  rw [Nat.zero_add]
  split at h1
  · simpa using h1
  · cases h1
/-- the cells of no entry -/
abbrev Zp : Array Value := #[.int .i64 0, .int .i64 0, .string ⟨#[]⟩, .slice none 0 0]
theorem build_none (w : World) : (Instr.build 121 #[]).run Tryz.prog w = .ok (.agg Zp) w := by kernel_rfl
theorem build_ent (w : World) (h n : Int) (s : ByteArray) : (Instr.build 64 #[(0, .int .i64 h), (1, .int .i64 n), (2, .string s)]).run Tryz.prog w = .ok (.agg #[.int .i64 h, .int .i64 n, .string s]) w := by kernel_rfl
theorem build_pl (w : World) (h n : Int) (s : ByteArray) (x : Option Addr) (m c : Nat) : (Instr.build 121 #[(0, .agg #[.int .i64 h, .int .i64 n, .string s]), (1, .slice x m c)]).run Tryz.prog w = .ok (.agg #[.int .i64 h, .int .i64 n, .string s, .slice x m c]) w := by kernel_rfl
theorem index_s0 (w : World) (a b : UInt8) (r : List UInt8) : (Instr.index 9 (.string (str (a :: b :: r))) (.int .i64 0)).run Tryz.prog w = .ok (.int .u8 a.toNat) w := by kernel_rfl
theorem index_s1 (w : World) (a b : UInt8) (r : List UInt8) : (Instr.index 9 (.string (str (a :: b :: r))) (.int .i64 1)).run Tryz.prog w = .ok (.int .u8 b.toNat) w := by kernel_rfl
def EntRet (w : World) (rb gn cap mb n : Nat) (pages : List (List UInt8)) (met : List Nat) (R : Option Placed) (e : Ending) (w' : World) : Prop :=
  match R with
  | none => e = .returned (.tuple #[.agg Zp, .bool false]) ∧ Keeps (One mb) w w'
  | some q => ∃ pv, e = .returned (.tuple #[placedVal q.e pv, .bool true]) ∧ w'.ownsRow w.heap.size 3 1 pv q.pages.length (ints q.pages) ∧ ReaderAt w' rb gn cap mb (n + q.pages.length) pages (q.pages.reverse ++ met) ∧ Keeps (One mb) w w' ∧ q.pages ≠ [] ∧ q.pages.length ≤ 1024

set_option maxRecDepth 100000 in
set_option maxHeartbeats 4000000 in
theorem entry_any (w : World) (rb gn cap mb n : Nat) (pages : List (List UInt8)) (met : List Nat) (i : Nat) (h : ReaderAt w rb gn cap mb n pages met) (hi : i ≤ 70000) (hn : n ≤ 50000) (hmb : mb < w.heap.size) :
    Calls Tryz.prog 124 #[.pointer (some ⟨rb, 0, none⟩), .int .i64 (i : Int)] w fun e w' => EntRet w rb gn cap mb n pages met (entryP pages met i) e w' := by
  have hrlt := lt_of_block h.blk
  have hfew := h.few
  have hk0 : Keeps None' w (w.alloc (.cells Zp 121)) := (Keeps.refl _ _).alloc _
  have hz0 := heap_alloc_new w (.cells Zp 121)
  have hcap : pages.length ≤ cap := by
    rcases h.row.2 with ⟨h, _⟩ | ⟨_, _, _, h, _, _, hc, _⟩
    · cases h
    · injection h with _ _ h; omega
  have HLI := Lib.hid (fun W (k : Keeps None' w W) => list_any W rb gn cap mb n pages met i 53 pages.length (h.keep k) hi hn (by omega) hfew (Nat.lt_of_lt_of_le hmb k.size))
  have c0 := cell_of_blk h.blk 0 rfl
  have H := Lib.hid h
  clear h
  cases hR : chainP pages 53 pages.length met i with
  | none =>
    have HE := Lib.hid (show entryP pages met i = none by simp [entryP, hR])
    rw [hR] at HLI
    clear hR
    go_enter Tryz.func124, Tryz.ntmps124
    have hbn := build_none
    have hthz := fun (W : World) (k : Keeps (One mb) (w.alloc (.cells Zp 121)) W) => there_of_blk (k.blk hz0 (fun e => by have e' : w.heap.size = mb := e; omega)) 0 4 (by decide)
    have HTH := Lib.hid hthz
    clear hthz
    go_wp2_with (first | (refine (HLI.out _ hk0).mono ?_; rintro e W1 ⟨rfl, hk1⟩; have HK1 := Lib.hid hk1; clear hk1) | (refine wpList_store_mid rfl _ _ _ rfl w.heap.size 0 #[.int .i64 0, .int .i64 0, .string ⟨#[]⟩, .slice none 0 0] rfl rfl (HTH.out W1 HK1.out) info_placed (by simp [Value.oneCell']) ?_))
    refine bodyPost_ret (results_cell_tmp_mid rfl _ _ w.heap.size 0 Zp.toList _ rfl (World.rangeAt_setCells_same W1 w.heap.size 0 Zp.toList (HTH.out W1 HK1.out)) Tryz.underlying121 rfl info_placed) rfl ?_
    rw [HE.out]
    exact ⟨rfl, ((hk0.mono (fun _ _ h => h.elim)).trans HK1.out).setCells _ _ _ (Nat.le_refl _)⟩
  | some l =>
    have hmem := chainP_mem pages 53 _ met i l hR
    have hne := chainP_ne pages 53 _ met i l hR
    rw [hR] at HLI
    have hEP : entryP pages met i = (match joined pages l with | a :: b :: r => some ⟨⟨(a.toNat : Int), (b.toNat : Int), r⟩, l⟩ | _ => none) := by simp only [entryP, hR]
    have HE := Lib.hid hEP
    have HM := Lib.hid hmem
    clear hR hmem hEP
    have hthz := fun (W : World) (k : Keeps (One mb) (w.alloc (.cells Zp 121)) W) => there_of_blk (k.blk hz0 (fun e => by have e' : w.heap.size = mb := e; omega)) 0 4 (by decide)
    have HTH := Lib.hid hthz
    have hhd : ∀ W, Calls Tryz.prog 123 #[.int .i64 2] W fun e w' => e = .returned (.int .i64 3) ∧ W = w' := fun W => head_2 W
    have HHD := Lib.hid hhd
    clear hthz hhd
    go_enter Tryz.func124, Tryz.ntmps124
    go_wp2_with (first | (go_at_call 122; refine (HLI.out _ hk0).mono ?_; rintro e W1 ⟨v1, rfl, hown1, hrd1, hk1, hl1⟩; have HO1 := Lib.hid hown1; have HR1 := Lib.hid hrd1; have HK1 := Lib.hid hk1; clear hown1 hrd1 hk1; obtain ⟨va, vc, rfl, -⟩ := ISlice.of_own HO1.out))
    go_loopw [8, 29] (fun sv kv wr => ∃ k : Nat, k ≤ l.length ∧ kv = .int .i64 k ∧ sv = .string (str (joinTo pages l k)) ∧ Keeps None' W1 wr) (fun _ kv _ => l.length - (intOf kv).toNat)
    case atStart => exact ⟨0, Nat.zero_le _, rfl, rfl, Keeps.refl _ _⟩
    case round =>
      obtain ⟨k, hk, rfl, rfl, hkr⟩ := hrel
      have HKR := Lib.hid hkr
      clear hkr
      by_cases hkl : k < l.length
      · obtain ⟨p, hp, hm1, hm2⟩ := HM.out l[k] (List.getElem_mem hkl)
        have hsucc := joinTo_succ pages l k l[k] (by simp [hkl])
        obtain ⟨a1, cc1, he1, hcc1⟩ := ISlice.of_own HO1.out
        injection he1 with h1 _ h3
        subst h1
        subst h3
        obtain ⟨b1, o1, hva, hcell⟩ := hcc1 k l[k] (by simp [hkl])
        clear hcc1
        subst hva
        rw [hp, Option.getD_some] at hsucc
        obtain ⟨hjl, hpe⟩ := List.getElem?_eq_some_iff.1 hp
        have hp64 : p.length = 64 := HR1.out.all64 p (List.mem_of_getElem? hp)
        generalize l[k] = j at *
        have hcj := (HKR.out.cell (p := ⟨b1, o1 + k, none⟩) (block_lt_of_cell hcell) (fun h => h)).trans hcell
        have hrdr := HR1.out.keep HKR.out
        have cr0 := cell_of_blk hrdr.blk 0 rfl
        have hrg : wr.rangeAt gn (j * 64) (p.map bv) := by
          have := page_range hrdr.row hrdr.all64 j hjl
          rw [hpe, Nat.mul_comm] at this
          exact this
        have hx2 : p[2]? = some p[2] := by simp [hp64]
        have hmany : manyOf p = p[2].toNat := by simp [manyOf, hx2]
        have hc2 : wr.drew.cell? ⟨gn, j * 64 + 2, none⟩ = some (.int .u8 (manyOf p : Int)) := by rw [hmany]; exact hrg 2 (bv p[2]) (by simp [hx2])
        have hclen : (contentOf p).length = manyOf p := by simp [contentOf, hp64]; omega
        have hsl : ∀ W : World, (Instr.sliceAt 108 (.pointer (some ⟨gn, j * 64, none⟩)) (some (.int .i64 3)) (some (.int .i64 (3 + (manyOf p : Int)))) none).run Tryz.prog W = .ok (.slice (some ⟨gn, j * 64 + 3, none⟩) (manyOf p) 61) W := fun W => run_slice_pg W gn (j * 64) 3 (manyOf p) (by omega) (by omega)
        have hconv := run_bytes_str (P := Tryz.prog) wr.drew 91 5 9 Tryz.underlying91 Tryz.underlying5 Tryz.underlying9 gn (j * 64 + 3) (manyOf p) 61 (contentOf p) hclen (fun t v ht => by
          rw [contentOf, List.map_take, List.getElem?_take] at ht
          split at ht
          · rw [List.map_drop, List.getElem?_drop] at ht
            have := hrg (3 + t) v ht
            rw [Nat.add_assoc]
            exact this
          · cases ht)
        have hjI : (j : Int) < (pages.length : Int) := by omega
        have hkI : (k : Int) < (l.length : Int) := by omega
        have HSU := Lib.hid hsucc
        have hcle := contentOf_le p
        have hjle := joinTo_le pages l k hk
        have hbig : ¬ (9223372036854775807 < (joinTo pages l k).length + (contentOf p).length) := by omega
        have hml := manyOf_lt p
        have hmw : IntKind.i64.wrap (manyOf p : Int) = (manyOf p : Int) := IntWalk.i64_in _ (by omega)
        have hmw3 : IntKind.i64.wrap (3 + (manyOf p : Int)) = 3 + (manyOf p : Int) := IntWalk.i64_in _ (by omega)
        clear hsucc hrdr hrg hmany hclen hp hx2 hcell hm1 hm2 hpe
        go_upto_region 10 with (first | (go_at_call 123; refine (HHD.out _).mono ?_; rintro e W2 ⟨rfl, rfl⟩))
        refine wp_region_still_tail 13 (by kernel_rfl) (by kernel_rfl) ?_
        simp only [List.take_succ_cons, List.take_zero, List.drop_succ_cons, List.drop_zero]
        iterate 13 still_step
        refine wpStill_nil ?_
        change wpList _ _ _ _ _ wr.drew
        have hkn := HKR.out.drew
        have HSU2 : str (joinTo pages l k) ++ str (contentOf p) = str (joinTo pages l (k + 1)) := by rw [HSU.out, str_append]
        have HS2 := Lib.hid HSU2
        clear hbig hconv hsl hc2 hcj cr0 HSU2 hmw hmw3
        go_wp2
        go_roundw
        case rel => exact ⟨k + 1, by omega, by go_num, by rw [← HS2.out], hkn⟩
        case measure => simp [intOf]; omega
      · obtain rfl : k = l.length := by omega
        have hjle := joinTo_le pages l l.length hk
        have hjeq : joinTo pages l l.length = joined pages l := rfl
        rw [hjeq] at *
        have hrdr := HR1.out.keep HKR.out
        have HRR := Lib.hid hrdr
        have HOR := Lib.hid (own_keep HO1.out HKR.out (fun _ _ h => h))
        have hKO := (hk0.mono (S' := One mb) (fun _ _ h => h.elim)).trans (HK1.out.trans (HKR.out.mono (S' := One mb) (fun _ _ h => h.elim)))
        have HKO := Lib.hid hKO
        have hthr := HTH.out wr (HK1.out.trans (HKR.out.mono (fun _ _ h => h.elim)))
        clear hjeq hrdr hKO hkl hk
        rcases hJ : joined pages l with _ | ⟨a, _ | ⟨b, r⟩⟩
        case' nil =>
          have HNO := Lib.hid (show entryP pages met i = none by rw [HE.out, hJ])
          have hs2 : (str ([] : List UInt8)).size = 0 := rfl
        case' cons.nil =>
          have HNO := Lib.hid (show entryP pages met i = none by rw [HE.out, hJ])
          have hs2 : (str [a]).size = 1 := rfl
        case cons.cons =>
          have HYES := Lib.hid (show entryP pages met i = some ⟨⟨(a.toNat : Int), (b.toNat : Int), r⟩, l⟩ by rw [HE.out, hJ])
          have hsz : (str (a :: b :: r)).size = r.length + 2 := by rw [str_size]; rfl
          have hrl : r.length ≤ 300000 := by
            have := congrArg List.length hJ
            simp at this
            have h2 : (joined pages l).length ≤ l.length * 255 := hjle
            omega
          have hi0 := fun W => index_s0 W a b r
          have hi1 := fun W => index_s1 W a b r
          have hbe := build_ent
          have hbp := build_pl
          have haw : IntKind.i64.wrap (a.toNat : Int) = (a.toNat : Int) := IntWalk.i64_in _ (by have := a.toNat_lt; omega)
          have hbw : IntKind.i64.wrap (b.toNat : Int) = (b.toNat : Int) := IntWalk.i64_in _ (by have := b.toNat_lt; omega)
          have hex : (str (a :: b :: r)).extract 2 (r.length + 2) = str r := by
            rw [extract_str]
            simp
          clear hJ hjle
          go_upto_region 14 with (first | fail)
          refine wp_region_still_tail 11 (by kernel_rfl) (by kernel_rfl) ?_
          simp only [List.take_succ_cons, List.take_zero, List.drop_succ_cons, List.drop_zero]
          iterate 11 still_step
          refine wpStill_nil ?_
          change wpList _ _ _ _ _ wr.drew
          clear hi0 hi1 hbe hbp hex
          have hthd : wr.drew.there w.heap.size 0 4 := hthr
          go_wp2_with (first | (refine wpList_store_mid rfl _ _ _ rfl w.heap.size 0 #[.int .i64 (a.toNat : Int), .int .i64 (b.toNat : Int), .string (str r), .slice va l.length vc] rfl rfl hthd info_placed (by simp [Value.oneCell']) ?_))
          refine bodyPost_ret (results_cell_tmp_mid rfl _ _ w.heap.size 0 [.int .i64 (a.toNat : Int), .int .i64 (b.toNat : Int), .string (str r), .slice va l.length vc] _ rfl (World.rangeAt_setCells_same wr.drew w.heap.size 0 _ hthd) Tryz.underlying121 rfl info_placed) rfl ?_
          rw [HYES.out]
          have hks : Keeps (One w.heap.size) wr (wr.drew.setCells w.heap.size 0 [.int .i64 (a.toNat : Int), .int .i64 (b.toNat : Int), .string (str r), .slice va l.length vc]) := ((Keeps.refl (One w.heap.size) wr).drew).trans (keeps_setCells _ _ _ _)
          have hgn : gn < w.heap.size := (own_type H.out.row (b := gn) rfl).elim fun _ h => lt_of_block h
          have hsz1 : (w.alloc (.cells Zp 121)).heap.size = w.heap.size + 1 := by simp
          refine ⟨.slice va l.length vc, rfl, ?_, ?_, HKO.out.drew.setCells _ _ _ (Nat.le_refl _), hne, hl1⟩
          · refine own_base (own_keep HOR.out hks (fun b' hb e => ?_)) (by rw [hsz1]; omega)
            have h1 := (HOR.out.lt b' hb).1
            rw [hsz1] at h1
            have e' : b' = w.heap.size := e
            omega
          · exact HRR.out.keepS hks (fun e => by have e' : rb = w.heap.size := e; omega) (fun e => by have e' : gn = w.heap.size := e; omega) (fun e => by have e' : mb = w.heap.size := e; omega)
        all_goals
          clear hJ
          have hbn := build_none
          go_wp2_with (first | (refine wpList_store_mid rfl _ _ _ rfl w.heap.size 0 #[.int .i64 0, .int .i64 0, .string ⟨#[]⟩, .slice none 0 0] rfl rfl hthr info_placed (by simp [Value.oneCell']) ?_))
          refine bodyPost_ret (results_cell_tmp_mid rfl _ _ w.heap.size 0 Zp.toList _ rfl (World.rangeAt_setCells_same wr w.heap.size 0 Zp.toList hthr) Tryz.underlying121 rfl info_placed) rfl ?_
          rw [HNO.out]
          exact ⟨rfl, HKO.out.setCells _ _ _ (Nat.le_refl _)⟩
end Go.Proofs.YtlbaagjbehdmgaaGreat

namespace Go.Proofs.YtlbaagjbehdmgaaGreat

theorem nodup_len : ∀ (n : Nat) (l : List Nat), l.Nodup → (∀ x ∈ l, x < n) → l.length ≤ n := by
  intro n
  induction n with
  | zero =>
    intro l _ h
    cases l with
    | nil => simp
    | cons a l => exact absurd (h a List.mem_cons_self) (by omega)
  | succ n ih =>
    intro l hd h
    have h1 := ih (l.erase n) (hd.erase n) (fun x hx => by
      rw [hd.mem_erase_iff] at hx
      have := h x hx.2
      omega)
    by_cases hn : n ∈ l
    · rw [List.length_erase_of_mem hn] at h1; omega
    · rw [List.erase_of_not_mem hn] at h1; omega

def rHouses (p : List UInt8) : Nat := ((p[8]?).getD 0).toNat
def rGen (p : List UInt8) : Nat := num (p.take 8)
def rMany (p : List UInt8) : Nat := num ((p.drop 9).take 2)
def rIndex (p : List UInt8) : Nat := num ((p.drop 11).take 2)
def rootBad (at_ : Nat) (p : List UInt8) : Bool :=
  !soundP at_ p || decide (rGen p < 1) || decide (9223372036854775808 ≤ rGen p) || decide (rHouses p < 1) || decide (8 < rHouses p) || (decide (rMany p = 0) != decide (rIndex p = 0))
/-- the pages that a page of an index names -/
def nameOf (p : List UInt8) (k : Nat) : Nat := num ((p.drop (3 + 2 * k)).take 2)
def namesOf (p : List UInt8) : List Nat := (List.range (manyOf p)).map (nameOf p)
def names (pages : List (List UInt8)) (l : List Nat) : List Nat := (l.map fun i => namesOf ((pages[i]?).getD [])).flatten
def rootStep (pages : List (List UInt8)) (h : Nat) (st : List Nat × List Placed) (j : Nat) : Option (List Nat × List Placed) :=
  match entryP pages st.1 j with
  | none => none
  | some q => if followsP h st.2 q.e = true then some (q.pages.reverse ++ st.1, st.2 ++ [q]) else none
def rootFold (pages : List (List UInt8)) (h : Nat) : List Nat × List Placed → List Nat → Option (List Nat × List Placed)
  | st, [] => some st
  | st, j :: js => match rootStep pages h st j with
    | none => none
    | some st' => rootFold pages h st' js
/-- the state of a root, if it is whole -/
def rootP (pages : List (List UInt8)) (at_ : Nat) : Option St :=
  let p := (pages[at_]?).getD []
  if rootBad at_ p = true then none else
  if rMany p = 0 then some ⟨at_, rHouses p, rGen p, [], []⟩ else
  match chainP pages 26 pages.length [] (rIndex p) with
  | none => none
  | some l => match rootFold pages (rHouses p) (l.reverse ++ [], []) (names pages l) with
    | none => none
    | some st => if st.2.length = rMany p then some ⟨at_, rHouses p, rGen p, st.2, l⟩ else none

theorem canRead_lt {pages : List (List UInt8)} {met : List Nat} {i : Nat} (h : canRead pages met i = true) : i < pages.length ∧ i ∉ met := by
  unfold canRead at h
  cases hq : pages[i]? with
  | none => rw [hq] at h; simp at h
  | some p =>
    rw [hq] at h
    simp at h
    exact ⟨(List.getElem?_eq_some_iff.1 hq).1, h.2.1⟩
theorem chainP_ok (pages : List (List UInt8)) (most : Nat) : ∀ (f : Nat) (met : List Nat) (i : Nat) (l : List Nat), chainP pages most f met i = some l → met.Nodup → (∀ x ∈ met, x < pages.length) →
    (l.reverse ++ met).Nodup ∧ (∀ x ∈ l.reverse ++ met, x < pages.length) ∧ l.length ≤ f := by
  intro f
  induction f with
  | zero => intro met i l h; cases h
  | succ f ih =>
    intro met i l h hd hl
    unfold chainP at h
    split at h
    · rename_i hc
      obtain ⟨hi, hn⟩ := canRead_lt hc
      have hd' : (i :: met).Nodup := List.nodup_cons.2 ⟨hn, hd⟩
      have hl' : ∀ x ∈ i :: met, x < pages.length := fun x hx => by
        rcases List.mem_cons.1 hx with h | h
        · rw [h]; exact hi
        · exact hl x h
      dsimp only at h
      split at h
      · cases h
      · split at h
        · simp only [Option.some.injEq] at h
          subst h
          exact ⟨by simpa using hd', by simpa using hl', by simp⟩
        · cases hq : chainP pages most f (i :: met) (nextPg ((pages[i]?).getD [])) with
          | none => rw [hq] at h; cases h
          | some q =>
            rw [hq] at h
            simp only [Option.map_some, Option.some.injEq] at h
            subst h
            have := ih _ _ _ hq hd' hl'
            rw [show (i :: q).reverse ++ met = q.reverse ++ i :: met by simp]
            exact ⟨this.1, this.2.1, by simp; omega⟩
    · cases h
/-- what the fold keeps -/
structure FoldOk (pages : List (List UInt8)) (st : List Nat × List Placed) : Prop where
  nodup : st.1.Nodup
  lt : ∀ x ∈ st.1, x < pages.length
  few : st.2.length ≤ st.1.length
  each : ∀ p ∈ st.2, p.e.valid = true ∧ p.pages ≠ [] ∧ p.pages.length ≤ pages.length ∧ ∀ x ∈ p.pages, x < pages.length
theorem FoldOk.len {pages : List (List UInt8)} {st : List Nat × List Placed} (h : FoldOk pages st) : st.1.length ≤ pages.length := nodup_len _ _ h.nodup h.lt
theorem follows_valid {h : Int} {l : List Placed} {e : Ent} (hf : followsP h l e = true) : e.valid = true := by
  unfold followsP at hf
  simp only [Bool.and_eq_true] at hf
  exact hf.1.1
theorem entryP_some {pages : List (List UInt8)} {met : List Nat} {i : Nat} {q : Placed} (h : entryP pages met i = some q) : chainP pages 53 pages.length met i = some q.pages := by
  unfold entryP at h
  cases hc : chainP pages 53 pages.length met i with
  | none => rw [hc] at h; cases h
  | some l =>
    rw [hc] at h
    dsimp only at h
    split at h
    · cases h; rfl
    · cases h
theorem FoldOk.step {pages : List (List UInt8)} {h : Nat} {st : List Nat × List Placed} {j : Nat} {q : Placed} (H : FoldOk pages st) (he : entryP pages st.1 j = some q) (hf : followsP h st.2 q.e = true) : FoldOk pages (q.pages.reverse ++ st.1, st.2 ++ [q]) := by
  have hc := entryP_some he
  obtain ⟨h1, h2, h3⟩ := chainP_ok pages 53 _ _ _ _ hc H.nodup H.lt
  have hne := chainP_ne pages 53 _ _ _ _ hc
  refine ⟨h1, h2, ?_, ?_⟩
  · have := H.few
    have := List.length_pos_iff.2 hne
    simp
    omega
  · intro p hp
    rcases List.mem_append.1 hp with hp | hp
    · exact H.each p hp
    · simp only [List.mem_singleton] at hp
      subst hp
      exact ⟨follows_valid hf, hne, h3, fun x hx => h2 x (by simp [hx])⟩
theorem FoldOk.start {pages : List (List UInt8)} {i : Nat} {l : List Nat} (h : chainP pages 26 pages.length [] i = some l) : FoldOk pages (l.reverse ++ [], []) := by
  obtain ⟨h1, h2, h3⟩ := chainP_ok pages 26 _ _ _ _ h List.nodup_nil (fun x hx => by cases hx)
  exact ⟨h1, h2, Nat.zero_le _, fun p hp => by cases hp⟩
theorem names_cons (pages : List (List UInt8)) (l : List Nat) (k i : Nat) (h : l[k]? = some i) : names pages (l.drop k) = namesOf ((pages[i]?).getD []) ++ names pages (l.drop (k + 1)) := by
  obtain ⟨hk, rfl⟩ := List.getElem?_eq_some_iff.1 h
  unfold names
  rw [List.drop_eq_getElem_cons hk, List.map_cons, List.flatten_cons]
theorem namesOf_drop (p : List UInt8) (k : Nat) (h : k < manyOf p) : (namesOf p).drop k = nameOf p k :: (namesOf p).drop (k + 1) := by
  have hl : (namesOf p).length = manyOf p := by simp [namesOf]
  rw [List.drop_eq_getElem_cons (by omega)]
  simp [namesOf]
theorem namesOf_done (p : List UInt8) : (namesOf p).drop (manyOf p) = [] := List.drop_eq_nil_of_le (by simp [namesOf])
theorem rootFold_append (pages : List (List UInt8)) (h : Nat) (st : List Nat × List Placed) (a b : List Nat) : rootFold pages h st (a ++ b) = (match rootFold pages h st a with | none => none | some s => rootFold pages h s b) := by
  induction a generalizing st with
  | nil => rfl
  | cons j a ih =>
    simp only [List.cons_append, rootFold]
    cases rootStep pages h st j with
    | none => rfl
    | some s => exact ih s
theorem rHouses_lt (p : List UInt8) : rHouses p < 256 := (((p[8]?).getD 0).toNat_lt)
theorem rGen_lt (p : List UInt8) : rGen p < 18446744073709551616 := by
  have h := num_lt (p.take 8)
  refine Nat.lt_of_lt_of_le h ?_
  calc 256 ^ (p.take 8).length ≤ 256 ^ 8 := Nat.pow_le_pow_right (by omega) (by simp; omega)
    _ = 18446744073709551616 := by decide
theorem num2_lt (l : List UInt8) : num (l.take 2) < 65536 := by
  have h := num_lt (l.take 2)
  refine Nat.lt_of_lt_of_le h ?_
  calc 256 ^ (l.take 2).length ≤ 256 ^ 2 := Nat.pow_le_pow_right (by omega) (by simp; omega)
    _ = 65536 := by decide
end Go.Proofs.YtlbaagjbehdmgaaGreat

namespace Go.Proofs.YtlbaagjbehdmgaaGreat
open Go.RowKit Go.Maps

/-- the rest of a walk, behind several orders -/
theorem rest_of {Goal : Prop} (w : World) (G : World → Prop) (h1 : (∀ W, Keeps None' w W → G W) → Goal) (h2 : ∀ W, Keeps None' w W → G W) : Goal := h1 h2
theorem isSet_empty (w : World) : IsSet (w.alloc (.map #[] 0)) w.heap.size 0 [] :=
  ⟨.map [], World.ownsMap_made _ _ _ _, fun k _ => by simp; rfl⟩
theorem IsSet.ne {w : World} {mb n : Nat} {met : List Nat} (h : IsSet w mb n met) {b : Nat} {cs : Array Value} {t : TypeId} {fr : Nat × Nat} (hb : w.heap[b]? = some (.cells cs t fr)) : b ≠ mb := fun e => by
  obtain ⟨D, ⟨es, clock, hm, _⟩, _⟩ := h
  rw [e, hm] at hb; cases hb
theorem IsSet.spares {w : World} {mb n : Nat} {met : List Nat} (h : IsSet w mb n met) : Spares (One mb) w := fun _ _ _ _ hS hb => absurd hS (h.ne hb)
theorem PagesAt.keepI {S : Nat → Prop} {w w' : World} {r : List (Ent × Value)} {l : List Placed} (h : PagesAt w r l) (k : Keeps S w w') (hs : ∀ b cs fr, S b → w.heap[b]? ≠ some (.cells cs 3 fr)) : PagesAt w' r l :=
  ⟨h.1, fun i x p hx hp => ⟨(h.2 i x p hx hp).1, (h.2 i x p hx hp).2.keep k hs⟩⟩
theorem own_shape {w : World} {base : Nat} {e : TypeId} {size : Nat} {v : Value} {n : Nat} {xs : List Value} (h : w.ownsRow base e size v n xs) : ∃ a c, v = .slice a n c := by
  rcases h.2 with ⟨rfl, hn⟩ | ⟨g, cap, cur, rfl, _⟩
  · exact ⟨none, 0, by rw [hn]⟩
  · exact ⟨_, _, rfl⟩
structure RootAt (w : World) (sb rb gn cap mb k h g : Nat) (pages : List (List UInt8)) (lv : Value) (l : List Nat) (st : List Nat × List Placed) (ev : Value) (wr : World) : Prop where
  blk : StBlk wr sb k h g ev lv
  row : ∃ r : List (Ent × Value), r.length = st.2.length ∧ wr.ownsRow w.heap.size 121 4 ev st.2.length (plCells r) ∧ PagesAt wr r st.2
  nilv : st.2 = [] → ev = .slice none 0 0
  idx : wr.ownsRow w.heap.size 3 1 lv l.length (ints l)
  rd : ReaderAt wr rb gn cap mb st.1.length pages st.1
  ok : FoldOk pages st
  keeps : Keeps None' w wr
theorem RootAt.placed {w : World} {sb rb gn cap mb k h g : Nat} {pages : List (List UInt8)} {lv : Value} {l : List Nat} {st : List Nat × List Placed} {ev : Value} {wr : World} (H : RootAt w sb rb gn cap mb k h g pages lv l st ev wr) : RPlaced wr ev st.2 := by
  by_cases e : st.2 = []
  · exact .inl ⟨H.nilv e, e⟩
  · obtain ⟨r, hr, ho, hp⟩ := H.row
    rw [← hr] at ho
    exact rplaced_of_own ho hp e
theorem RootAt.state {w : World} {sb rb gn cap mb k h g : Nat} {pages : List (List UInt8)} {lv : Value} {l : List Nat} {st : List Nat × List Placed} {ev : Value} {wr : World} (H : RootAt w sb rb gn cap mb k h g pages lv l st ev wr)
    (hk : k ≤ 1) (h1 : 1 ≤ h) (h8 : h ≤ 8) (hg : (g : Int) ≤ 9223372036854775807) (hl : l ≠ []) (hl2 : l.length ≤ 1024) (hlx : ∀ x ∈ l, x < 1024) (hp : pages.length ≤ 1024) : IsState wr sb ⟨k, h, g, st.2, l⟩ := by
  have := H.ok.few
  have := H.ok.len
  refine ⟨ev, lv, H.blk, H.placed, ri_own H.idx hl, hk, h1, h8, hg, (by show st.2.length ≤ 1024; omega), hl2, hlx, fun p hpp => ?_⟩
  obtain ⟨a, b, c, d⟩ := H.ok.each p hpp
  exact ⟨a, b, Nat.le_trans c hp, fun x hx => Nat.lt_of_lt_of_le (d x hx) hp⟩
theorem RootAt.keep {w : World} {sb rb gn cap mb k h g : Nat} {pages : List (List UInt8)} {lv : Value} {l : List Nat} {st : List Nat × List Placed} {ev : Value} {wr W : World} (H : RootAt w sb rb gn cap mb k h g pages lv l st ev wr) (hk : Keeps None' wr W) : RootAt w sb rb gn cap mb k h g pages lv l st ev W := by
  obtain ⟨r, hr, ho, hp⟩ := H.row
  exact ⟨hk.blk H.blk (fun h => h), ⟨r, hr, own_keep ho hk (fun _ _ h => h), hp.keepI hk (fun _ _ _ h => h.elim)⟩, H.nilv, own_keep H.idx hk (fun _ _ h => h), H.rd.keep hk, H.ok, H.keeps.trans hk⟩
theorem RootAt.entry {w : World} {sb rb gn cap mb k h g : Nat} {pages : List (List UInt8)} {lv : Value} {l : List Nat} {st : List Nat × List Placed} {ev : Value} {wr W : World} (H : RootAt w sb rb gn cap mb k h g pages lv l st ev wr) (hm : w.heap.size ≤ mb)
    (ps : List Nat) (hrd : ReaderAt W rb gn cap mb (st.1.length + ps.length) pages (ps.reverse ++ st.1)) (hk : Keeps (One mb) wr W) {i : Nat} (hc : chainP pages 53 pages.length st.1 i = some ps) : RootAt w sb rb gn cap mb k h g pages lv l (ps.reverse ++ st.1, st.2) ev W := by
  obtain ⟨r, hr, ho, hp⟩ := H.row
  obtain ⟨h1, h2, _⟩ := chainP_ok pages 53 _ _ _ _ hc H.ok.nodup H.ok.lt
  refine ⟨hk.blk H.blk (H.rd.set.ne H.blk), ⟨r, hr, own_keep ho hk (fun b hb e => ?_), hp.keepI hk (fun b cs fr e hb => H.rd.set.ne hb e)⟩, H.nilv, own_keep H.idx hk (fun b hb e => ?_), ?_, ⟨h1, h2, ?_, H.ok.each⟩, H.keeps.trans' hk (fun i hi e => ?_)⟩
  · obtain ⟨cs, hc⟩ := own_type ho hb
    exact H.rd.set.ne hc e
  · obtain ⟨cs, hc⟩ := own_type H.idx hb
    exact H.rd.set.ne hc e
  · have : (ps.reverse ++ st.1).length = st.1.length + ps.length := by simp; omega
    show ReaderAt W rb gn cap mb (ps.reverse ++ st.1).length pages (ps.reverse ++ st.1)
    rw [this]
    exact hrd
  · have := H.ok.few
    show st.2.length ≤ (ps.reverse ++ st.1).length
    simp
    omega
  · have e' : i = mb := e
    omega
theorem RootAt.put {w : World} {sb rb gn cap mb k h g : Nat} {pages : List (List UInt8)} {lv : Value} {l met : List Nat} {acc : List Placed} {ev : Value} {W W8 : World} (H : RootAt w sb rb gn cap mb k h g pages lv l (met, acc) ev W) (hs : w.heap.size ≤ sb)
    (r : List (Ent × Value)) (hr : r.length = acc.length) (hp : PagesAt W r acc) (q : Placed) (pv : Value) (hpv : RInts W pv q.pages) (hg : W.grownBy W8 ev.ownBlock) (v3 : Value)
    (hown : W8.ownsRow w.heap.size 121 4 v3 (acc.length + 1) (plCells r ++ plCells [(q.e, pv)])) (hok : FoldOk pages (met, acc ++ [q])) :
    RootAt w sb rb gn cap mb k h g pages lv l (met, acc ++ [q]) v3 (W8.setCell ⟨sb, 3, none⟩ v3) := by
  have hk := grownBy_keeps hg
  obtain ⟨r0, hr0, ho0, _⟩ := H.row
  have hne : ∀ b cs t fr, W.heap[b]? = some (.cells cs t fr) → t ≠ 121 → ¬ (some b = ev.ownBlock) := fun b cs t fr hb ht e => own_ne_type ho0 hb ht e.symm
  have hk3 := Keeps.set1 W8 sb 3 v3
  have hb8 := hk.blk H.blk (hne _ _ _ _ H.blk (by decide))
  have hne3 : ∀ b cs t fr, W8.heap[b]? = some (.cells cs t fr) → t ≠ 119 → ¬ (One sb b) := fun b cs t fr hb ht e => by
    have e' : b = sb := e
    rw [e', hb8] at hb
    cases hb
    exact ht rfl
  have hkk : Keeps (fun i => some i = ev.ownBlock ∨ i = sb) W (W8.setCell ⟨sb, 3, none⟩ v3) := (hk.mono (fun _ _ h => .inl h)).trans (hk3.mono (fun _ _ h => .inr h))
  have hkk' : ∀ b cs t fr, W.heap[b]? = some (.cells cs t fr) → t ≠ 121 → t ≠ 119 → ¬ (some b = ev.ownBlock ∨ b = sb) := fun b cs t fr hb h1 h2 e => by
    rcases e with e | e
    · exact hne b cs t fr hb h1 e
    · rw [e, H.blk] at hb
      cases hb
      exact h2 rfl
  have hpa : PagesAt (W8.setCell ⟨sb, 3, none⟩ v3) (r ++ [(q.e, pv)]) (acc ++ [q]) := by
    have h1 := hp.keepI hkk (fun b cs fr hS hb => hkk' _ _ _ _ hb (by decide) (by decide) hS)
    have h2 := hpv.keep hkk (fun b cs fr hS hb => hkk' _ _ _ _ hb (by decide) (by decide) hS)
    refine ⟨by simp [hr], fun i x p hx hpp => ?_⟩
    by_cases hi : i < acc.length
    · rw [List.getElem?_append_left (by omega)] at hx
      rw [List.getElem?_append_left hi] at hpp
      exact h1.2 i x p hx hpp
    · rw [List.getElem?_append_right (by omega)] at hx
      rw [List.getElem?_append_right (by omega)] at hpp
      rw [hr] at hx
      cases hz : i - acc.length with
      | zero =>
        rw [hz] at hx hpp
        simp only [List.getElem?_cons_zero, Option.some.injEq] at hx hpp
        subst hx
        subst hpp
        exact ⟨rfl, h2⟩
      | succ n => rw [hz] at hx; simp at hx
  refine ⟨heap_setCell_same _ _ 3 _ _ v3 hb8, ⟨r ++ [(q.e, pv)], by simp [hr], ?_, hpa⟩, fun e => by simp at e, own_keep H.idx hkk (fun b hb hS => ?_), ?_, hok, H.keeps.trans' hkk (fun i hi hS => ?_)⟩
  · rw [plCells_append]
    have : (acc ++ [q]).length = acc.length + 1 := by simp
    rw [this]
    refine own_keep hown hk3 (fun b hb => ?_)
    obtain ⟨cs, hc⟩ := own_type hown hb
    exact hne3 b _ _ _ hc (by decide)
  · obtain ⟨cs, hc⟩ := own_type H.idx hb
    exact hkk' _ _ _ _ hc (by decide) (by decide) hS
  · refine H.rd.keepS hkk (hkk' _ _ _ _ H.rd.blk (by decide) (by decide)) ?_ ?_
    · obtain ⟨cs, hc⟩ := own_type H.rd.row (b := gn) rfl
      exact hkk' _ _ _ _ hc (by decide) (by decide)
    · rintro (e | e)
      · obtain ⟨cs, hc⟩ := own_type ho0 e.symm
        exact H.rd.set.ne hc rfl
      · rw [e] at H
        exact H.rd.set.ne H.blk rfl
  · rcases hS with e | e
    · have := (ho0.lt i e.symm).1
      omega
    · omega
end Go.Proofs.YtlbaagjbehdmgaaGreat
