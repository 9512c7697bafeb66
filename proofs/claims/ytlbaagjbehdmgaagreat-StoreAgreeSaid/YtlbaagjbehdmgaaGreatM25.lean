/- reader.read. reader.list. -/
import Derived.Maps.OwnOps
import Derived.Test.YtlbaagjbehdmgaaGreatM24
namespace Go.Proofs.YtlbaagjbehdmgaaGreat
open Go.RowKit Go.Maps

/-- block mb is a set of numbers -/
def IsSet (w : World) (mb n : Nat) (met : List Nat) : Prop := ∃ D : DataW Unit, w.ownsMap Tryz.prog 3 (plainElem Tryz.prog 4) mb n D ∧ ∀ k : Nat, k ≤ 100000 → D.atKey (.int .i64 (k : Int)) (.lit (.bool false)) = .lit (.bool (decide (k ∈ met)))
theorem key_ok (k : Nat) (h : k ≤ 100000) : keyOf Tryz.prog 3 (.int .i64 (k : Int)) = some (.int .i64 (k : Int)) := keyOf_int_mk Tryz.underlying3 (WalkArith.wf_i64 (by omega))
set_option maxRecDepth 100000 in
theorem IsSet.look {w : World} {mb n : Nat} {met : List Nat} (h : IsSet w mb n met) (k : Nat) (hk : k ≤ 100000) : (Instr.lookup 172 (.map (some mb)) (.int .i64 (k : Int)) false).run Tryz.prog w = .ok (.bool (decide (k ∈ met))) w := by
  obtain ⟨D, ho, hD⟩ := h
  obtain ⟨v, ps, hrun, hv⟩ := ho.lookup (t := 172) (e := 4) (int_keyed Tryz.underlying3) Tryz.underlying172 (z := .bool false) (by kernel_rfl) (plainElem_bool Tryz.underlying4 false) (key_ok k hk)
  rw [hD k hk] at hv
  unfold plainElem at hv
  rw [Tryz.underlying4] at hv
  cases v <;> simp at hv
  rw [hrun, hv.1]
set_option maxRecDepth 100000 in
theorem IsSet.store {w : World} {mb n : Nat} {met : List Nat} (h : IsSet w mb n met) (k : Nat) (hk : k ≤ 100000) (hn : n ≤ 100000) : ∃ w', (Instr.mapUpdate 172 (.map (some mb)) (.int .i64 (k : Int)) (.bool true)).run Tryz.prog w = .ok () w' ∧ IsSet w' mb (n + 1) (k :: met) ∧ w.grownBy w' (some mb) := by
  obtain ⟨D, ho, hD⟩ := h
  obtain ⟨w', hrun, ho', hg⟩ := ho.update (t := 172) (e := 4) (int_keyed Tryz.underlying3) Tryz.underlying172 (by unfold maxLen; omega) (key_ok k hk) (plainElem_bool Tryz.underlying4 true)
  refine ⟨w', hrun, ⟨_, ho', fun j hj => ?_⟩, hg⟩
  have hm : IsMap D := by obtain ⟨es, clock, _, _, _, e⟩ := ho; exact ⟨_, e⟩
  by_cases e : j = k
  · subst e
    rw [atKey_put_same hm (by simp [WideAt.IsKeyLit])]
    simp
  · rw [atKey_put_other (by simp; omega), hD j hj]
    simp [e]
theorem IsSet.keep {S : Nat → Prop} {w w' : World} {mb n : Nat} {met : List Nat} (h : IsSet w mb n met) (k : Keeps S w w') (hs : ¬ S mb) : IsSet w' mb n met := by
  obtain ⟨D, ⟨es, clock, hb, F, hn, e⟩, hD⟩ := h
  exact ⟨D, ⟨es, clock, k.blk hb hs, F, hn, e⟩, hD⟩
theorem list_setStore {w : World} {ops : Array Oper} {rest : List Oper} {o : Oper} {a : Act} {Q : Exit → Act → World → Prop} (hg : o.guard = none) (m x v : Operand) (hop : o.op = Op.mapUpdate 172 m x v)
    (mb n k : Nat) (met : List Nat) (hm : a.eval m = .map (some mb)) (hx : a.eval x = .int .i64 (k : Int)) (hv : a.eval v = .bool true) (hs : IsSet w mb n met) (hk : k ≤ 100000) (hn : n ≤ 100000)
    (hK : ∀ w', IsSet w' mb (n + 1) (k :: met) → w.grownBy w' (some mb) → wpList Tryz.prog ops Q rest (a.put o.dst undef) w') : wpList Tryz.prog ops Q (o :: rest) a w := by
  refine wpList_plain hg fun K' hK' => ?_
  obtain ⟨w', hrun, r1, r2⟩ := hs.store k hk hn
  unfold Oper.wp
  simp [execOp, hop, hm, hx, hv, hrun, Result.andThen]
  exact hK' _ _ (hK w' r1 r2)

/-- a reader of pages -/
structure ReaderAt (w : World) (rb gn cap mb n : Nat) (pages : List (List UInt8)) (met : List Nat) : Prop where
  blk : w.heap[rb]? = some (.cells #[.slice (some ⟨gn, 0, none⟩) pages.length cap, .map (some mb)] 174 (0, 0))
  row : w.ownsRow 0 108 64 (.slice (some ⟨gn, 0, none⟩) pages.length cap) pages.length (pageCells pages)
  all64 : ∀ p ∈ pages, p.length = 64
  few : pages.length ≤ 1024
  set : IsSet w mb n met
theorem ReaderAt.keep {w w' : World} {rb gn cap mb n : Nat} {pages : List (List UInt8)} {met : List Nat} (h : ReaderAt w rb gn cap mb n pages met) (k : Keeps None' w w') : ReaderAt w' rb gn cap mb n pages met :=
  ⟨k.blk h.blk (fun h => h), own_keep h.row k (fun _ _ h => h), h.all64, h.few, h.set.keep k (fun h => h)⟩
theorem ReaderAt.keepS {S : Nat → Prop} {w w' : World} {rb gn cap mb n : Nat} {pages : List (List UInt8)} {met : List Nat} (h : ReaderAt w rb gn cap mb n pages met) (k : Keeps S w w') (h1 : ¬ S rb) (h2 : ¬ S gn) (h3 : ¬ S mb) : ReaderAt w' rb gn cap mb n pages met :=
  ⟨k.blk h.blk h1, own_keep h.row k (fun b hb e => by cases hb; exact h2 e), h.all64, h.few, h.set.keep k h3⟩
/-- may the page be read? -/
def canRead (pages : List (List UInt8)) (met : List Nat) (i : Nat) : Bool := decide (2 ≤ i) && (match pages[i]? with | some p => !decide (i ∈ met) && soundP i p | none => false)
def ReadRet (w : World) (rb gn cap mb n : Nat) (pages : List (List UInt8)) (met : List Nat) (i : Nat) (e : Ending) (w' : World) : Prop :=
  if canRead pages met i then e = .returned (.tuple #[.pointer (some ⟨gn, i * 64, none⟩), .bool true]) ∧ ReaderAt w' rb gn cap mb (n + 1) pages (i :: met) ∧ Keeps (One mb) w w'
  else e = .returned (.tuple #[.pointer none, .bool false]) ∧ Keeps None' w w'
theorem readRet_no {w : World} {rb gn cap mb n : Nat} {pages : List (List UInt8)} {met : List Nat} {i : Nat} (h : canRead pages met i = false) {w' : World} (hk : Keeps None' w w') : ReadRet w rb gn cap mb n pages met i (.returned (.tuple #[.pointer none, .bool false])) w' := by
  unfold ReadRet
  rw [h]
  exact ⟨rfl, hk⟩

set_option maxRecDepth 100000 in
set_option maxHeartbeats 2000000 in
theorem rread_any (w : World) (rb gn cap mb n : Nat) (pages : List (List UInt8)) (met : List Nat) (i : Nat) (h : ReaderAt w rb gn cap mb n pages met) (hi : i ≤ 70000) (hn : n ≤ 100000) :
    Calls Tryz.prog 156 #[.pointer (some ⟨rb, 0, none⟩), .int .i64 (i : Int)] w fun e w' => ReadRet w rb gn cap mb n pages met i e w' := by
  have c0 := cell_of_blk h.blk 0 rfl
  have c1 := cell_of_blk h.blk 1 rfl
  have hfew := h.few
  have H := Lib.hid h
  by_cases b1 : i < 2
  · have HN := Lib.hid (show canRead pages met i = false by unfold canRead; rw [decide_eq_false (by omega)]; rfl)
    have b1I : (i : Int) < 2 := by omega
    clear h
    go_enter Tryz.func156, Tryz.ntmps156
    go_wp2
    go_ret2
    exact readRet_no HN.out (Keeps.refl _ _)
  have b1I : ¬ ((i : Int) < 2) := by omega
  by_cases b2 : pages.length ≤ i
  · have HN := Lib.hid (show canRead pages met i = false by unfold canRead; rw [List.getElem?_eq_none b2]; simp)
    have b2I : (pages.length : Int) ≤ (i : Int) := by omega
    clear h
    go_enter Tryz.func156, Tryz.ntmps156
    go_wp2
    go_ret2
    exact readRet_no HN.out (Keeps.refl _ _)
  have b2I : ¬ ((pages.length : Int) ≤ (i : Int)) := by omega
  have hlt : i < pages.length := by omega
  have hlk := h.set.look i (by omega)
  by_cases b3 : i ∈ met
  · have HN := Lib.hid (show canRead pages met i = false by unfold canRead; rw [List.getElem?_eq_getElem hlt]; simp [b3])
    rw [decide_eq_true b3] at hlk
    clear h
    go_enter Tryz.func156, Tryz.ntmps156
    go_wp2
    go_ret2
    exact readRet_no HN.out (Keeps.refl _ _)
  rw [decide_eq_false b3] at hlk
  have hs := sound_any gn (i * 64) i w pages[i] (h.all64 _ (List.getElem_mem hlt)) (own_type h.row (b := gn) rfl |>.elim fun _ h => lt_of_block h) (by rw [Nat.mul_comm]; exact page_range h.row h.all64 i hlt)
  have hiI : (i : Int) < (pages.length : Int) := by omega
  by_cases b4 : soundP i pages[i] = true
  case neg =>
    have b4' : soundP i pages[i] = false := by simpa using b4
    have HN := Lib.hid (show canRead pages met i = false by unfold canRead; rw [List.getElem?_eq_getElem hlt]; simp [b4'])
    rw [b4'] at hs
    have HS := Lib.hid hs
    clear h hs b4 b4' b3 hlt
    go_enter Tryz.func156, Tryz.ntmps156
    go_wp2_with (first | (refine HS.out.mono ?_; rintro e W1 ⟨rfl, hk1⟩))
    go_ret2
    exact readRet_no HN.out hk1
  have HN := Lib.hid (show canRead pages met i = true by unfold canRead; rw [List.getElem?_eq_getElem hlt]; simp [b4, b3]; omega)
  rw [b4] at hs
  have HS := Lib.hid hs
  have hmr : mb ≠ rb := fun e => by
    obtain ⟨D, ⟨es, clock, hb, _⟩, _⟩ := h.set
    rw [e, h.blk] at hb; cases hb
  have hmg : mb ≠ gn := fun e => by
    obtain ⟨D, ⟨es, clock, hb, _⟩, _⟩ := h.set
    obtain ⟨cs, hc⟩ := own_type h.row (b := gn) rfl
    rw [e, hc] at hb; cases hb
  have hrlt := lt_of_block h.blk
  clear h hs b4 b3 hlt
  go_enter Tryz.func156, Tryz.ntmps156
  go_wp2_with (first | (refine HS.out.mono ?_; rintro e W1 ⟨rfl, hk1⟩; have c11 := (hk1.cell (p := ⟨rb, 1, none⟩) hrlt (fun h => h)).trans c1; have H1 := Lib.hid (H.out.keep hk1); have HK1 := Lib.hid hk1; clear hk1) | (at_mapUpdate; refine list_setStore rfl _ _ _ rfl mb n i met rfl rfl rfl H1.out.set (by omega) hn ?_; intro W2 hs2 hg2; have HK2 := Lib.hid (grownBy_keeps hg2); have HS2 := Lib.hid hs2; have c02 := ((grownBy_keeps hg2).cell (p := ⟨rb, 0, none⟩) (Nat.lt_of_lt_of_le hrlt HK1.out.size) (fun e => hmr (Option.some.inj e).symm)).trans ((HK1.out.cell (p := ⟨rb, 0, none⟩) hrlt (fun h => h)).trans c0); clear hs2 hg2))
  go_ret2
  unfold ReadRet
  rw [HN.out]
  refine ⟨rfl, ⟨?_, ?_, H.out.all64, H.out.few, HS2.out⟩, (HK1.out.mono (fun _ _ h => h.elim)).trans' HK2.out (fun k _ e => Option.some.inj e)⟩
  · exact HK2.out.blk H1.out.blk (fun e => hmr (Option.some.inj e).symm)
  · exact own_keep H1.out.row HK2.out (fun b hb e => by cases hb; exact hmg (Option.some.inj e).symm)
theorem rread_no (w : World) (rb gn cap mb n : Nat) (pages : List (List UInt8)) (met : List Nat) (i : Nat) (h : ReaderAt w rb gn cap mb n pages met) (hi : i ≤ 70000) (hn : n ≤ 100000) (hc : canRead pages met i = false) :
    Calls Tryz.prog 156 #[.pointer (some ⟨rb, 0, none⟩), .int .i64 (i : Int)] w fun e w' => e = .returned (.tuple #[.pointer none, .bool false]) ∧ Keeps None' w w' :=
  (rread_any w rb gn cap mb n pages met i h hi hn).mono fun e w' h => by unfold ReadRet at h; rw [hc] at h; exact h
theorem rread_yes (w : World) (rb gn cap mb n : Nat) (pages : List (List UInt8)) (met : List Nat) (i : Nat) (h : ReaderAt w rb gn cap mb n pages met) (hi : i ≤ 70000) (hn : n ≤ 100000) (hc : canRead pages met i = true) :
    Calls Tryz.prog 156 #[.pointer (some ⟨rb, 0, none⟩), .int .i64 (i : Int)] w fun e w' => e = .returned (.tuple #[.pointer (some ⟨gn, i * 64, none⟩), .bool true]) ∧ ReaderAt w' rb gn cap mb (n + 1) pages (i :: met) ∧ Keeps (One mb) w w' :=
  (rread_any w rb gn cap mb n pages met i h hi hn).mono fun e w' h => by unfold ReadRet at h; rw [hc] at h; exact h
end Go.Proofs.YtlbaagjbehdmgaaGreat

namespace Go.Proofs.YtlbaagjbehdmgaaGreat
open Go.RowKit

/-- how many elements a page says it has; which page it says is next -/
def manyOf (p : List UInt8) : Nat := ((p[2]?).getD 0).toNat
def nextPg (p : List UInt8) : Nat := num (p.take 2)
/-- is what the page says no part of a list? -/
def badPart (most : Nat) (p : List UInt8) : Bool := decide (manyOf p < 1) || decide (most < manyOf p) || (nextPg p != 0 && manyOf p != most)
/-- the pages of a list -/
def chainP (pages : List (List UInt8)) (most : Nat) : Nat → List Nat → Nat → Option (List Nat)
  | 0, _, _ => none
  | f + 1, met, i => if canRead pages met i then
      let p := (pages[i]?).getD []
      if badPart most p then none else if nextPg p = 0 then some [i] else (chainP pages most f (i :: met) (nextPg p)).map (i :: ·)
    else none
def ListRet (w : World) (rb gn cap mb n : Nat) (pages : List (List UInt8)) (met : List Nat) (R : Option (List Nat)) (e : Ending) (w' : World) : Prop :=
  match R with
  | none => e = .returned (.tuple #[.slice none 0 0, .bool false]) ∧ Keeps (One mb) w w'
  | some l => ∃ v, e = .returned (.tuple #[v, .bool true]) ∧ w'.ownsRow w.heap.size 3 1 v l.length (ints l) ∧ ReaderAt w' rb gn cap mb (n + l.length) pages (l.reverse ++ met) ∧ Keeps (One mb) w w' ∧ l.length ≤ 1024
def slLen : Value → Nat
  | .slice _ n _ => n
  | _ => 0
structure ListAt (w : World) (rb gn cap mb n : Nat) (pages : List (List UInt8)) (met : List Nat) (most limit i j : Nat) (acc : List Nat) (v : Value) (wr : World) : Prop where
  own : wr.ownsRow w.heap.size 3 1 v acc.length (ints acc)
  rd : ReaderAt wr rb gn cap mb (n + acc.length) pages (acc.reverse ++ met)
  keeps : Keeps (One mb) w wr
  few : acc.length ≤ limit
  next : j ≤ 70000
  eq : chainP pages most limit met i = (chainP pages most (limit - acc.length) (acc.reverse ++ met) j).map (acc ++ ·)
theorem nextPg_lt (p : List UInt8) : nextPg p < 65536 := by
  have h := num_lt (p.take 2)
  have hl : (p.take 2).length ≤ 2 := by simp; omega
  unfold nextPg
  refine Nat.lt_of_lt_of_le h ?_
  calc 256 ^ (p.take 2).length ≤ 256 ^ 2 := Nat.pow_le_pow_right (by omega) hl
    _ = 65536 := by decide
theorem manyOf_lt (p : List UInt8) : manyOf p < 256 := (((p[2]?).getD 0).toNat_lt)

set_option maxRecDepth 100000 in
set_option maxHeartbeats 4000000 in
theorem list_any (w : World) (rb gn cap mb n : Nat) (pages : List (List UInt8)) (met : List Nat) (i most limit : Nat) (h : ReaderAt w rb gn cap mb n pages met) (hi : i ≤ 70000) (hn : n ≤ 50000) (hm : most ≤ 255) (hl : limit ≤ 1024) (hmb : mb < w.heap.size) :
    Calls Tryz.prog 122 #[.pointer (some ⟨rb, 0, none⟩), .int .i64 (i : Int), .int .i64 (most : Int), .int .i64 (limit : Int)] w fun e w' => ListRet w rb gn cap mb n pages met (chainP pages most limit met i) e w' := by
  have h0 : ListAt w rb gn cap mb n pages met most limit i i [] (.slice none 0 0) w := ⟨World.ownsRow_nil _ _ _ _, by simpa using h, Keeps.refl _ _, Nat.zero_le _, hi, by simp⟩
  generalize hR : chainP pages most limit met i = R at *
  have HRC := Lib.hid hR
  clear h hR
  go_enter Tryz.func122, Tryz.ntmps122
  go_wp2_with fail
  go_loopw [1, 10] (fun jv v wr => ∃ (j : Nat) (acc : List Nat), jv = .int .i64 j ∧ ListAt w rb gn cap mb n pages met most limit i j acc v wr) (fun _ v _ => limit - slLen v)
  case atStart => exact ⟨i, [], rfl, h0⟩
  case round =>
    obtain ⟨j, acc, rfl, hA⟩ := hrel
    clear h0
    have hfew := hA.few
    have hj := hA.next
    have HA := Lib.hid hA
    obtain ⟨va, vc, rfl, -⟩ := ISlice.of_own hA.own
    have heq := hA.eq
    have hn' : n + acc.length ≤ 100000 := by omega
    clear hA
    by_cases hcan : canRead pages (acc.reverse ++ met) j = true
    case neg =>
      have hno : R = none := by
        rw [← HRC.out, heq]
        cases hf : limit - acc.length with
        | zero => rfl
        | succ f => simp [chainP, hcan]
      have HNO := Lib.hid hno
      have HRD := Lib.hid (rread_no wr rb gn cap mb (n + acc.length) pages (acc.reverse ++ met) j HA.out.rd hj hn' (by simpa using hcan))
      clear hno heq hcan
      go_wp2_with (first | (refine HRD.out.mono ?_; rintro e W1 ⟨rfl, hk1⟩))
      go_ret2
      rw [HNO.out]
      exact ⟨rfl, HA.out.keeps.trans (hk1.mono (fun _ _ h => h.elim))⟩
    have HRD := Lib.hid (rread_yes wr rb gn cap mb (n + acc.length) pages (acc.reverse ++ met) j HA.out.rd hj hn' hcan)
    by_cases hlim : acc.length = limit
    case pos =>
      have hno : R = none := by
        rw [← HRC.out, heq, show limit - acc.length = 0 by omega]
        rfl
      have HNO := Lib.hid hno
      have hlI : ((acc.length : Int) == (limit : Int)) = true := by rw [hlim]; simp
      clear hno heq hcan hlim
      go_wp2_with (first | (refine HRD.out.mono ?_; rintro e W1 ⟨rfl, hr1, hk1⟩; have HK1 := Lib.hid hk1; clear hr1 hk1))
      go_ret2
      rw [HNO.out]
      exact ⟨rfl, HA.out.keeps.trans HK1.out⟩
    have hlI : ((acc.length : Int) == (limit : Int)) = false := by rw [beq_eq_false_iff_ne]; omega
    have hcan2 := hcan
    unfold canRead at hcan2
    obtain ⟨p, hp⟩ : ∃ p, pages[j]? = some p := by
      cases hq : pages[j]? with
      | none => rw [hq] at hcan2; simp at hcan2
      | some p => exact ⟨p, rfl⟩
    obtain ⟨hjl, hpe⟩ := List.getElem?_eq_some_iff.1 hp
    have hp64 : p.length = 64 := HA.out.rd.all64 p (List.mem_of_getElem? hp)
    have hx2 : p[2]? = some p[2] := by simp [hp64]
    have hstep : chainP pages most (limit - acc.length) (acc.reverse ++ met) j = if badPart most p then none else if nextPg p = 0 then some [j] else (chainP pages most (limit - (acc.length + 1)) (j :: (acc.reverse ++ met)) (nextPg p)).map (j :: ·) := by
      rw [show limit - acc.length = (limit - (acc.length + 1)) + 1 by omega, chainP, if_pos hcan, hp]
      rfl
    have HST := Lib.hid hstep
    have HEQ := Lib.hid heq
    have hmany : manyOf p = p[2].toNat := by simp [manyOf, hx2]
    have hnx := nextPg_lt p
    have hgnlt : gn < wr.heap.size := (own_type HA.out.rd.row (b := gn) rfl).elim fun _ h => lt_of_block h
    have hmg : mb ≠ gn := fun e => by
      obtain ⟨D, ⟨es, clock, hb, _⟩, _⟩ := HA.out.rd.set
      obtain ⟨cs, hc⟩ := own_type HA.out.rd.row (b := gn) rfl
      rw [e, hc] at hb; cases hb
    have hbx : Value.int .u8 ((p[2].toNat : Nat) : Int) = bv p[2] := rfl
    have hx255 := p[2].toNat_lt
    obtain ⟨i0, hi0, hz0, hz1, hz2⟩ := info_parts info_int3
    have hwn : w.heap.size ≤ wr.heap.size := HA.out.keeps.size
    clear hcan hcan2 hstep heq
    go_upto_region 6 with (first | (go_at_call 156; refine HRD.out.mono ?_; rintro e W1 ⟨rfl, hr1, hk1⟩; have HR1 := Lib.hid hr1; have HK1 := Lib.hid hk1; clear hr1 hk1) | (at_builtin; refine list_append_own rfl _ _ _ rfl w.heap.size 3 i0 (.int .i64 0) 1 8 Tryz.underlying47 hi0 hz0 hz1 hz2 rfl (by decide) (.slice va acc.length vc) acc.length (ints acc) rfl (own_keep HA.out.own (HK1.out.alloc _) (fun b hb e => by have h1 := (HA.out.own.lt b hb).1; have e' : b = mb := e; omega)) ⟨W1.heap.size, 0, none⟩ 1 1 [.int .i64 (j : Int)] rfl rfl (by intro t u ht; rw [Addr.add_lit, Nat.zero_add]; exact cell_of_blk (heap_alloc_new W1 _) t (by simpa using ht)) (by simp [Value.oneCell']) (by unfold maxLen; omega) (by omega) (by have := HK1.out.size; simp; omega) ?_; intro v3 W3 hown3 hgrow3 hfr3; have HO3 := Lib.hid hown3; have HG3 := Lib.hid hgrow3; clear hown3 hgrow3 hfr3))
    have hvb : ∀ k, some k = (Value.slice va acc.length vc).ownBlock → ¬ (k = rb) ∧ ¬ (k = gn) ∧ ¬ (k = mb) := fun k hk => by
      refine ⟨fun e => ?_, fun e => ?_, fun e => ?_⟩
      · exact own_ne_type HA.out.own HA.out.rd.blk (by decide) (by rw [← hk, e])
      · obtain ⟨cs, hc⟩ := own_type HA.out.rd.row (b := gn) rfl
        exact own_ne_type HA.out.own hc (by decide) (by rw [← hk, e])
      · have h1 := (HA.out.own.lt k hk.symm).1
        omega
    have hKA : Keeps (fun k => some k = (Value.slice va acc.length vc).ownBlock) W1 W3 := (((Keeps.refl None' W1).alloc (.cells #[.int .i64 (j : Int)] 3)).mono (fun _ _ h => h.elim)).trans (grownBy_keeps HG3.out)
    have hrd3 := HR1.out.keepS hKA (fun h => (hvb rb h).1 rfl) (fun h => (hvb gn h).2.1 rfl) (fun h => (hvb mb h).2.2 rfl)
    have hkk3 : Keeps (One mb) w W3 := (HA.out.keeps.trans HK1.out).trans' hKA (fun i hi e => by have := (HA.out.own.lt i e.symm).1; omega)
    have hrg3 : W3.rangeAt gn (j * 64) (p.map bv) := by
      have := page_range hrd3.row hrd3.all64 j hjl
      rw [hpe, Nat.mul_comm] at this
      exact this
    have hc2 : W3.drew.cell? ⟨gn, j * 64 + 2, none⟩ = some (.int .u8 (manyOf p : Int)) := by rw [hmany]; exact hrg3 2 (bv p[2]) (by simp [hx2])
    have hgnl3 : gn < W3.heap.size := (own_type hrd3.row (b := gn) rfl).elim fun _ h => lt_of_block h
    have hget := get_any gn (j * 64) 64 (p.take 2) (by simp; omega) W3.drew hgnl3 (fun t v ht => hrg3 t v (by
      rw [List.map_take, List.getElem?_take] at ht
      split at ht
      · exact ht
      · cases ht))
    rw [show (p.take 2).length = 2 by simp [hp64]] at hget
    have HGET := Lib.hid hget
    have HRD3 := Lib.hid hrd3
    have HKK3 := Lib.hid hkk3
    have hnxI : IntKind.i64.wrap (num (p.take 2) : Int) = (nextPg p : Int) := IntWalk.i64_in _ (by unfold nextPg at hnx; omega)
    have hml := manyOf_lt p
    have hmw : IntKind.i64.wrap (manyOf p : Int) = (manyOf p : Int) := IntWalk.i64_in _ (by omega)
    clear hmany hbx hx255 hvb hKA hrd3 hkk3 hrg3 hget HRD HR1 HK1 HG3
    refine wp_region_held_drew (S := fun W => W.cell? ⟨gn, j * 64 + 2, none⟩ = some (.int .u8 (manyOf p : Int))) (by kernel_rfl) hc2 (fun hHeld => ?_)
    refine wpAnyH_take (i := 0) (v := .pointer (some ⟨gn, j * 64, none⟩)) rfl (by kernel_rfl) (by kernel_rfl) (by kernel_rfl) (fun _ _ _ h => h) (Or.inl ⟨by rfl, fun W hS => by go_simp⟩) (by assumption) ?_
    try simp only [List.getElem_toArray, List.getElem_cons_succ, List.getElem_cons_zero, Act.put, List.setIfInBounds_toArray, List.set_cons_zero, List.set_cons_succ]
    refine wpAnyH_take (i := 1) (v := .pointer (some ⟨gn, j * 64, none⟩)) rfl (by kernel_rfl) (by kernel_rfl) (by kernel_rfl) (fun _ _ _ h => h) (Or.inl ⟨by rfl, fun W hS => by go_simp⟩) (by assumption) ?_
    try simp only [List.getElem_toArray, List.getElem_cons_succ, List.getElem_cons_zero, Act.put, List.setIfInBounds_toArray, List.set_cons_zero, List.set_cons_succ]
    refine wpAnyH_take (i := 2) (v := .pointer (some ⟨gn, j * 64 + 2, none⟩)) rfl (by kernel_rfl) (by kernel_rfl) (by kernel_rfl) (fun _ _ _ h => h) (Or.inl ⟨by rfl, fun W hS => by go_simp⟩) (by assumption) ?_
    try simp only [List.getElem_toArray, List.getElem_cons_succ, List.getElem_cons_zero, Act.put, List.setIfInBounds_toArray, List.set_cons_zero, List.set_cons_succ]
    refine wpAnyH_take (i := 3) (v := .int .u8 (manyOf p : Int)) rfl (by kernel_rfl) (by kernel_rfl) (by kernel_rfl) (fun _ _ _ h => h) (Or.inl ⟨by rfl, fun W hS => by go_simp⟩) (by assumption) ?_
    try simp only [List.getElem_toArray, List.getElem_cons_succ, List.getElem_cons_zero, Act.put, List.setIfInBounds_toArray, List.set_cons_zero, List.set_cons_succ]
    refine wpAnyH_take (i := 4) (v := .int .i64 (manyOf p : Int)) rfl (by kernel_rfl) (by kernel_rfl) (by kernel_rfl) (fun _ _ _ h => h) (Or.inl ⟨by rfl, fun W hS => by go_simp⟩) (by assumption) ?_
    try simp only [List.getElem_toArray, List.getElem_cons_succ, List.getElem_cons_zero, Act.put, List.setIfInBounds_toArray, List.set_cons_zero, List.set_cons_succ]
    refine wpAnyH_take (i := 5) (v := .pointer (some ⟨gn, j * 64, none⟩)) rfl (by kernel_rfl) (by kernel_rfl) (by kernel_rfl) (fun _ _ _ h => h) (Or.inl ⟨by rfl, fun W hS => by go_simp⟩) (by assumption) ?_
    try simp only [List.getElem_toArray, List.getElem_cons_succ, List.getElem_cons_zero, Act.put, List.setIfInBounds_toArray, List.set_cons_zero, List.set_cons_succ]
    refine wpAnyH_take (i := 6) (v := .pointer (some ⟨gn, j * 64, none⟩)) rfl (by kernel_rfl) (by kernel_rfl) (by kernel_rfl) (fun _ _ _ h => h) (Or.inl ⟨by rfl, fun W hS => by go_simp⟩) (by assumption) ?_
    try simp only [List.getElem_toArray, List.getElem_cons_succ, List.getElem_cons_zero, Act.put, List.setIfInBounds_toArray, List.set_cons_zero, List.set_cons_succ]
    refine wpAnyH_take (i := 7) (v := .slice (some ⟨gn, j * 64, none⟩) 2 64) rfl (by kernel_rfl) (by kernel_rfl) (by kernel_rfl) (fun _ _ _ h => h) (Or.inl ⟨by rfl, fun W hS => by go_simp⟩) (by assumption) ?_
    try simp only [List.getElem_toArray, List.getElem_cons_succ, List.getElem_cons_zero, Act.put, List.setIfInBounds_toArray, List.set_cons_zero, List.set_cons_succ]
    refine wpAnyH_ready (rs := [8]) (by kernel_rfl) (by simp) ?_
    refine AllReadyH.cons rfl (fun K hK => ?_) AllReadyH.nil
    go_simp
    refine HGET.out.mono ?_
    rintro r W5 ⟨rfl, hk5⟩
    have f2 := (hk5.cell (p := ⟨gn, j * 64 + 2, none⟩) (block_lt_of_cell hc2) (fun h => h)).trans hc2
    refine hK.out _ _ f2 (fun hHeld2 => ?_)
    clear hK K hHeld
    try simp only [List.getElem_toArray, List.getElem_cons_succ, List.getElem_cons_zero, Act.put, List.setIfInBounds_toArray, List.set_cons_zero, List.set_cons_succ]
    refine wpAnyH_take (i := 9) (v := .int .i64 (nextPg p : Int)) rfl (by kernel_rfl) (by kernel_rfl) (by kernel_rfl) (fun _ _ _ h => h) (Or.inl ⟨by rfl, fun W hS => by go_simp⟩) (by assumption) ?_
    try simp only [List.getElem_toArray, List.getElem_cons_succ, List.getElem_cons_zero, Act.put, List.setIfInBounds_toArray, List.set_cons_zero, List.set_cons_succ]
    refine wpAnyH_take (i := 10) (v := .int .i64 (manyOf p : Int)) rfl (by kernel_rfl) (by kernel_rfl) (by kernel_rfl) (fun _ _ _ h => h) (Or.inl ⟨by rfl, fun W hS => by go_simp⟩) (by assumption) ?_
    try simp only [List.getElem_toArray, List.getElem_cons_succ, List.getElem_cons_zero, Act.put, List.setIfInBounds_toArray, List.set_cons_zero, List.set_cons_succ]
    refine wpAnyH_take (i := 11) (v := .int .i64 (nextPg p : Int)) rfl (by kernel_rfl) (by kernel_rfl) (by kernel_rfl) (fun _ _ _ h => h) (Or.inl ⟨by rfl, fun W hS => by go_simp⟩) (by assumption) ?_
    try simp only [List.getElem_toArray, List.getElem_cons_succ, List.getElem_cons_zero, Act.put, List.setIfInBounds_toArray, List.set_cons_zero, List.set_cons_succ]
    refine wpAnyH_done (by kernel_rfl) ?_ _
    try simp only [Exit.then]
    have hrd5 := HRD3.out.keep (((Keeps.refl None' W3).drew).trans hk5)
    have hkk5 := HKK3.out.drew.trans (hk5.mono (S' := One mb) (fun _ _ h => h.elim))
    have hown5 := own_keep HO3.out (((Keeps.refl None' W3).drew).trans hk5) (fun _ _ h => h)
    have hrev : (acc ++ [j]).reverse ++ met = j :: (acc.reverse ++ met) := by simp
    have hlen1 : (acc ++ [j]).length = acc.length + 1 := by simp
    have hints : ints (acc ++ [j]) = ints acc ++ [.int .i64 (j : Int)] := by simp [ints]
    rw [← hrev] at hrd5
    rw [← hints, ← hlen1] at hown5
    have HRD5 := Lib.hid hrd5
    have HKK5 := Lib.hid hkk5
    have HO5 := Lib.hid hown5
    clear hrd5 hkk5 hown5 hrev hints hk5 f2 hc2 HGET HRD3 HKK3 HO3 hnxI hHeld2
    by_cases c1 : manyOf p < 1
    · have hno : R = none := by rw [← HRC.out, HEQ.out, HST.out, if_pos (by simp [badPart]; omega)]; rfl
      have HNO := Lib.hid hno
      have c1I : (manyOf p : Int) < 1 := by omega
      clear hno
      go_wp2
      go_ret2
      rw [HNO.out]
      exact ⟨rfl, HKK5.out⟩
    have c1I : ¬ ((manyOf p : Int) < 1) := by omega
    by_cases c2 : most < manyOf p
    · have hno : R = none := by rw [← HRC.out, HEQ.out, HST.out, if_pos (by simp [badPart, c2])]; rfl
      have HNO := Lib.hid hno
      have c2I : (most : Int) < (manyOf p : Int) := by omega
      clear hno
      go_wp2
      go_ret2
      rw [HNO.out]
      exact ⟨rfl, HKK5.out⟩
    have c2I : ¬ ((most : Int) < (manyOf p : Int)) := by omega
    by_cases c3 : nextPg p = 0
    · have hyes : R = some (acc ++ [j]) := by rw [← HRC.out, HEQ.out, HST.out, if_neg (by simp [badPart, c3]; omega), if_pos c3]; rfl
      have HY := Lib.hid hyes
      have c3I : ((nextPg p : Int) == 0) = true := by rw [c3]; rfl
      have c3J : ((nextPg p : Int) != 0) = false := by rw [c3]; rfl
      clear hyes c3
      go_wp2
      go_ret2
      rw [HY.out]
      refine ⟨v3, rfl, HO5.out, ?_, HKK5.out, by rw [hlen1]; omega⟩
      have := HRD5.out
      rwa [show n + acc.length + 1 = n + (acc ++ [j]).length by rw [hlen1]; omega] at this
    have c3I : ((nextPg p : Int) == 0) = false := by rw [beq_eq_false_iff_ne]; omega
    have c3J : ((nextPg p : Int) != 0) = true := by rw [bne, c3I]; rfl
    by_cases c4 : manyOf p = most
    case neg =>
      have hno : R = none := by rw [← HRC.out, HEQ.out, HST.out, if_pos (by simp [badPart, c3, c4])]; rfl
      have HNO := Lib.hid hno
      have c4I : ((manyOf p : Int) == (most : Int)) = false := by rw [beq_eq_false_iff_ne]; omega
      have c4J : ((manyOf p : Int) != (most : Int)) = true := by rw [bne, c4I]; rfl
      clear hno
      go_wp2
      go_ret2
      rw [HNO.out]
      exact ⟨rfl, HKK5.out⟩
    have c4I : ((manyOf p : Int) == (most : Int)) = true := by rw [c4]; simp
    have c4J : ((manyOf p : Int) != (most : Int)) = false := by rw [bne, c4I]; rfl
    have hnext : ListAt w rb gn cap mb n pages met most limit i (nextPg p) (acc ++ [j]) v3 W5 := by
      refine ⟨HO5.out, ?_, HKK5.out, by rw [hlen1]; omega, by omega, ?_⟩
      · have := HRD5.out
        rwa [show n + acc.length + 1 = n + (acc ++ [j]).length by rw [hlen1]; omega] at this
      · rw [HEQ.out, HST.out, if_neg (by simp [badPart, c4]; omega), if_neg c3, hlen1, show (acc ++ [j]).reverse ++ met = j :: (acc.reverse ++ met) by simp]
        cases chainP pages most (limit - (acc.length + 1)) (j :: (acc.reverse ++ met)) (nextPg p) with
        | none => rfl
        | some q => simp
    have HNX := Lib.hid hnext
    have hsl : slLen v3 = acc.length + 1 := by
      obtain ⟨a3, cap3, e3, _⟩ := ISlice.of_own HO5.out
      rw [e3]
      exact hlen1
    clear hnext c4 c3
    go_wp2
    go_roundw
    case rel => exact ⟨nextPg p, acc ++ [j], rfl, HNX.out⟩
    case measure => rw [hsl]; simp [slLen]; omega
end Go.Proofs.YtlbaagjbehdmgaaGreat
