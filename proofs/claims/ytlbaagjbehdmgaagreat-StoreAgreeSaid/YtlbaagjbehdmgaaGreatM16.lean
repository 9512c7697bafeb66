/- Stores: what they are; the free pages. Free; has the power gone off?; the next entry. Does an entry come next? slices.Equal of numbers. Rot. -/
import Derived.Laws.AppendOwnNone
import Derived.Test.YtlbaagjbehdmgaaGreatM15
import Derived.Deep.QuietTactic
import Derived.BigQuiet
namespace Go.Proofs.YtlbaagjbehdmgaaGreat
open Go.RowKit

/-- v reads as numbers, whatever its address is -/
def ISlice (w : World) (v : Value) (l : List Nat) : Prop := ∃ a cap, v = .slice a l.length cap ∧ ∀ (i x : Nat), l[i]? = some x → ∃ b off, a = some ⟨b, off, none⟩ ∧ w.cell? ⟨b, off + i, none⟩ = some (.int .i64 (x : Int))
theorem ISlice.of_own {w : World} {base : Nat} {v : Value} {l : List Nat} (h : w.ownsRow base 3 1 v l.length (ints l)) : ISlice w v l := by
  rcases h.2 with ⟨rfl, hn⟩ | ⟨g, cap, cur, rfl, _⟩
  · exact ⟨none, 0, by rw [hn], fun i x hx => by have := (List.getElem?_eq_some_iff.1 hx).1; omega⟩
  · refine ⟨_, cap, rfl, fun i x hx => ⟨g, 0, rfl, ?_⟩⟩
    exact own_range h i (.int .i64 (x : Int)) (by simp [ints, hx])
def IdxRet (w : World) (l : List Nat) (x : Nat) (e : Ending) (w' : World) : Prop := ∃ i : Int, e = .returned (.int .i64 i) ∧ (0 ≤ i ↔ x ∈ l) ∧ w = w'

set_option maxRecDepth 100000 in
set_option maxHeartbeats 1000000 in
theorem index_any (v : Value) (l : List Nat) (x : Nat) (w : World) (h : ISlice w v l) (hl : l.length ≤ 10000000) :
    Calls Tryz.prog 149 #[v, .int .i64 (x : Int)] w fun e w' => IdxRet w l x e w' := by
  obtain ⟨a, cap, rfl, hc⟩ := h
  have HC := Lib.hid hc
  clear hc
  go_enter Tryz.func149, Tryz.ntmps149
  go_wp2
  go_loopw [8] (fun i wr => ∃ k : Nat, k ≤ l.length ∧ i = .int .i64 k ∧ wr = w ∧ ∀ y ∈ l.take k, y ≠ x) (fun i _ => l.length - (intOf i).toNat)
  case atStart => exact ⟨0, Nat.zero_le _, rfl, rfl, by simp⟩
  case round =>
    obtain ⟨k, hk, rfl, rfl, hno⟩ := hrel
    by_cases hkl : k < l.length
    · obtain ⟨b, off, rfl, hcell⟩ := HC.out k l[k] (by simp [hkl])
      have hmem : l[k] ∈ l := List.getElem_mem hkl
      have htk : l.take (k + 1) = l.take k ++ [l[k]] := List.take_succ_eq_append_getElem hkl
      generalize l[k] = y at *
      have hkI : (k : Int) < (l.length : Int) := by omega
      have HNO := Lib.hid hno
      have HTK := Lib.hid htk
      clear hno htk
      by_cases hxy : (x : Int) = (y : Int)
      · obtain rfl : x = y := by omega
        go_wp2
        go_ret
        exact ⟨_, rfl, ⟨fun _ => hmem, fun _ => by omega⟩, rfl⟩
      · have hb : ((x : Int) == (y : Int)) = false := by simpa using hxy
        go_wp2
        go_roundw
        case rel =>
          refine ⟨k + 1, by omega, by go_num, by first | rfl | trivial, fun z hz => ?_⟩
          rw [HTK.out] at hz
          rcases List.mem_append.1 hz with h | h
          · exact HNO.out z h
          · simp at h
            subst h
            intro e
            exact hxy (by rw [e])
        case measure => simp [intOf]; omega
    · obtain rfl : k = l.length := by omega
      rw [List.take_length] at hno
      have HNO := Lib.hid hno
      clear hno
      go_wp2
      go_ret
      exact ⟨_, rfl, ⟨fun h => absurd h (by decide), fun h => absurd rfl (HNO.out x h)⟩, rfl⟩

set_option maxHeartbeats 1000000 in
theorem contains_any (v : Value) (l : List Nat) (x : Nat) (w : World) (h : ISlice w v l) (hl : l.length ≤ 10000000) :
    Calls Tryz.prog 109 #[v, .int .i64 (x : Int)] w fun e w' => e = .returned (.bool (decide (x ∈ l))) ∧ w = w' := by
  have hi := index_any v l x w h hl
  have HI := Lib.hid hi
  clear hi h
  by_cases hx : x ∈ l
  · have HR := Lib.hid (show decide (x ∈ l) = true from decide_eq_true hx)
    go_enter Tryz.func109, Tryz.ntmps109
    go_wp2_with (first | (refine HI.out.mono ?_; rintro r W1 ⟨i, rfl, hi, rfl⟩; have hge := hi.2 hx; clear hi))
    go_ret
    exact ⟨ret_bool HR.out.symm, rfl⟩
  · have HR := Lib.hid (show decide (x ∈ l) = false from decide_eq_false hx)
    go_enter Tryz.func109, Tryz.ntmps109
    go_wp2_with (first | (refine HI.out.mono ?_; rintro r W1 ⟨i, rfl, hi, rfl⟩; have hge : ¬ 0 ≤ i := fun h => hx (hi.1 h); clear hi))
    go_ret
    exact ⟨ret_bool ((decide_eq_false (by omega)).trans HR.out.symm), rfl⟩

/-- append of one owned row to another one -/
theorem list_append_rows {w : World} {ops : Array Oper} {rest : List Oper} {o : Oper} {a : Act} {Q : Exit → Act → World → Prop} (hgd : o.guard = none) (s x : Operand)
    (ho : o.op = .call { callee := .builtin .append, args := #[s, x], argTypes := #[47, 47] })
    (base base2 : Nat) (v v2 : Value) (l l2 : List Nat) (hs : a.eval s = v) (hown : w.ownsRow base 3 1 v l.length (ints l)) (hx : a.eval x = v2) (hown2 : w.ownsRow base2 3 1 v2 l2.length (ints l2))
    (hl : l.length + l2.length ≤ 100000000) (hbase : base ≤ w.heap.size)
    (h : ∀ v' w', w'.ownsRow base 3 1 v' (l ++ l2).length (ints (l ++ l2)) → w.grownBy w' v.ownBlock → wpList Tryz.prog ops Q rest (a.put o.dst v') w') : wpList Tryz.prog ops Q (o :: rest) a w := by
  obtain ⟨i0, hi, hz0, hz1, hz2⟩ := info_parts info_int3
  have happ : ∀ a b, ints (a ++ b) = ints a ++ ints b := fun a b => by simp [ints]
  rcases hown2.2 with ⟨rfl, hm⟩ | ⟨g, cap, cur, rfl, _⟩
  · have h2 : l2 = [] := List.eq_nil_of_length_eq_zero hm
    subst h2
    refine wpList_append_own_none hgd s x _ ho base 3 i0 1 Tryz.underlying47 hi v _ _ hs hown hx (h v w (by simpa using hown) ⟨rfl, rfl, rfl, Nat.le_refl _, fun _ _ _ => rfl⟩)
  · refine list_append_own hgd s x _ ho base 3 i0 (.int .i64 0) 1 8 Tryz.underlying47 hi hz0 hz1 hz2 rfl (by decide) v _ _ hs hown ⟨g, 0, none⟩ l2.length cap (ints l2) hx (by rw [ints_length]; omega) (fun j u hj => by rw [Addr.add_lit]; exact own_range hown2 j u hj) (ints_one _) (by unfold maxLen; omega) (by omega) hbase (fun v' w' h1 h2 _ => h v' w' ?_ h2)
    rw [happ, List.length_append]; exact h1

def FormerAt (w : World) (fv : Value) : Option St → Prop
  | none => fv = .pointer none
  | some F => ∃ fb, fv = .pointer (some ⟨fb, 0, none⟩) ∧ IsState w fb F
/-- a store on the disk at d -/
structure StoreAt (w : World) (s d cb : Nat) (fv : Value) (cur : St) (former : Option St) (falls : Int) : Prop where
  blk : w.heap[s]? = some (.cells #[.pointer (some ⟨cb, 0, none⟩), fv, .pointer (some ⟨d, 0, none⟩), .int .i64 falls] 56 (0, 0))
  cur : IsState w cb cur
  former : FormerAt w fv former
def IsStore (w : World) (s d : Nat) (cur : St) (former : Option St) (falls : Int) : Prop := ∃ cb fv, StoreAt w s d cb fv cur former falls
theorem FormerAt.keep {S : Nat → Prop} {w w' : World} {fv : Value} {F : Option St} (h : FormerAt w fv F) (k : Keeps S w w') (hs : Spares S w) : FormerAt w' fv F := by
  cases F with
  | none => exact h
  | some F => obtain ⟨fb, e, h⟩ := h; exact ⟨fb, e, h.keep k hs⟩
theorem StoreAt.keep {S : Nat → Prop} {w w' : World} {s d cb : Nat} {fv : Value} {cur : St} {former : Option St} {falls : Int} (h : StoreAt w s d cb fv cur former falls) (k : Keeps S w w') (hs : Spares S w) (hn : ¬ S s) : StoreAt w' s d cb fv cur former falls :=
  ⟨k.blk h.blk hn, h.cur.keep k hs, h.former.keep k hs⟩
theorem StoreAt.c0 {w : World} {s d cb : Nat} {fv : Value} {cur : St} {former : Option St} {falls : Int} (h : StoreAt w s d cb fv cur former falls) : w.cell? ⟨s, 0, none⟩ = some (.pointer (some ⟨cb, 0, none⟩)) := cell_of_blk h.blk 0 rfl
theorem StoreAt.c1 {w : World} {s d cb : Nat} {fv : Value} {cur : St} {former : Option St} {falls : Int} (h : StoreAt w s d cb fv cur former falls) : w.cell? ⟨s, 1, none⟩ = some fv := cell_of_blk h.blk 1 rfl
theorem StoreAt.c2 {w : World} {s d cb : Nat} {fv : Value} {cur : St} {former : Option St} {falls : Int} (h : StoreAt w s d cb fv cur former falls) : w.cell? ⟨s, 2, none⟩ = some (.pointer (some ⟨d, 0, none⟩)) := cell_of_blk h.blk 2 rfl
theorem StoreAt.c3 {w : World} {s d cb : Nat} {fv : Value} {cur : St} {former : Option St} {falls : Int} (h : StoreAt w s d cb fv cur former falls) : w.cell? ⟨s, 3, none⟩ = some (.int .i64 falls) := cell_of_blk h.blk 3 rfl
/-- the pages in use -/
def usedOf (cur : St) : Option St → List Nat
  | none => usesOf cur
  | some F => usesOf cur ++ usesOf F
/-- the pages that neither root uses -/
def freeTo (used : List Nat) (k : Nat) : List Nat := (List.range k).filter fun x => decide (2 ≤ x) && !decide (x ∈ used)
theorem freeTo_succ (used : List Nat) (k : Nat) (hk : 2 ≤ k) : freeTo used (k + 1) = if k ∈ used then freeTo used k else freeTo used k ++ [k] := by
  unfold freeTo
  rw [List.range_succ, List.filter_append]
  by_cases h : k ∈ used
  · simp [h, hk]
  · simp [h, hk]
theorem freeTo_le (used : List Nat) (k : Nat) : (freeTo used k).length ≤ k := by
  have := List.length_filter_le (fun x => decide (2 ≤ x) && !decide (x ∈ used)) (List.range k)
  simpa [freeTo] using this

theorem usesOf_le (S : St) (h : S.ok) : (usesOf S).length ≤ 1050000 := by
  have := usesTo_le S h S.entries.length (Nat.le_refl _)
  have := h.few
  unfold usesOf
  omega

structure FreeAt (w : World) (used : List Nat) (k : Nat) (v : Value) (wr : World) : Prop where
  own : wr.ownsRow w.heap.size 3 1 v (freeTo used k).length (ints (freeTo used k))
  keeps : Keeps None' w wr
theorem ISlice.keep {w w' : World} {v : Value} {l : List Nat} (h : ISlice w v l) (k : Keeps None' w w') : ISlice w' v l := by
  obtain ⟨a, cap, rfl, h⟩ := h
  refine ⟨a, cap, rfl, fun i x hx => ?_⟩
  obtain ⟨b, off, rfl, hc⟩ := h i x hx
  exact ⟨b, off, rfl, (k.cell (p := ⟨b, off + i, none⟩) (block_lt_of_cell hc) (fun h => h)).trans hc⟩
theorem own_base {w : World} {base base' : Nat} {e : TypeId} {size : Nat} {v : Value} {n : Nat} {xs : List Value} (h : w.ownsRow base e size v n xs) (hb : base' ≤ base) : w.ownsRow base' e size v n xs := by
  obtain ⟨h1, h2⟩ := h
  refine ⟨h1, ?_⟩
  rcases h2 with h2 | ⟨g, cap, cur, hv, hg, r⟩
  · exact .inl h2
  · exact .inr ⟨g, cap, cur, hv, Nat.le_trans hb hg, r⟩

set_option maxRecDepth 100000 in
set_option maxHeartbeats 2000000 in
theorem free_any (w : World) (s d : Nat) (D : Dsk) (fp : Nat → Prop) (cur : St) (former : Option St) (falls : Int) (h : IsStore w s d cur former falls) (hd : IsDisk w d D fp) (hp : 2 ≤ D.now.length) :
    Calls Tryz.prog 70 #[.pointer (some ⟨s, 0, none⟩)] w fun e w' => FreshRow w 3 1 (freeTo (usedOf cur former) D.now.length).length (ints (freeTo (usedOf cur former) D.now.length)) e w' := by
  obtain ⟨cb, fv, h⟩ := h
  have c0 := h.c0
  have hu := uses_any cb cur w h.cur
  have HU := Lib.hid hu
  have H := Lib.hid h
  have HD := Lib.hid hd
  have hok1 : cur.ok := by obtain ⟨_, _, hh⟩ := h.cur; exact hh.ok
  have hol := usesOf_le cur hok1
  clear h hd hu
  obtain ⟨L, hL⟩ : ∃ L, usedOf cur former = L := ⟨_, rfl⟩
  rw [hL]
  have HL := Lib.hid hL
  clear hL
  have hLl : L.length ≤ 2100000 := by
    have := HL.out
    subst this
    cases former with
    | none => show (usesOf cur).length ≤ _; omega
    | some F =>
      obtain ⟨fb, _, _, _, hF⟩ := H.out.former
      have := usesOf_le F hF.ok
      show (usesOf cur ++ usesOf F).length ≤ _
      rw [List.length_append]; omega
  have hfew : D.now.length ≤ 1024 := by obtain ⟨_, _, _, hD, _⟩ := HD.out; exact hD.ok.few
  have h2 : freeTo L 2 = [] := by simp [freeTo]; omega
  have H2 := Lib.hid h2
  clear h2
  cases former
  case' none =>
    obtain rfl : fv = .pointer none := H.out.former
    go_enter Tryz.func70, Tryz.ntmps70
    go_wp2_with (first | (go_at_call 105; refine HU.out.mono ?_; rintro r W1 ⟨uv, rfl, hown, hk1⟩; have c1 := (H.out.keep hk1 (spares_none _) (fun h => h)).c1; have HOWN := Lib.hid hown; have HK := Lib.hid hk1; clear hown hk1))
    have hI : ISlice W1 uv L := ISlice.of_own (by have := HOWN.out; rw [show usesOf cur = L from HL.out] at this; exact this)
    clear HOWN c1
    obtain ⟨v', hv'⟩ : ∃ x, x = uv := ⟨_, rfl⟩
    subst hv'
    obtain ⟨w3, hw3⟩ : ∃ x, x = W1 := ⟨_, rfl⟩
    subst hw3
  case' some F =>
    obtain ⟨fb, rfl, hF⟩ := H.out.former
    have HF := Lib.hid hF
    clear hF
    have hFl : (usesOf F).length ≤ 1050000 := by obtain ⟨_, _, h⟩ := HF.out; exact usesOf_le F h.ok
    obtain ⟨i0, hi, hz0, hz1, hz2⟩ := info_parts info_int3
    go_enter Tryz.func70, Tryz.ntmps70
    go_wp2_with (first | (go_at_call 105; refine HU.out.mono ?_; rintro r W1 ⟨uv, rfl, hown, hk1⟩; have c1 := (H.out.keep hk1 (spares_none _) (fun h => h)).c1; have HOWN := Lib.hid hown; have HK1 := Lib.hid hk1; have HU2 := Lib.hid (uses_any fb F W1 (HF.out.keep hk1 (spares_none _))); clear HU hown hk1))
    refine HU2.out.mono ?_
    rintro r W2 ⟨uv2, rfl, hown2, hk2⟩
    have hownW := own_keep HOWN.out hk2 (fun _ _ h => h)
    have HK2 := Lib.hid (HK1.out.trans hk2)
    have hws : w.heap.size ≤ W2.heap.size := HK2.out.size
    have HOW := Lib.hid hownW
    have HOW2 := Lib.hid hown2
    have hLe : usesOf cur ++ usesOf F = L := HL.out
    have HLE := Lib.hid hLe
    clear HU2 hk2 hownW hLe c1 hown2
    go_wp2_with (at_builtin; refine list_append_rows rfl _ _ rfl w.heap.size W1.heap.size uv uv2 (usesOf cur) (usesOf F) rfl HOW.out rfl HOW2.out (by omega) hws ?_; intro v' w3 hown3 hgrow; have hI : ISlice w3 v' L := ISlice.of_own (by rw [← HLE.out]; exact hown3); have HK := Lib.hid (HK2.out.trans' (grownBy_keeps hgrow) (fun i hi e => by have := (HOW.out.lt i e.symm).1; omega)); clear hown3 hgrow)
    clear HOW HK2 HLE HOW2
  all_goals
    have h0 : FreeAt w3 L 2 (.slice none 0 0) w3 := ⟨by rw [H2.out]; exact World.ownsRow_nil w3 w3.heap.size 3 1, Keeps.refl _ _⟩
    have HI := Lib.hid hI
    clear hI
    go_loopw [2, 4] (fun v i wr => ∃ k : Nat, 2 ≤ k ∧ k ≤ D.now.length ∧ i = .int .i64 k ∧ FreeAt w3 L k v wr) (fun _ i _ => D.now.length - (intOf i).toNat)
    case atStart => exact ⟨2, Nat.le_refl _, hp, rfl, h0⟩
    case round =>
      obtain ⟨k, hk2, hk, rfl, hA⟩ := hrel
      clear h0
      have hkw := HK.out.trans hA.keeps
      have c2 := (H.out.keep hkw (spares_none _) (fun h => h)).c2
      have hpg := pages_any wr d D fp (by
        obtain ⟨sv, nv, wv, hd, hf⟩ := HD.out
        exact ⟨sv, nv, wv, hd.keep hkw (fun _ _ h => h), hf⟩)
      have HPG := Lib.hid hpg
      have HCN := Lib.hid (contains_any v' L k wr (HI.out.keep hA.keeps) (by omega))
      have HA := Lib.hid hA
      have hfs := freeTo_succ L k hk2
      have hfl := freeTo_le L k
      have hws : w3.heap.size ≤ wr.heap.size := hA.keeps.size
      clear hpg hA hkw
      by_cases hkl : k < D.now.length
      · have hkI : (k : Int) < (D.now.length : Int) := by omega
        by_cases hin : k ∈ L
        · have HFS := Lib.hid (hfs.trans (if_pos hin))
          have hdec : decide (k ∈ L) = true := decide_eq_true hin
          clear hfs
          go_wp2_with (first | (go_at_call 29; refine HPG.out.mono ?_; rintro r W4 ⟨rfl, rfl⟩) | (go_at_call 109; refine HCN.out.mono ?_; rintro r W4 ⟨rfl, rfl⟩))
          have hnext : FreeAt w3 L (k + 1) u2 wr := ⟨by rw [HFS.out]; exact HA.out.own, HA.out.keeps⟩
          go_roundw
          case rel => exact ⟨k + 1, by omega, by omega, by go_num, hnext⟩
          case measure => simp [intOf]; omega
        · have HFS := Lib.hid (hfs.trans (if_neg hin))
          have hdec : decide (k ∈ L) = false := decide_eq_false hin
          obtain ⟨i0, hi, hz0, hz1, hz2⟩ := info_parts info_int3
          clear hfs
          go_wp2_with (first | (go_at_call 29; refine HPG.out.mono ?_; rintro r W4 ⟨rfl, rfl⟩) | (go_at_call 109; refine HCN.out.mono ?_; rintro r W4 ⟨rfl, rfl⟩) | (at_builtin; refine list_append_own rfl _ _ _ rfl w3.heap.size 3 i0 (.int .i64 0) 1 8 Tryz.underlying47 hi hz0 hz1 hz2 rfl (by decide) u2 (freeTo L k).length (ints (freeTo L k)) rfl (own_keep HA.out.own ((Keeps.refl None' wr).alloc _) (fun _ _ h => h)) ⟨wr.heap.size, 0, none⟩ 1 1 [.int .i64 (k : Int)] rfl rfl (by intro j u hj; rw [Addr.add_lit, Nat.zero_add]; exact cell_of_blk (heap_alloc_new wr _) j (by simpa using hj)) (by simp [Value.oneCell']) (by unfold maxLen; omega) (by omega) (by simp; omega) ?_; intro v3 w4 hown hgrow hfr))
          have hnext : FreeAt w3 L (k + 1) v3 w4 := by
            refine ⟨?_, (HA.out.keeps.alloc _).trans' (grownBy_keeps hgrow) (fun i hi e => ?_)⟩
            · rw [HFS.out, List.length_append, show ∀ a b, ints (a ++ b) = ints a ++ ints b from fun a b => by simp [ints]]
              exact hown
            · have := (HA.out.own.lt i e.symm).1
              omega
          clear hown hgrow hfr
          go_roundw
          case rel => exact ⟨k + 1, by omega, by omega, by go_num, hnext⟩
          case measure => simp [intOf]; omega
      · obtain rfl : k = D.now.length := by omega
        clear hfs
        go_wp2_with (first | (go_at_call 29; refine HPG.out.mono ?_; rintro r W4 ⟨rfl, rfl⟩))
        go_ret
        exact ⟨_, rfl, own_base HA.out.own HK.out.size, HK.out.trans HA.out.keeps⟩
end Go.Proofs.YtlbaagjbehdmgaaGreat

namespace Go.Proofs.YtlbaagjbehdmgaaGreat
open Go.RowKit

def freeOf (D : Dsk) (cur : St) (former : Option St) : List Nat := freeTo (usedOf cur former) D.now.length

set_option maxHeartbeats 1000000 in
theorem Free_any (w : World) (s d : Nat) (D : Dsk) (fp : Nat → Prop) (cur : St) (former : Option St) (falls : Int) (h : IsStore w s d cur former falls) (hd : IsDisk w d D fp) (hp : 2 ≤ D.now.length) :
    Calls Tryz.prog 37 #[.pointer (some ⟨s, 0, none⟩)] w fun e w' => e = .returned (.int .i64 (freeOf D cur former).length) ∧ Keeps None' w w' := by
  have HF := Lib.hid (free_any w s d D fp cur former falls h hd hp)
  have HL := Lib.hid (show freeOf D cur former = freeTo (usedOf cur former) D.now.length from rfl)
  clear h hd hp
  generalize freeTo (usedOf cur former) D.now.length = L at *
  go_enter Tryz.func37, Tryz.ntmps37
  go_wp2_with (first | (refine HF.out.mono ?_; rintro r W1 ⟨v, rfl, hown, hk⟩; obtain ⟨a, cap, rfl, -⟩ := ISlice.of_own hown; clear hown))
  go_ret
  exact ⟨ret_int (by rw [HL.out]), hk⟩

set_option maxRecDepth 100000 in
set_option maxHeartbeats 1000000 in
theorem down_any (w : World) (s d : Nat) (D : Dsk) (fp : Nat → Prop) (cur : St) (former : Option St) (falls : Int) (h : IsStore w s d cur former falls) (hd : IsDisk w d D fp) :
    Calls Tryz.prog 71 #[.pointer (some ⟨s, 0, none⟩)] w fun e w' => e = .returned (.bool (D.falls != falls)) ∧ Keeps None' w w' := by
  obtain ⟨cb, fv, h⟩ := h
  obtain ⟨sv, nv, wv, hd, rfl⟩ := hd
  have c2 : w.drew.cell? ⟨s, 2, none⟩ = _ := h.c2
  have c3 : w.drew.cell? ⟨s, 3, none⟩ = _ := h.c3
  have c5 : w.drew.cell? ⟨d, 5, none⟩ = _ := hd.c5
  clear h hd
  go_enter Tryz.func71, Tryz.ntmps71
  go_wp2_with fail
  go_region
  all_goals
    go_wp2
    go_ret
    exact ⟨rfl, (Keeps.refl _ _).drew⟩
end Go.Proofs.YtlbaagjbehdmgaaGreat

namespace Go.Proofs.YtlbaagjbehdmgaaGreat
open Go.RowKit

/-- the block of a state, whatever it holds -/
def StBlk (w : World) (b : Nat) (at_ houses gen : Int) (ev iv : Value) : Prop := w.heap[b]? = some (.cells #[.int .i64 at_, .int .i64 houses, .int .u64 gen, ev, iv] 119 (0, 0))
def comesAfter (q e : Ent) : Bool := e.house == q.house && e.no == q.no + 1 || decide (q.house < e.house) && e.no == 0
def followsP (houses : Int) (l : List Placed) (e : Ent) : Bool := e.valid && decide (e.house < houses) && (match l.getLast? with | some p => comesAfter p.e e | none => e.no == 0)

set_option linter.unusedSimpArgs false in
set_option maxRecDepth 100000 in
set_option maxHeartbeats 2000000 in
theorem follows_any (w : World) (b : Nat) (at_ houses gen : Int) (ev iv : Value) (l : List Placed) (e : Ent) (h : StBlk w b at_ houses gen ev iv) (hr : RPlaced w ev l) (hl : l.length ≤ 1024) (hn : ∀ p ∈ l, p.e.no ≤ 1000 ∧ 0 ≤ p.e.no) :
    Calls Tryz.prog 125 #[.pointer (some ⟨b, 0, none⟩), e.val] w fun r w' => r = .returned (.bool (followsP houses l e)) ∧ Keeps None' w w' := by
  obtain ⟨ae, capE, rfl⟩ := hr.shape
  have hblt := lt_of_block h
  have c1 := cell_of_blk h 1 (v := .int .i64 houses) rfl
  have c3 := cell_of_blk h 3 (v := .slice ae l.length capE) rfl
  have HCK := Lib.hid (fun W => check_any e W)
  have HR := Lib.hid hr
  have HN := Lib.hid hn
  have H := Lib.hid h
  obtain ⟨eh, en, eb⟩ := e
  unfold Ent.val at *
  dsimp only at *
  clear hr hn h
  go_enter Tryz.func125, Tryz.ntmps125
  go_wp2_with fail
  refine gen_wp (fun W => W.heap[w.heap.size]? = some (.cells #[.int .i64 eh, .int .i64 en, .string (str eb)] 64 (0, 0)) ∧ Keeps None' w W) ⟨heap_alloc_new _ _, (Keeps.refl _ _).alloc _⟩ ?_
  rintro W0 ⟨hz0, hk0⟩
  have a0 : W0.drew.cell? ⟨w.heap.size, 0, none⟩ = some (.int .i64 eh) := cell_of_blk (w := W0.drew) hz0 0 rfl
  have a1 : W0.drew.cell? ⟨w.heap.size, 1, none⟩ = some (.int .i64 en) := cell_of_blk (w := W0.drew) hz0 1 rfl
  have a2 : W0.drew.cell? ⟨w.heap.size, 2, none⟩ = some (.string (str eb)) := cell_of_blk (w := W0.drew) hz0 2 rfl
  have d1 : W0.drew.cell? ⟨b, 1, none⟩ = some (.int .i64 houses) := (hk0.drew.cell (p := ⟨b, 1, none⟩) hblt (fun h => h)).trans c1
  have HC := Lib.hid (HCK.out W0.drew)
  clear HCK c1
  by_cases hv : (Ent.mk eh en eb).valid = true
  · have hck := chk_ok hv
    rw [hck] at HC
    have HF := Lib.hid (show followsP houses l ⟨eh, en, eb⟩ = (decide (eh < houses) && (match l.getLast? with | some p => comesAfter p.e ⟨eh, en, eb⟩ | none => en == 0)) by simp [followsP, hv])
    clear hck hv
    by_cases hh : eh < houses
    · have hhb : decide (houses ≤ eh) = false := decide_eq_false (by omega)
      go_region_held3 (fun W => W.cell? ⟨w.heap.size, 0, none⟩ = some (.int .i64 eh) ∧ W.cell? ⟨w.heap.size, 1, none⟩ = some (.int .i64 en) ∧ W.cell? ⟨w.heap.size, 2, none⟩ = some (.string (str eb)) ∧ W.cell? ⟨b, 1, none⟩ = some (.int .i64 houses)) (first | exact ⟨a0, a1, a2, d1⟩ | exact ⟨g0, g1, g2, g3⟩) (first | (go_at_call 72; refine HC.out.mono ?_; rintro r W1 ⟨rfl, hk1⟩; have g0 := (hk1.cell (p := ⟨w.heap.size, 0, none⟩) (block_lt_of_cell a0) (fun h => h)).trans a0; have g1 := (hk1.cell (p := ⟨w.heap.size, 1, none⟩) (block_lt_of_cell a1) (fun h => h)).trans a1; have g2 := (hk1.cell (p := ⟨w.heap.size, 2, none⟩) (block_lt_of_cell a2) (fun h => h)).trans a2; have g3 := (hk1.cell (p := ⟨b, 1, none⟩) (block_lt_of_cell d1) (fun h => h)).trans d1))
      try simp only [Exit.then]
      have hk1' := hk0.drew.trans hk1
      have s3 : W1.cell? ⟨b, 3, none⟩ = some (.slice ae l.length capE) := (hk1'.cell (p := ⟨b, 3, none⟩) hblt (fun h => h)).trans c3
      have HK := Lib.hid hk1'
      have hd : decide (eh < houses) = true := decide_eq_true hh
      have HD := Lib.hid hd
      clear hk1 hk1' a0 a1 a2 d1 hd HC
      by_cases hl0 : l = []
      · subst hl0
        have HF2 := Lib.hid (show followsP houses [] ⟨eh, en, eb⟩ = (en == 0) by rw [HF.out, HD.out]; simp)
        clear HF
        go_wp2
        go_ret
        exact ⟨ret_bool HF2.out.symm, HK.out⟩
      · have hlp : 0 < l.length := List.length_pos_iff.2 hl0
        obtain ⟨be, oe, pv, rfl, hbe, hcap, hpv, e0, e1, e2, e3⟩ := (HR.out.keep HK.out (spares_none _)).get (l.length - 1) (by omega)
        obtain ⟨ap, capp, rfl⟩ := hpv.shape
        have hlast : l.getLast? = some (l[l.length - 1]'(by omega)) := by rw [List.getLast?_eq_getElem?, List.getElem?_eq_getElem (by omega)]
        have hnn := HN.out (l[l.length - 1]'(by omega)) (List.getElem_mem _)
        generalize l[l.length - 1]'(by omega) = q at *
        have HF2 := Lib.hid (show followsP houses l ⟨eh, en, eb⟩ = comesAfter q.e ⟨eh, en, eb⟩ by rw [HF.out, HD.out, hlast]; simp)
        have hlI : (0 : Int) < (l.length : Int) := by omega
        clear HF hpv hlast hl0
        have v0 : (W1.alloc (.cells #[.int .i64 q.e.house, .int .i64 q.e.no, .string (str q.e.body)] 64)).cell? ⟨w.heap.size, 0, none⟩ = some (.int .i64 eh) := Lib.cell?_alloc_some _ g0
        have v1 : (W1.alloc (.cells #[.int .i64 q.e.house, .int .i64 q.e.no, .string (str q.e.body)] 64)).cell? ⟨w.heap.size, 1, none⟩ = some (.int .i64 en) := Lib.cell?_alloc_some _ g1
        have hw1 : IntKind.i64.wrap (q.e.no + 1) = q.e.no + 1 := IntWalk.i64_in _ (by omega)
        by_cases hA : eh = q.e.house
        · by_cases hB : en = q.e.no + 1
          · have HG := Lib.hid (show comesAfter q.e ⟨eh, en, eb⟩ = true by simp [comesAfter, hA, hB])
            have hAb : (eh == q.e.house) = true := by simpa using hA
            have hBb : (en == q.e.no + 1) = true := by simpa using hB
            clear hA hB
            go_wp2
            go_ret
            exact ⟨ret_bool (HF2.out.trans HG.out).symm, HK.out.alloc _⟩
          · have HG := Lib.hid (show comesAfter q.e ⟨eh, en, eb⟩ = false by simp [comesAfter, hA, hB])
            have hAb : (eh == q.e.house) = true := by simpa using hA
            have hBb : (en == q.e.no + 1) = false := by simpa using hB
            have hCb : decide (q.e.house < eh) = false := decide_eq_false (by omega)
            clear hA hB
            go_wp2
            go_ret
            exact ⟨ret_bool (HF2.out.trans HG.out).symm, HK.out.alloc _⟩
        · by_cases hB : q.e.house < eh
          · have HG := Lib.hid (show comesAfter q.e ⟨eh, en, eb⟩ = (en == 0) by simp [comesAfter, hA, hB])
            have hAb : (eh == q.e.house) = false := by simpa using hA
            have hCb : decide (q.e.house < eh) = true := decide_eq_true hB
            clear hA
            go_wp2
            go_ret
            exact ⟨ret_bool (HF2.out.trans HG.out).symm, HK.out.alloc _⟩
          · have HG := Lib.hid (show comesAfter q.e ⟨eh, en, eb⟩ = false by simp [comesAfter, hA, hB])
            have hAb : (eh == q.e.house) = false := by simpa using hA
            have hCb : decide (q.e.house < eh) = false := decide_eq_false hB
            clear hA
            go_wp2
            go_ret
            exact ⟨ret_bool (HF2.out.trans HG.out).symm, HK.out.alloc _⟩
    · have hhb : decide (houses ≤ eh) = true := decide_eq_true (by omega)
      have HF2 := Lib.hid (show followsP houses l ⟨eh, en, eb⟩ = false by rw [HF.out, decide_eq_false hh]; rfl)
      clear HF
      go_region_held3 (fun W => W.cell? ⟨w.heap.size, 0, none⟩ = some (.int .i64 eh) ∧ W.cell? ⟨w.heap.size, 1, none⟩ = some (.int .i64 en) ∧ W.cell? ⟨w.heap.size, 2, none⟩ = some (.string (str eb)) ∧ W.cell? ⟨b, 1, none⟩ = some (.int .i64 houses)) (first | exact ⟨a0, a1, a2, d1⟩ | exact ⟨g0, g1, g2, g3⟩) (first | (go_at_call 72; refine HC.out.mono ?_; rintro r W1 ⟨rfl, hk1⟩; have g0 := (hk1.cell (p := ⟨w.heap.size, 0, none⟩) (block_lt_of_cell a0) (fun h => h)).trans a0; have g1 := (hk1.cell (p := ⟨w.heap.size, 1, none⟩) (block_lt_of_cell a1) (fun h => h)).trans a1; have g2 := (hk1.cell (p := ⟨w.heap.size, 2, none⟩) (block_lt_of_cell a2) (fun h => h)).trans a2; have g3 := (hk1.cell (p := ⟨b, 1, none⟩) (block_lt_of_cell d1) (fun h => h)).trans d1))
      try simp only [Exit.then]
      go_wp2
      go_ret
      exact ⟨ret_bool HF2.out.symm, hk0.drew.trans hk1⟩
  · have hv' : (Ent.mk eh en eb).valid = false := by simpa using hv
    have hck := chk_bad hv'
    rw [hck] at HC
    have HF2 := Lib.hid (show followsP houses l ⟨eh, en, eb⟩ = false by rw [followsP, hv']; rfl)
    clear hck hv hv'
    refine wp_region_held_drew (S := fun W => W.cell? ⟨w.heap.size, 0, none⟩ = some (.int .i64 eh) ∧ W.cell? ⟨w.heap.size, 1, none⟩ = some (.int .i64 en) ∧ W.cell? ⟨w.heap.size, 2, none⟩ = some (.string (str eb))) (by kernel_rfl) ⟨a0, a1, a2⟩ (fun hHeld => ?_)
    refine wpAnyH_take (i := 0) (v := .agg #[.int .i64 eh, .int .i64 en, .string (str eb)]) rfl (by kernel_rfl) (by kernel_rfl) (by kernel_rfl) (fun _ _ _ h => h) (Or.inl ⟨by rfl, fun W hS => by obtain ⟨s0, s1, s2⟩ := hS; go_simp⟩) (by assumption) ?_
    try simp only [List.getElem_toArray, List.getElem_cons_succ, List.getElem_cons_zero, Act.put, List.setIfInBounds_toArray, List.set_cons_zero, List.set_cons_succ]
    refine wpAnyH_ready (rs := [1]) (by kernel_rfl) (by simp) ?_
    refine AllReadyH.cons rfl (fun K hK => ?_) AllReadyH.nil
    go_simp
    refine HC.out.mono ?_
    rintro r W1 ⟨rfl, hk1⟩
    have g0 := (hk1.cell (p := ⟨w.heap.size, 0, none⟩) (block_lt_of_cell a0) (fun h => h)).trans a0
    have g1 := (hk1.cell (p := ⟨w.heap.size, 1, none⟩) (block_lt_of_cell a1) (fun h => h)).trans a1
    have g2 := (hk1.cell (p := ⟨w.heap.size, 2, none⟩) (block_lt_of_cell a2) (fun h => h)).trans a2
    refine hK.out _ _ ⟨g0, g1, g2⟩ (fun hHeld2 => ?_)
    clear hK K hHeld
    try simp only [List.getElem_toArray, List.getElem_cons_succ, List.getElem_cons_zero, Act.put, List.setIfInBounds_toArray, List.set_cons_zero, List.set_cons_succ]
    refine wpAnyH_take (i := 2) (v := .bool true) rfl (by kernel_rfl) (by kernel_rfl) (by kernel_rfl) (fun _ _ _ h => h) (Or.inl ⟨by rfl, fun W hS => by go_simp⟩) (by assumption) ?_
    try simp only [List.getElem_toArray, List.getElem_cons_succ, List.getElem_cons_zero, Act.put, List.setIfInBounds_toArray, List.set_cons_zero, List.set_cons_succ]
    refine wpAnyH_take (i := 3) (v := .bool true) rfl (by kernel_rfl) (by kernel_rfl) (by kernel_rfl) (fun _ _ _ h => h) (Or.inl ⟨by rfl, fun W hS => by go_simp⟩) (by assumption) ?_
    try simp only [List.getElem_toArray, List.getElem_cons_succ, List.getElem_cons_zero, Act.put, List.setIfInBounds_toArray, List.set_cons_zero, List.set_cons_succ]
    refine wpAnyH_take (i := 4) (v := undef) rfl (by kernel_rfl) (by kernel_rfl) (by kernel_rfl) (fun _ _ _ h => h) (Or.inr ⟨by rfl, rfl⟩) (by assumption) ?_
    try simp only [List.getElem_toArray, List.getElem_cons_succ, List.getElem_cons_zero, Act.put, List.setIfInBounds_toArray, List.set_cons_zero, List.set_cons_succ]
    refine wpAnyH_take (i := 5) (v := undef) rfl (by kernel_rfl) (by kernel_rfl) (by kernel_rfl) (fun _ _ _ h => h) (Or.inr ⟨by rfl, rfl⟩) (by assumption) ?_
    try simp only [List.getElem_toArray, List.getElem_cons_succ, List.getElem_cons_zero, Act.put, List.setIfInBounds_toArray, List.set_cons_zero, List.set_cons_succ]
    refine wpAnyH_take (i := 6) (v := undef) rfl (by kernel_rfl) (by kernel_rfl) (by kernel_rfl) (fun _ _ _ h => h) (Or.inr ⟨by rfl, rfl⟩) (by assumption) ?_
    try simp only [List.getElem_toArray, List.getElem_cons_succ, List.getElem_cons_zero, Act.put, List.setIfInBounds_toArray, List.set_cons_zero, List.set_cons_succ]
    refine wpAnyH_take (i := 7) (v := undef) rfl (by kernel_rfl) (by kernel_rfl) (by kernel_rfl) (fun _ _ _ h => h) (Or.inr ⟨by rfl, rfl⟩) (by assumption) ?_
    try simp only [List.getElem_toArray, List.getElem_cons_succ, List.getElem_cons_zero, Act.put, List.setIfInBounds_toArray, List.set_cons_zero, List.set_cons_succ]
    refine wpAnyH_take (i := 8) (v := undef) rfl (by kernel_rfl) (by kernel_rfl) (by kernel_rfl) (fun _ _ _ h => h) (Or.inr ⟨by rfl, rfl⟩) (by assumption) ?_
    try simp only [List.getElem_toArray, List.getElem_cons_succ, List.getElem_cons_zero, Act.put, List.setIfInBounds_toArray, List.set_cons_zero, List.set_cons_succ]
    refine wpAnyH_take (i := 9) (v := undef) rfl (by kernel_rfl) (by kernel_rfl) (by kernel_rfl) (fun _ _ _ h => h) (Or.inr ⟨by rfl, rfl⟩) (by assumption) ?_
    try simp only [List.getElem_toArray, List.getElem_cons_succ, List.getElem_cons_zero, Act.put, List.setIfInBounds_toArray, List.set_cons_zero, List.set_cons_succ]
    refine wpAnyH_take (i := 10) (v := undef) rfl (by kernel_rfl) (by kernel_rfl) (by kernel_rfl) (fun _ _ _ h => h) (Or.inr ⟨by rfl, rfl⟩) (by assumption) ?_
    try simp only [List.getElem_toArray, List.getElem_cons_succ, List.getElem_cons_zero, Act.put, List.setIfInBounds_toArray, List.set_cons_zero, List.set_cons_succ]
    refine wpAnyH_take (i := 11) (v := .bool true) rfl (by kernel_rfl) (by kernel_rfl) (by kernel_rfl) (fun _ _ _ h => h) (Or.inl ⟨by rfl, fun W hS => by go_simp⟩) (by assumption) ?_
    try simp only [List.getElem_toArray, List.getElem_cons_succ, List.getElem_cons_zero, Act.put, List.setIfInBounds_toArray, List.set_cons_zero, List.set_cons_succ]
    refine wpAnyH_done (by kernel_rfl) ?_ _
    try simp only [Exit.then]
    go_wp2
    go_ret
    exact ⟨ret_bool HF2.out.symm, hk0.drew.trans hk1⟩
end Go.Proofs.YtlbaagjbehdmgaaGreat

namespace Go.Proofs.YtlbaagjbehdmgaaGreat
open Go.RowKit

theorem take_eq_step {l m : List Nat} {k : Nat} (x y : Nat) (hx : l[k]? = some x) (hy : m[k]? = some y) (ht : l.take k = m.take k) (e : x = y) : l.take (k + 1) = m.take (k + 1) := by
  obtain ⟨h1, rfl⟩ := List.getElem?_eq_some_iff.1 hx
  obtain ⟨h2, rfl⟩ := List.getElem?_eq_some_iff.1 hy
  rw [List.take_succ_eq_append_getElem h1, List.take_succ_eq_append_getElem h2, ht, e]
set_option maxRecDepth 100000 in
set_option maxHeartbeats 2000000 in
theorem equal_any (v1 v2 : Value) (l m : List Nat) (w : World) (h1 : ISlice w v1 l) (h2 : ISlice w v2 m) (hl : l.length ≤ 10000000) :
    Calls Tryz.prog 60 #[v1, v2] w fun e w' => e = .returned (.bool (decide (l = m))) ∧ Keeps None' w w' := by
  obtain ⟨a1, c1, rfl, hc1⟩ := h1
  obtain ⟨a2, c2, rfl, hc2⟩ := h2
  have HC1 := Lib.hid hc1
  have HC2 := Lib.hid hc2
  clear hc1 hc2
  by_cases hlen : l.length = m.length
  case neg =>
    have HN := Lib.hid (show decide (l = m) = false from decide_eq_false (fun e => hlen (by rw [e])))
    have hI : ((l.length : Int) != (m.length : Int)) = true := by rw [bne_iff_ne]; omega
    clear hlen
    go_enter Tryz.func60, Tryz.ntmps60
    go_wp2
    go_ret
    exact ⟨ret_bool HN.out.symm, Keeps.refl _ _⟩
  have hI : ((l.length : Int) != (m.length : Int)) = false := by rw [hlen]; simp
  have HL := Lib.hid hlen
  clear hlen
  go_enter Tryz.func60, Tryz.ntmps60
  go_wp2
  go_loopw [13] (fun i wr => ∃ k : Nat, k ≤ l.length ∧ i = .int .i64 k ∧ Keeps None' w wr ∧ l.take k = m.take k) (fun i _ => l.length - (intOf i).toNat)
  case atStart => exact ⟨0, Nat.zero_le _, rfl, Keeps.refl _ _, by simp⟩
  case round =>
    obtain ⟨k, hk, rfl, hkw, htk⟩ := hrel
    by_cases hkl : k < l.length
    case neg =>
      obtain rfl : k = l.length := by omega
      have hlm := HL.out
      have HY := Lib.hid (show decide (l = m) = true from decide_eq_true (by
        rw [List.take_length] at htk
        rw [hlm, List.take_length] at htk
        exact htk))
      have HK := Lib.hid hkw
      clear htk hlm hkw
      go_wp2
      go_ret
      exact ⟨ret_bool HY.out.symm, HK.out⟩
    obtain ⟨x, hx⟩ : ∃ x, l[k]? = some x := ⟨l[k], by simp [hkl]⟩
    have hlm := HL.out
    have hkm : k < m.length := by omega
    obtain ⟨y, hy⟩ : ∃ y, m[k]? = some y := ⟨m[k], by simp [hkm]⟩
    obtain ⟨b1, o1, rfl, hcx⟩ := HC1.out k x hx
    obtain ⟨b2, o2, rfl, hcy⟩ := HC2.out k y hy
    have hcx' := (hkw.cell (p := ⟨b1, o1 + k, none⟩) (block_lt_of_cell hcx) (fun h => h)).trans hcx
    have hcy' := (hkw.cell (p := ⟨b2, o2 + k, none⟩) (block_lt_of_cell hcy) (fun h => h)).trans hcy
    have hkI : (k : Int) < (l.length : Int) := by omega
    have hkmI : (k : Int) < (m.length : Int) := by omega
    have HST := Lib.hid (fun e => take_eq_step x y hx hy htk e)
    have HNE := Lib.hid (show x ≠ y → l ≠ m from fun hn e => hn (by rw [e, hy] at hx; exact (Option.some.inj hx).symm))
    have HK := Lib.hid hkw
    clear hcx hcy hx hy htk hlm hkw
    by_cases hxy : x = y
    · have hq : ((x : Int) != (y : Int)) = false := by rw [hxy]; simp
      have HT := Lib.hid (HST.out hxy)
      clear hxy HST HNE
      go_wp2_with fail
      go_quiet (fail)
      go_wp2
      go_roundw
      case rel => exact ⟨k + 1, by omega, by go_num, HK.out.drewN _, HT.out⟩
      case measure => simp [intOf]; omega
    · have hq : ((x : Int) != (y : Int)) = true := by rw [bne_iff_ne]; omega
      have HN := Lib.hid (show decide (l = m) = false from decide_eq_false (HNE.out hxy))
      clear hxy HST HNE
      go_wp2_with fail
      go_quiet (fail)
      go_wp2
      go_ret
      exact ⟨ret_bool HN.out.symm, HK.out.drewN _⟩
end Go.Proofs.YtlbaagjbehdmgaaGreat

namespace Go.Proofs.YtlbaagjbehdmgaaGreat
open Go.RowKit

set_option maxRecDepth 100000 in
set_option maxHeartbeats 1000000 in
theorem rotCmp_any (w : World) (a : Nat) (p : List UInt8) (bx : Nat) (i : Int) (hb : w.cell? ⟨bx, 0, none⟩ = some (.int .i64 i)) :
    Calls Tryz.prog 68 #[.agg (Value.int .i64 (a : Int) :: p.map bv).toArray, .pointer (some ⟨bx, 0, none⟩)] w fun e w' => e = .returned (.bool ((a : Int) == i)) ∧ Keeps None' w w' := by
  have hK : Keeps None' w (w.alloc (.cells (Value.int .i64 (a : Int) :: p.map bv).toArray 110)) := (Keeps.refl _ _).alloc _
  have c0 := cell_of_blk (heap_alloc_new w (.cells (Value.int .i64 (a : Int) :: p.map bv).toArray 110)) 0 (v := .int .i64 (a : Int)) rfl
  have cb : (w.alloc (.cells (Value.int .i64 (a : Int) :: p.map bv).toArray 110)).cell? ⟨bx, 0, none⟩ = some (.int .i64 i) := Lib.cell?_alloc_some _ hb
  go_enter Tryz.func68, Tryz.ntmps68
  go_wp2
  go_ret
  exact ⟨rfl, hK⟩
def RotIdx (l : List (Nat × List UInt8)) (i : Int) (w : World) (e : Ending) (w' : World) : Prop := ∃ k : Int, e = .returned (.int .i64 k) ∧ (0 ≤ k ↔ ∃ x ∈ l, (x.1 : Int) = i) ∧ Keeps None' w w'

set_option maxRecDepth 100000 in
set_option maxHeartbeats 2000000 in
theorem rotIndex_any (w : World) (v : Value) (l : List (Nat × List UInt8)) (bx : Nat) (i : Int) (hb : w.cell? ⟨bx, 0, none⟩ = some (.int .i64 i)) (hown : w.ownsRow 0 110 65 v l.length (writeCells l)) (h64 : ∀ x ∈ l, x.2.length = 64) (hl : l.length ≤ 200000) :
    Calls Tryz.prog 107 #[v, .func (.func 68) #[] #[.pointer (some ⟨bx, 0, none⟩)]] w fun e w' => RotIdx l i w e w' := by
  obtain ⟨a, cap, rfl⟩ : ∃ a cap, v = .slice a l.length cap := by
    rcases hown.2 with ⟨rfl, hn⟩ | ⟨g, cap, cur, rfl, _⟩
    · exact ⟨none, 0, by rw [hn]⟩
    · exact ⟨_, _, rfl⟩
  have HO := Lib.hid hown
  have HB := Lib.hid hb
  have H64 := Lib.hid h64
  clear hown hb h64
  go_enter Tryz.func107, Tryz.ntmps107
  go_wp2_with fail
  go_loopw [8] (fun j wr => ∃ k : Nat, k ≤ l.length ∧ j = .int .i64 k ∧ Keeps None' w wr ∧ ∀ x ∈ l.take k, (x.1 : Int) ≠ i) (fun j _ => l.length - (intOf j).toNat)
  case atStart => exact ⟨0, Nat.zero_le _, rfl, Keeps.refl _ _, by simp⟩
  case round =>
    obtain ⟨k, hk, rfl, hkp, hno⟩ := hrel
    have HK := Lib.hid hkp
    have HNO := Lib.hid hno
    clear hkp hno
    by_cases hkl : k < l.length
    · have hownr := own_keep HO.out HK.out (fun _ _ h => h)
      obtain ⟨g, rfl⟩ : ∃ g, a = some ⟨g, 0, none⟩ := by
        rcases hownr.2 with ⟨_, hn⟩ | ⟨g, cap', cur, he, _⟩
        · omega
        · injection he with he _ _
          exact ⟨g, he⟩
      have hrange : wr.rangeAt g (k * 65) (.int .i64 (l[k].1 : Int) :: l[k].2.map bv) := write_range hownr H64.out k hkl
      have h64k := H64.out _ (List.getElem_mem hkl)
      have hmem : l[k] ∈ l := List.getElem_mem hkl
      have htk : l.take (k + 1) = l.take k ++ [l[k]] := List.take_succ_eq_append_getElem hkl
      generalize l[k] = x at *
      obtain ⟨at_, p⟩ := x
      dsimp only at hrange h64k
      have hap : (Value.int .i64 (at_ : Int) :: p.map bv).length = 65 := by simp [h64k]
      have hin : (Tryz.prog.info? 110).map (·.size) = some (Value.int .i64 (at_ : Int) :: p.map bv).length := by rw [hap]; exact info_write
      have HTK := Lib.hid htk
      have hkI : (k : Int) < (l.length : Int) := by omega
      have HC := Lib.hid (rotCmp_any wr at_ p bx i ((HK.out.cell (p := ⟨bx, 0, none⟩) (block_lt_of_cell HB.out) (fun h => h)).trans HB.out))
      clear htk hownr
      by_cases hai : (at_ : Int) = i
      · have hE : ((at_ : Int) == i) = true := by simpa using hai
        rw [hE] at HC
        have HM := Lib.hid (show ∃ x ∈ l, (x.1 : Int) = i from ⟨_, hmem, hai⟩)
        clear hE hai
        go_wp2_with (first | (refine wpList_load_mid rfl _ _ rfl g (k * 65) rfl _ _ hrange Tryz.underlying110 rfl hin ?_) | (refine HC.out.mono ?_; rintro r W4 ⟨rfl, hk4⟩))
        go_ret
        exact ⟨_, rfl, ⟨fun _ => HM.out, fun _ => by omega⟩, HK.out.trans hk4⟩
      · have hE : ((at_ : Int) == i) = false := by simpa using hai
        rw [hE] at HC
        have HAI := Lib.hid hai
        clear hE hai
        go_wp2_with (first | (refine wpList_load_mid rfl _ _ rfl g (k * 65) rfl _ _ hrange Tryz.underlying110 rfl hin ?_) | (refine HC.out.mono ?_; rintro r W4 ⟨rfl, hk4⟩))
        go_roundw
        case rel =>
          refine ⟨k + 1, by omega, by go_num, HK.out.trans hk4, fun z hz => ?_⟩
          rw [HTK.out] at hz
          rcases List.mem_append.1 hz with h | h
          · exact HNO.out z h
          · simp at h
            subst h
            exact HAI.out
        case measure => simp [intOf]; omega
    · obtain rfl : k = l.length := by omega
      have hno := HNO.out
      rw [List.take_length] at hno
      have HN2 := Lib.hid hno
      clear hno
      go_wp2
      go_ret
      exact ⟨_, rfl, ⟨fun h => absurd h (by decide), fun ⟨x, hx, he⟩ => absurd he (HN2.out x hx)⟩, HK.out⟩

set_option maxHeartbeats 1000000 in
theorem rotContains_any (w : World) (v : Value) (l : List (Nat × List UInt8)) (bx : Nat) (i : Int) (hb : w.cell? ⟨bx, 0, none⟩ = some (.int .i64 i)) (hown : w.ownsRow 0 110 65 v l.length (writeCells l)) (h64 : ∀ x ∈ l, x.2.length = 64) (hl : l.length ≤ 200000) :
    Calls Tryz.prog 67 #[v, .func (.func 68) #[] #[.pointer (some ⟨bx, 0, none⟩)]] w fun e w' => e = .returned (.bool (l.any fun x => (x.1 : Int) == i)) ∧ Keeps None' w w' := by
  have HI := Lib.hid (rotIndex_any w v l bx i hb hown h64 hl)
  clear hb hown h64
  by_cases hx : ∃ x ∈ l, (x.1 : Int) = i
  · have HR := Lib.hid (show (l.any fun x => (x.1 : Int) == i) = true by simpa using hx)
    go_enter Tryz.func67, Tryz.ntmps67
    go_wp2_with (first | (refine HI.out.mono ?_; rintro r W1 ⟨j, rfl, hj, hk⟩; have hge := hj.2 hx; clear hj))
    go_ret
    exact ⟨ret_bool HR.out.symm, hk⟩
  · have HR := Lib.hid (show (l.any fun x => (x.1 : Int) == i) = false by simpa using hx)
    go_enter Tryz.func67, Tryz.ntmps67
    go_wp2_with (first | (refine HI.out.mono ?_; rintro r W1 ⟨j, rfl, hj, hk⟩; have hge : ¬ 0 ≤ j := fun h => hx (hj.1 h); clear hj))
    go_ret
    exact ⟨ret_bool ((decide_eq_false (by omega)).trans HR.out.symm), hk⟩
end Go.Proofs.YtlbaagjbehdmgaaGreat
