/- A memory node as data, where it lies, and the contracts of package memnode. Contracts of package memnode, more: New, Read, Write. A queue pair as data, where it lies; contracts of package queuepair: word, refusal. Contracts of package queuepair: complete, clone, execute. Contracts of package queuepair: execute. verb.Pieces: the pieces of a verb, by a range over a function. Contracts of package queuepair: Post. -/
import Derived.Test.YtaojipegpjolcaaGreatGA
import Derived.Laws.MakeOwn
import Derived.Deep.OwnRows
import Derived.Deep.RegionWith
import Derived.StillTailTactics
import Derived.RangeFuncNested
import Derived.RangeFuncBound
import Derived.RangeFuncCalls
import Derived.RangeFuncLeaves
import Derived.RangeFuncBox
import Derived.Shelf.Abstract
import Derived.Shelf.RegionOpen
import Derived.OwnWalkIn
import Derived.TacticsInMore
import Derived.LoopNIn
import Derived.LoopIn
import Derived.Lib.QuietBelowIn
import Derived.Maps.AppendAt
set_option linter.unusedVariables false
namespace Go.Proofs.YtaojipegpjolcaaGreat
open Go.RowKit Go.Sort Go.Proofs.BodegaHeap

/-- A memory node. -/
structure Nd where
  words : List Int
  down : Bool
abbrev u64s (xs : List Int) : List Value := xs.map (Value.int .u64)
abbrev ndCells (bw : Nat) (N : Nd) : Array Value := #[.slice (some ⟨bw, 0, none⟩) N.words.length N.words.length, .bool N.down]
abbrev ndH (bn bw : Nat) (N : Nd) : List Blk := [(bn, .cells (ndCells bw N) 79 (0, 0)), (bw, .cells (u64s N.words).toArray 22 (0, 0))]
abbrev nP (bn : Nat) : Value := .pointer (some ⟨bn, 0, none⟩)

/-- The facts that a walk over a node wants. -/
structure NdAt (w : World) (bn bw : Nat) (N : Nd) : Prop where
  c : ∀ k, w.cell? ⟨bn, k, none⟩ = (ndCells bw N)[k]?
  f : ∀ k, w.frozen? ⟨bn, k, none⟩ = false
  g : ∀ k, w.frozen? ⟨bw, k, none⟩ = false
  x : ∀ k x, N.words[k]? = some x → w.cell? ⟨bw, k, none⟩ = some (.int .u64 x)
  ne : bn ≠ bw
  ne' : bw ≠ bn
variable {base : Nat} {w0 w : World} {L : List Blk}
theorem NdAt.of {bn bw : Nat} {N : Nd} (h : St base w0 w (ndH bn bw N ++ L)) : NdAt w bn bw N where
  c := fun k => h.cells (cs := ndCells bw N) (t := 79) (fr := (0, 0)) (by simp) k
  f := fun k => h.frozen (cs := ndCells bw N) (t := 79) (by simp) k
  g := fun k => h.frozen (cs := (u64s N.words).toArray) (t := 22) (by simp) k
  x := fun k x hx => by
    rw [h.cells (cs := (u64s N.words).toArray) (t := 22) (fr := (0, 0)) (by simp) k]
    simp [hx]
  ne := fun e => by have := h.nodup; simp [keys, e] at this
  ne' := fun e => by have := h.nodup; simp [keys, e] at this

set_option maxHeartbeats 400000 in
theorem Up_calls (bn bw : Nat) (N : Nd) (h : NdAt w bn bw N) :
    Calls Tryz.prog 67 #[nP bn] w fun e w' => e = .returned (.bool (!N.down)) ∧ w' = w := by
  obtain ⟨c, f, g, x, ne, ne'⟩ := h
  go_enter Tryz.func67, Tryz.ntmps67
  go_wp2
  go_ret
  exact ⟨rfl, rfl⟩

set_option maxHeartbeats 400000 in
theorem Lines_calls (bn bw : Nat) (N : Nd) (hl : N.words.length ≤ 4096) (h : NdAt w bn bw N) :
    Calls Tryz.prog 66 #[nP bn] w fun e w' => e = .returned (.int .i64 ((N.words.length : Int) / 8)) ∧ w' = w := by
  obtain ⟨c, f, g, x, ne, ne'⟩ := h
  go_enter Tryz.func66, Tryz.ntmps66
  go_wp2
  go_ret
  exact ⟨rfl, rfl⟩

set_option maxHeartbeats 400000 in
theorem Fail_calls (bn bw : Nat) (N : Nd) (h : St base w0 w (ndH bn bw N ++ L)) (R : Ending → World → Prop)
    (hR : ∀ w', St base w0 w' (ndH bn bw { N with down := true } ++ L) → R (.returned (.tuple #[])) w') :
    Calls Tryz.prog 24 #[nP bn] w R := by
  have H := Lib.hid h
  obtain ⟨c, f, g, x, ne, ne'⟩ := NdAt.of h
  clear h
  go_enter Tryz.func24, Tryz.ntmps24
  go_wp2
  go_end0
  exact hR _ (H.out.set 1 _)

def ndBack (N : Nd) (b : Int) : Nd := if N.down = true ∧ b < 31 then { words := N.words.set 1 (b + 1), down := false } else N

set_option maxHeartbeats 400000 in
theorem Back_calls (bn bw : Nat) (N : Nd) (hl : 2 ≤ N.words.length) (b : Int) (hb : N.words[1]? = some b) (hb0 : 0 ≤ b) (hb1 : b < 18446744073709551616) (h : St base w0 w (ndH bn bw N ++ L)) (R : Ending → World → Prop)
    (hR : ∀ r w', St base w0 w' (ndH bn bw (ndBack N b) ++ L) → R (.returned (.bool r)) w') :
    Calls Tryz.prog 20 #[nP bn] w R := by
  have H := Lib.hid h
  obtain ⟨c, f, g, x, ne, ne'⟩ := NdAt.of h
  have x1 := x 1 b hb
  have hl2 : 1 < N.words.length := by omega
  clear h x
  have HB := Lib.hid hb
  clear hb
  by_cases hd : N.down = true
  · by_cases hb31 : b < 31
    · have e : ndBack N b = { words := N.words.set 1 (b + 1), down := false } := by unfold ndBack; rw [if_pos ⟨hd, hb31⟩]
      have E := Lib.hid e
      clear e
      go_enter Tryz.func20, Tryz.ntmps20
      go_wp2
      rw [E.out]
      simpa [ndCells] using (((H.out.set 1 (.bool false)).second).set 1 (.int .u64 (b + 1))).second
    · have e : ndBack N b = N := by unfold ndBack; rw [if_neg (fun hh => hb31 hh.2)]
      have E := Lib.hid e
      clear e
      go_enter Tryz.func20, Tryz.ntmps20
      go_wp2
      rw [E.out]; exact H.out
  · have e : ndBack N b = N := by unfold ndBack; rw [if_neg (fun hh => hd hh.1)]
    have E := Lib.hid e
    clear e
    have hd : N.down = false := by simpa using hd
    go_enter Tryz.func20, Tryz.ntmps20
    go_wp2
    rw [E.out]; exact H.out

set_option maxHeartbeats 400000 in
theorem check_calls (bn bw : Nat) (N : Nd) (hl : N.words.length ≤ 4096) (at_ cnt : Int) (h0 : 0 ≤ at_) (h1 : 1 ≤ cnt) (h2 : at_ + cnt ≤ N.words.length) (h : NdAt w bn bw N) :
    Calls Tryz.prog 62 #[nP bn, .int .i64 at_, .int .i64 cnt] w fun e w' => e = .returned (.int .i64 (if N.down then 4 else 0)) ∧ w' = w := by
  obtain ⟨c, f, g, x, ne, ne'⟩ := h
  clear x
  cases hd : N.down
  · go_enter Tryz.func62, Tryz.ntmps62
    go_wp2
    go_ret
    exact ⟨rfl, rfl⟩
  · go_enter Tryz.func62, Tryz.ntmps62
    go_wp2
    go_ret
    exact ⟨rfl, rfl⟩

set_option maxHeartbeats 400000 in
theorem Cas_calls (bn bw : Nat) (N : Nd) (hl : N.words.length ≤ 4096) (hd : N.down = false) (at_ old new was : Int) (h0 : 0 ≤ at_) (h2 : at_ < N.words.length) (hw : N.words[at_.toNat]? = some was)
    (h : St base w0 w (ndH bn bw N ++ L)) (R : Ending → World → Prop)
    (hR : ∀ w', St base w0 w' (ndH bn bw (if was = old then { N with words := N.words.set at_.toNat new } else N) ++ L) → R (.returned (.tuple #[.int .u64 was, .int .i64 0])) w') :
    Calls Tryz.prog 84 #[nP bn, .int .i64 at_, .int .u64 old, .int .u64 new] w R := by
  have H := Lib.hid h
  have hk := check_calls bn bw N hl at_ 1 h0 (by omega) (by omega) (NdAt.of h)
  rw [hd] at hk
  have HK := Lib.hid hk
  obtain ⟨c, f, g, x, ne, ne'⟩ := NdAt.of h
  have x1 := x _ _ hw
  clear h x hk hw
  by_cases e : was = old
  · rw [if_pos e] at hR
    have e1 : (was == old) = true := by simp [e]
    clear e
    go_enter Tryz.func84, Tryz.ntmps84
    go_wp2_with fail
    refine HK.out.mono ?_
    rintro e w1 ⟨rfl, rfl⟩
    go_wp2
    simpa [ndCells] using (H.out.second.set at_.toNat (.int .u64 new)).second
  · rw [if_neg e] at hR
    have e1 : (was == old) = false := by simp [e]
    clear e
    go_enter Tryz.func84, Tryz.ntmps84
    go_wp2_with fail
    refine HK.out.mono ?_
    rintro e w1 ⟨rfl, rfl⟩
    go_wp2
    exact H.out

end Go.Proofs.YtaojipegpjolcaaGreat
set_option linter.unusedVariables false
namespace Go.Proofs.YtaojipegpjolcaaGreat
open Go.RowKit Go.Sort Go.Proofs.BodegaHeap
variable {base : Nat} {w0 w : World} {L : List Blk}

theorem u64s_one (xs : List Int) : ∀ u ∈ u64s xs, u.oneCell' = true := by
  intro u hu
  obtain ⟨x, _, rfl⟩ := List.mem_map.1 hu
  rfl

set_option maxHeartbeats 400000 in
theorem Read_calls (bn bw : Nat) (N : Nd) (hl : N.words.length ≤ 4096) (hd : N.down = false) (at_ cnt : Int) (h0 : 0 ≤ at_) (h1 : 1 ≤ cnt) (h2 : at_ + cnt ≤ N.words.length) (hn : NdAt w bn bw N) (h : St base w0 w L) (R : Ending → World → Prop)
    (hR : ∀ r w', RowOk r 1 cnt.toNat (u64s ((N.words.drop at_.toNat).take cnt.toNat)) → St base w0 w' (rowH r 22 (u64s ((N.words.drop at_.toNat).take cnt.toNat)) ++ L) → R (.returned (.tuple #[rowV r cnt.toNat, .int .i64 0])) w') :
    Calls Tryz.prog 43 #[nP bn, .int .i64 at_, .int .i64 cnt] w R := by
  have H := Lib.hid h
  have hk := check_calls bn bw N hl at_ cnt h0 (by omega) (by omega) hn
  rw [hd] at hk
  have HK := Lib.hid hk
  obtain ⟨c, f, g, x, ne, ne'⟩ := hn
  have X := Lib.hid x
  clear h x hk
  obtain ⟨a, rfl⟩ := Int.eq_ofNat_of_zero_le h0
  obtain ⟨m, rfl⟩ := Int.eq_ofNat_of_zero_le (show 0 ≤ cnt by omega)
  simp only [Int.toNat_natCast] at hR
  go_enter Tryz.func43, Tryz.ntmps43
  go_wp2_with fail
  refine HK.out.mono ?_
  rintro e w1 ⟨rfl, rfl⟩
  go_wp2_with fail
  refine Clone64_calls ⟨bw, a, none⟩ m _ (u64s ((N.words.drop a).take m)) ?_ ?_ ?_ (u64s_one _) ?_ H.out _ ?_
  · simp; omega
  · omega
  · omega
  · intro j u hj
    simp only [List.getElem?_map, Option.map_eq_some_iff] at hj
    obtain ⟨x, hx, rfl⟩ := hj
    have e : ((⟨bw, a, none⟩ : Addr).add j) = ⟨bw, a + j, none⟩ := by unfold Addr.add; split <;> simp_all
    rw [e]
    refine X.out _ _ ?_
    rw [List.getElem?_take] at hx
    split at hx
    · simpa using hx
    · cases hx
  · intro r w2 h3 h4
    clear H HK X c f g
    go_wp2
    exact hR _ _ h3 h4

/-- Words laid over a node's words. -/
def wOver (xs : List Int) (at_ : Nat) (ys : List Int) : List Int := xs.take at_ ++ (ys ++ xs.drop (at_ + ys.length))
theorem wOver_length (xs : List Int) (at_ : Nat) (ys : List Int) (h : at_ + ys.length ≤ xs.length) : (wOver xs at_ ys).length = xs.length := by simp [wOver]; omega

set_option maxHeartbeats 800000 in
theorem Write_calls (bn bw : Nat) (N : Nd) (hl : N.words.length ≤ 4096) (hd : N.down = false) (at_ : Int) (h0 : 0 ≤ at_) (ad : Addr) (c : Nat) (ys : List Int) (hc : ys.length ≤ c) (hy : ∀ j u, (u64s ys)[j]? = some u → w.cell? (ad.add j) = some u) (h1 : 1 ≤ ys.length) (h2 : at_ + ys.length ≤ N.words.length) (h : St base w0 w (ndH bn bw N ++ L)) (R : Ending → World → Prop)
    (hR : ∀ w', St base w0 w' (ndH bn bw { N with words := wOver N.words at_.toNat ys } ++ L) → R (.returned (.int .i64 0)) w') :
    Calls Tryz.prog 75 #[nP bn, .int .i64 at_, .slice (some ad) ys.length c] w R := by
  have H := Lib.hid h
  have hk := check_calls bn bw N hl at_ ys.length h0 (by omega) (by omega) (NdAt.of h)
  rw [hd] at hk
  have HK := Lib.hid hk
  have HY := Lib.hid hy
  obtain ⟨cc, f, g, x, ne, ne'⟩ := NdAt.of h
  clear h x hk hy
  obtain ⟨a, rfl⟩ := Int.eq_ofNat_of_zero_le h0
  simp only [Int.toNat_natCast] at hR
  have hsz : (Tryz.prog.info? 22).map (·.size) = some 1 := by kernel_rfl
  have HSZ := Lib.hid hsz
  clear hsz
  go_enter Tryz.func75, Tryz.ntmps75
  go_wp2_with fail
  refine HK.out.mono ?_
  rintro e w1 ⟨rfl, rfl⟩
  go_wp2_with (refine wp_copy (base := base) (w0 := w0) rfl (.tmp 21) (.tmp 22) rfl Tryz.underlying77 HSZ.out bw a (N.words.length - a) (N.words.length - a) ad ys.length c ?e1 ?e2 (u64s N.words).toArray 22 (St.second H.out) (u64s ys) ?e3 HY.out ?e4 (u64s_one _) ?e5)
  case e1 => rfl
  case e2 => rfl
  case e3 => rw [List.length_map]; exact (Nat.min_eq_left (by omega)).symm
  case e4 => simp; omega
  case e5 =>
    intro w2 h3
    have h4 := h3.second
    clear h3 H HK HY HSZ cc f g
    go_wp2
    have e : (u64s (wOver N.words a ys)) = (u64s N.words).toArray.toList.take a ++ (u64s ys ++ (u64s N.words).toArray.toList.drop (a + ys.length)) := by simp [wOver, u64s]
    have hw : (wOver N.words a ys).length = N.words.length := wOver_length _ _ _ (by omega)
    simp only [ndH, ndCells, hw, e]
    exact h4

set_option maxHeartbeats 400000 in
theorem NewNode_calls (lines : Int) (h0 : 1 ≤ lines) (h1 : lines ≤ 256) (h : St base w0 w L) (R : Ending → World → Prop)
    (hR : ∀ bn bw w', St base w0 w' (ndH bn bw ⟨List.replicate (8 * lines).toNat 0, false⟩ ++ L) → R (.returned (.tuple #[nP bn, .int .i64 0])) w') :
    Calls Tryz.prog 47 #[.int .i64 lines] w R := by
  obtain ⟨n, rfl⟩ := Int.eq_ofNat_of_zero_le (show 0 ≤ lines by omega)
  have H := Lib.hid h
  have hmk : ∀ W : World, (Instr.makeSlice 77 (.int .i64 ((n : Int) * 8)) (.int .i64 ((n : Int) * 8))).run Tryz.prog W = .ok (.slice (some ⟨W.heap.size, 0, none⟩) (n * 8) (n * 8)) (W.alloc (.cells (madeCells #[.int .u64 0] (n * 8)) 22)) := by
    intro W
    have := run_make_row' (P := Tryz.prog) 77 22 (.int .u64 0) 8 Tryz.underlying77 (by kernel_rfl) rfl .i64 .i64 (n * 8) (by omega) (by omega) W
    simpa using this
  clear h
  go_enter Tryz.func47, Tryz.ntmps47
  go_wp2
  refine hR (w.heap.size + 1) w.heap.size _ ?_
  have e : ndCells w.heap.size ⟨List.replicate (8 * (n : Int)).toNat 0, false⟩ = #[Value.slice (some ⟨w.heap.size, 0, none⟩) (n * 8) (n * 8), Value.bool false] := by
    have : (8 * (n : Int)).toNat = n * 8 := by omega
    simp [ndCells, this]
  have e2 : (u64s (List.replicate (8 * (n : Int)).toNat 0)).toArray = madeCells #[Value.int .u64 0] (n * 8) := by
    have : (8 * (n : Int)).toNat = n * 8 := by omega
    rw [this]
    apply Array.ext'
    apply List.ext_getElem
    · simp [madeCells]
    · intro i h1 h2
      simp [madeCells, Nat.mod_one]
  simp only [ndH, e, e2]
  exact (H.out.alloc _).allocAt _ (by simp) _

end Go.Proofs.YtaojipegpjolcaaGreat
set_option linter.unusedVariables false
namespace Go.Proofs.YtaojipegpjolcaaGreat
open Go.RowKit Go.Sort Go.Proofs.BodegaHeap
variable {base : Nat} {w0 w : World} {L : List Blk}

/-- A verb and where its words lie. -/
abbrev GV := Vb × Rw
abbrev gvC (g : GV) : List Value := (vCells g.1 (rowA g.2) (g.1.words.length + g.2.k)).toList
abbrev gvH (g : GV) : List Blk := rowH g.2 22 (u64s g.1.words)
abbrev GvOk (g : GV) : Prop := RowOk g.2 1 g.1.words.length (u64s g.1.words)
/-- A pair and where its parts lie. -/
structure GP where
  bp : Nat
  cl : Int
  inc : Int
  nd : Int
  rv : Rw
  gs : List GV
  ex : Int
  rw_ : Rw
  ws : List Int
abbrev gpCells (g : GP) : Array Value := #[.int .i64 g.cl, .int .i64 g.inc, .int .i64 g.nd, rowV g.rv g.gs.length, .int .i64 g.ex, rowV g.rw_ g.ws.length]
abbrev gpH (g : GP) : List Blk := (g.bp, .cells (gpCells g) 111 (0, 0)) :: (rowH g.rv 113 (g.gs.flatMap gvC) ++ (rowH g.rw_ 22 (u64s g.ws) ++ g.gs.flatMap gvH))
structure GpOk (g : GP) : Prop where
  rv : RowOk g.rv 9 g.gs.length (g.gs.flatMap gvC)
  gs : ∀ x, x ∈ g.gs → GvOk x
  rw_ : RowOk g.rw_ 1 g.ws.length (u64s g.ws)
abbrev pP (bp : Nat) : Value := .pointer (some ⟨bp, 0, none⟩)

set_option maxHeartbeats 400000 in
theorem word_calls (bn bw : Nat) (N : Nd) (hl : N.words.length ≤ 4096) (hd : N.down = false) (at_ x : Int) (h0 : 0 ≤ at_) (h2 : at_ < N.words.length) (hx : N.words[at_.toNat]? = some x) (hn : NdAt w bn bw N) :
    Calls Tryz.prog 80 #[nP bn, .int .i64 at_] w fun e w' => e = .returned (.int .u64 x) ∧ Below w.heap.size w w' := by
  have HX := Lib.hid hx
  clear hx
  have hr := fun R => Read_calls (L := []) bn bw N hl hd at_ 1 h0 (by omega) (by omega) hn (St.start w) R
  have HR := Lib.hid hr
  clear hr hn
  go_enter Tryz.func80, Tryz.ntmps80
  go_wp2_with fail
  refine HR.out _ ?_
  intro r w1 h1 h2
  obtain ⟨b, hb⟩ := h1.pos (by decide)
  have hb1 := h2.below
  have hc : w1.cell? ⟨b, 0, none⟩ = some (.int .u64 x) := by
    rw [h2.row_cell hb (fun p hp => List.mem_append_left _ hp) 0 (by simp; omega)]
    have e : ((N.words.drop at_.toNat).take (1 : Int).toNat)[0]? = some x := by
      rw [List.getElem?_take]; simpa using HX.out
    rw [List.getElem?_map, e]; rfl
  have eb : rowV r (1 : Int).toNat = .slice (some ⟨b, 0, none⟩) 1 (1 + r.k) := by simp [rowV, rowA, hb]
  rw [eb]
  have HB := Lib.hid hb1
  clear h1 h2 HX HR hb hb1 eb
  go_wp2
  go_ret
  exact ⟨rfl, HB.out⟩

theorem regrown {W : World} {f : FuncId} {args : Array Value} {v : Value} (h : ∀ w', Below W.heap.size W w' → Calls Tryz.prog f args w' fun e w'' => e = .returned v ∧ Below w'.heap.size w' w'') :
    ∀ d os, Calls Tryz.prog f args (grow (redrawn W d) os) fun e w'' => e = .returned v ∧ ∃ p : Regrown, w'' = grow (redrawn W p.d) p.os :=
  fun d os => Calls.regrown_of (h _ (below_regrown W d os))
theorem NdAt.later {bn bw : Nat} {N : Nd} (h : NdAt w bn bw N) (hz : bn < w.heap.size ∧ bw < w.heap.size) {w' : World} (hb : Below w.heap.size w w') : NdAt w' bn bw N where
  c := fun k => by rw [hb.cell (p := ⟨bn, k, none⟩) hz.1]; exact h.c k
  f := fun k => by rw [hb.frozen (p := ⟨bn, k, none⟩) hz.1]; exact h.f k
  g := fun k => by rw [hb.frozen (p := ⟨bw, k, none⟩) hz.2]; exact h.g k
  x := fun k x hx => by rw [hb.cell (p := ⟨bw, k, none⟩) hz.2]; exact h.x k x hx
  ne := h.ne
  ne' := h.ne'
theorem NdAt.lt {bn bw : Nat} {N : Nd} (h : NdAt w bn bw N) (h0 : 0 < N.words.length) : bn < w.heap.size ∧ bw < w.heap.size := by
  refine ⟨World.block_lt_of_cell? w ⟨bn, 0, none⟩ (h.c 0), World.block_lt_of_cell? w ⟨bw, 0, none⟩ (h.x 0 N.words[0] (by simp [h0]))⟩
theorem same_below {f : FuncId} {args : Array Value} {v : Value} (h : Calls Tryz.prog f args w fun e w' => e = .returned v ∧ w' = w) : Calls Tryz.prog f args w fun e w' => e = .returned v ∧ Below w.heap.size w w' :=
  h.mono fun _ _ ⟨h1, h2⟩ => ⟨h1, by rw [h2]; exact Below.refl _ _⟩

theorem get_getD (xs : List Int) (k : Nat) (h : k < xs.length) : xs[k]? = some (xs.getD k 0) := by
  rw [List.getD_eq_getElem?_getD, List.getElem?_eq_getElem h]; rfl
/-- What a node says to a verb of a pair. -/
def ndRefuses (N : Nd) (v : Vb) (cl inc : Int) : Int :=
  if N.down then 4 else vCheck v inc (N.words.getD (24 + cl).toNat 0) (N.words.getD 0 0) (N.words.getD 1 0)

set_option maxHeartbeats 1600000 in
theorem refusal_calls (g : GP) (v : Vb) (A : Option Addr) (c : Nat) (bn bw : Nat) (N : Nd) (lines : Int) (hl : (N.words.length : Int) = 8 * lines) (hl2 : 6 ≤ lines) (hv : VOk v 5 lines) (hc0 : 0 ≤ g.cl) (hc1 : g.cl ≤ 5) (hi0 : 0 ≤ g.inc) (hi1 : g.inc ≤ 59) (hb0 : 0 ≤ v.boot) (hb1 : v.boot ≤ 1000)
    (hp : ∀ k, w.cell? ⟨g.bp, k, none⟩ = (gpCells g)[k]?) (hn : NdAt w bn bw N) :
    Calls Tryz.prog 58 #[pP g.bp, vVal v A c, nP bn] w fun e w' => e = .returned (.int .i64 (ndRefuses N v g.cl g.inc)) ∧ Below w.heap.size w w' := by
  have hz := hn.lt (by omega)
  have hl3 := hv.l2
  have hl4 : N.words.length ≤ 4096 := by omega
  have hpz : g.bp < w.heap.size := World.block_lt_of_cell? w ⟨g.bp, 0, none⟩ (hp 0)
  -- the world behind the box
  obtain ⟨W, hW⟩ : ∃ W, W = w.alloc (.cells (vCells v A c) 113) := ⟨_, rfl⟩
  have hst : St w.heap.size w W [(w.heap.size, .cells (vCells v A c) 113 (0, 0))] := by rw [hW]; exact (St.start w).alloc _
  have hnW : NdAt W bn bw N := hn.later hz hst.below
  cases hd : N.down with
  | true =>
    have hu := Up_calls bn bw N hnW
    rw [hd] at hu
    have HU := Lib.hid hu
    have HW := Lib.hid hW
    have HB := Lib.hid hst.below
    have HD := Lib.hid hd
    clear hu hst hnW hn hp hW hd
    go_enter Tryz.func58, Tryz.ntmps58
    go_wp2_with fail
    rw [← HW.out]
    refine HU.out.mono ?_
    rintro e w1 ⟨rfl, rfl⟩
    go_wp2
    go_ret
    exact ⟨ret_int (by unfold ndRefuses; rw [HD.out]; rfl), HB.out⟩
  | false =>
    have hu := Up_calls bn bw N hnW
    rw [hd] at hu
    have HU := Lib.hid hu
    have HW := Lib.hid hW
    have HB := Lib.hid hst.below
    have HD := Lib.hid hd
    have hzW : bn < W.heap.size ∧ bw < W.heap.size := hnW.lt (by omega)
    have ht : (N.words.length : Int) / 8 = lines := by omega
    have hpW : ∀ k, W.cell? ⟨g.bp, k, none⟩ = (gpCells g)[k]? := fun k => by rw [hst.below.cell (p := ⟨g.bp, k, none⟩) hpz]; exact hp k
    have hpzW : g.bp < W.heap.size := Nat.lt_of_lt_of_le hpz hst.below.size
    -- the callees, in every later world
    have qL := regrown (W := W) (fun w' hb => same_below (Lines_calls bn bw N hl4 (hnW.later hzW hb)))
    rw [ht] at qL
    have qV := regrown (W := W) (fun w' hb => Valid_calls w' v A c 5 lines hv)
    have hcW : ∀ d os k, (grow (redrawn W d) os).cell? ⟨w.heap.size, k, none⟩ = (vCells v A c)[k]? := fun d os k => (hst.grow (below_regrown W d os)).cells List.mem_cons_self k
    have q2 : ∀ w2, Below W.heap.size W w2 → NdAt w2 bn bw N := fun w2 hb => hnW.later hzW hb
    have q3 : ∀ w2, Below W.heap.size W w2 → ∀ k, w2.cell? ⟨g.bp, k, none⟩ = (gpCells g)[k]? := fun w2 hb k => by rw [hb.cell (p := ⟨g.bp, k, none⟩) hpzW]; exact hpW k
    have q4 : ∀ w2, Below W.heap.size W w2 → ∀ k, w2.cell? ⟨w.heap.size, k, none⟩ = (vCells v A c)[k]? := fun w2 hb k => (hst.grow hb).cells List.mem_cons_self k
    have hzz : w.heap.size < W.heap.size := by rw [hW]; simp
    have Q2 := Lib.hid q2
    have Q3 := Lib.hid q3
    have Q4 := Lib.hid q4
    clear q2 q3 q4 hu hst hnW hn hp hW hd ht hpW
    go_enter Tryz.func58, Tryz.ntmps58
    go_wp2_with fail
    rw [← HW.out]
    refine HU.out.mono ?_
    rintro e w1 ⟨rfl, rfl⟩
    go_wp2_with fail
    refine wp_region_quiet_below (by kernel_rfl) (by kernel_rfl) ?_
    repeat (quiet_step (first | exact qL _ _ | exact qV _ _))
    refine wpQuiet_nil ?_
    intro w2 hw2
    have hb2 := quiet_out hw2
    clear hw2 qL qV hcW
    have hn2 := Q2.out w2 hb2
    have hp2 := Q3.out w2 hb2
    have hx : N.words[(24 + g.cl).toNat]? = some (N.words.getD (24 + g.cl).toNat 0) := get_getD N.words _ (by omega)
    have hwd := word_calls bn bw N hl4 HD.out (24 + g.cl) _ (by omega) (by omega) hx hn2
    have HX := Lib.hid hx
    have HWD := Lib.hid hwd
    clear hn2 hx hwd
    have hcc : g.cl + 24 ≤ 1000 := by omega
    go_wp2_with fail
    refine HWD.out.mono ?_
    rintro e w3 ⟨rfl, hb3⟩
    have hb23 : Below w1.heap.size w1 w3 := hb2.trans (hb3.mono hb2.size)
    have HB3 := Lib.hid hb23
    have hn3 := Q2.out w3 hb23
    have hp3 := Q3.out w3 hb23
    have hc3 := Q4.out w3 hb23
    have hz3 := hn3.lt (show 0 < N.words.length by omega)
    have g3 : g.bp < w3.heap.size := Nat.lt_of_lt_of_le hpzW hb23.size
    have b3 : w.heap.size < w3.heap.size := Nat.lt_of_lt_of_le hzz hb23.size
    have x0 : N.words[(0 : Int).toNat]? = some (N.words.getD 0 0) := get_getD N.words 0 (by omega)
    have x1 : N.words[(1 : Int).toNat]? = some (N.words.getD 1 0) := get_getD N.words 1 (by omega)
    have q0 := regrown (W := w3) (fun w' hb => word_calls bn bw N hl4 HD.out 0 _ (by omega) (by omega) x0 (hn3.later hz3 hb))
    have q1 := regrown (W := w3) (fun w' hb => word_calls bn bw N hl4 HD.out 1 _ (by omega) (by omega) x1 (hn3.later hz3 hb))
    have qC := regrown (W := w3) (fun w' hb => Check_calls w' v A c g.inc (N.words.getD (24 + g.cl).toNat 0) (N.words.getD 0 0) (N.words.getD 1 0) hv.at0 (by have := hv.fits; have := hv.c0; omega) hi0 hi1 hb0 hb1)
    have hcQ : ∀ d os k, (grow (redrawn w3 d) os).cell? ⟨w.heap.size, k, none⟩ = (vCells v A c)[k]? := fun d os k => by rw [(below_regrown w3 d os).cell (p := ⟨w.heap.size, k, none⟩) b3]; exact hc3 k
    have hpQ : ∀ d os k, (grow (redrawn w3 d) os).cell? ⟨g.bp, k, none⟩ = (gpCells g)[k]? := fun d os k => by rw [(below_regrown w3 d os).cell (p := ⟨g.bp, k, none⟩) g3]; exact hp3 k
    clear hn3 hp3 hc3 x0 x1 hb23 hb2 hb3 hp2
    go_wp2_with fail
    refine wp_region_quiet_below (by kernel_rfl) (by kernel_rfl) ?_
    repeat (quiet_step (first | (go_at_call_of 80 (Value.int IntKind.i64 0); exact q0 _ _) | (go_at_call_of 80 (Value.int IntKind.i64 1); exact q1 _ _) | (go_at_call 81; exact qC _ _)))
    refine wpQuiet_nil ?_
    intro w4 hw4
    have hb4 := quiet_out hw4
    clear hw4 q0 q1 qC hcQ hpQ
    go_wp2
    go_ret
    refine ⟨ret_int (by unfold ndRefuses; rw [HD.out]; rfl), ?_⟩
    exact HB.out.trans ((HB3.out.mono HB.out.size).trans (hb4.mono (Nat.le_of_lt (by omega))))

end Go.Proofs.YtaojipegpjolcaaGreat
set_option linter.unusedVariables false
namespace Go.Proofs.YtaojipegpjolcaaGreat
open Go.RowKit Go.Sort Go.Proofs.BodegaHeap
variable {base : Nat} {w0 w : World} {L : List Blk}

theorem gvC_len (g : GV) : (gvC g).length = 9 := rfl
theorem gvC_one (gs : List GV) : ∀ u ∈ gs.flatMap gvC, u.oneCell' = true := by
  intro u hu
  obtain ⟨g, _, hu⟩ := List.mem_flatMap.1 hu
  simp only [gvC, List.mem_cons, List.not_mem_nil, or_false] at hu
  rcases hu with rfl | rfl | rfl | rfl | rfl | rfl | rfl | rfl | rfl <;> rfl

set_option maxHeartbeats 800000 in
theorem complete_calls (g : GP) (x : GV) (rest : List GV) (hg : g.gs = x :: rest) (hn : g.gs.length ≤ 2000) (hr : RowOk g.rv 9 g.gs.length (g.gs.flatMap gvC))
    (h : St base w0 w ((g.bp, .cells (gpCells g) 111 (0, 0)) :: (rowH g.rv 113 (g.gs.flatMap gvC) ++ L))) (R : Ending → World → Prop)
    (hR : ∀ rv' w', RowOk rv' 9 rest.length (rest.flatMap gvC) → St base w0 w' ((g.bp, .cells (gpCells { g with rv := rv', gs := rest, ex := 0, rw_ := nilRw, ws := [] }) 111 (0, 0)) :: (rowH rv' 113 (rest.flatMap gvC) ++ L)) → R (.returned (.tuple #[])) w') :
    Calls Tryz.prog 59 #[pP g.bp] w R := by
  obtain ⟨b, hb⟩ := hr.pos (by rw [hg]; simp)
  have hc : ∀ k, w.cell? ⟨g.bp, k, none⟩ = (gpCells g)[k]? := fun k => h.cells (cs := gpCells g) (t := 111) (fr := (0, 0)) List.mem_cons_self k
  have hf : ∀ k, w.frozen? ⟨g.bp, k, none⟩ = false := fun k => h.frozen (cs := gpCells g) (t := 111) List.mem_cons_self k
  have hlen := hr.len
  have hs : ∀ j u, (rest.flatMap gvC)[j]? = some u → w.cell? ⟨b, 9 + j, none⟩ = some u := by
    intro j u hj
    have hl : 9 + j < (g.gs.flatMap gvC).length := by
      rw [hg, List.flatMap_cons, List.length_append, gvC_len]
      have := (List.getElem?_eq_some_iff.1 hj).1
      omega
    rw [h.row_cell (t := 113) hb (fun p hp => List.mem_cons_of_mem _ (List.mem_append_left _ hp)) (9 + j) hl, hg, List.flatMap_cons,
      List.getElem?_append_right (by rw [gvC_len]; omega), gvC_len, Nat.add_sub_cancel_left]
    exact hj
  have hrv : rowV g.rv g.gs.length = .slice (some ⟨b, 0, none⟩) (rest.length + 1) (rest.length + 1 + g.rv.k) := by simp [rowV, rowA, hb, hg]
  have hlr : (rest.flatMap gvC).length = rest.length * 9 := by rw [flat_length gvC 9 gvC_len]; omega
  have hnr : rest.length ≤ 2000 := by rw [hg] at hn; simp at hn; omega
  have hk := hr.le
  unfold maxLen at hk
  have hkk : rest.length + 1 + g.rv.k ≤ 9223372036854775807 := by rw [hg] at hk; simp at hk; omega
  have hcl : ∀ k, w.cell? ⟨g.bp, k, none⟩ = #[.int .i64 g.cl, .int .i64 g.inc, .int .i64 g.nd, .slice (some ⟨b, 0, none⟩) (rest.length + 1) (rest.length + 1 + g.rv.k), .int .i64 g.ex, rowV g.rw_ g.ws.length][k]? := by
    intro k; rw [hc k]; unfold gpCells; rw [hrv]
  have H := Lib.hid h
  have HS := Lib.hid hs
  have HG := Lib.hid hg
  have HL := Lib.hid hlr
  have hC := fun (ad : Addr) (c : Nat) (hc : rest.length ≤ c) (hx : ∀ j u, (rest.flatMap gvC)[j]? = some u → w.cell? (ad.add j) = some u) (R : Ending → World → Prop) =>
    CloneVb_calls (w := w) ad rest.length c (rest.flatMap gvC) hlr hc (by omega) (gvC_one _) hx h R
  have HC := Lib.hid hC
  clear h hs hg hc hrv hr hb hlen hlr hn hk hC
  have fin : ∀ r w2, RowOk r 9 rest.length (rest.flatMap gvC) → St base w0 w2 (rowH r 113 (rest.flatMap gvC) ++ (g.bp, .cells (gpCells g) 111 (0, 0)) :: (rowH g.rv 113 (g.gs.flatMap gvC) ++ L)) →
      (∀ k, w2.frozen? ⟨g.bp, k, none⟩ = false) ∧ (∀ k, w2.cell? ⟨g.bp, k, none⟩ = (gpCells g)[k]?) ∧
      R (.returned (.tuple #[])) (((w2.setCell ⟨g.bp, 3, none⟩ (rowV r rest.length)).setCell ⟨g.bp, 4, none⟩ (.int .i64 0)).setCell ⟨g.bp, 5, none⟩ (.slice none 0 0)) := by
    intro r w2 h1 h2
    have h3 : St base w0 w2 ((g.bp, .cells (gpCells g) 111 (0, 0)) :: (rowH r 113 (rest.flatMap gvC) ++ L)) :=
      (h2.ac (M := rowH g.rv 113 (g.gs.flatMap gvC) ++ ((g.bp, .cells (gpCells g) 111 (0, 0)) :: (rowH r 113 (rest.flatMap gvC) ++ L))) (fun x => by simp only [cnt_append, cnt_cons]; omega)).drop
    refine ⟨fun k => h3.frozen (cs := gpCells g) (t := 111) List.mem_cons_self k, fun k => h3.cells (cs := gpCells g) (t := 111) (fr := (0, 0)) List.mem_cons_self k, hR r _ h1 ?_⟩
    exact ((h3.set 3 (rowV r rest.length)).set 4 (.int .i64 0)).set 5 (.slice none 0 0)
  have FIN := Lib.hid fin
  clear fin hR
  by_cases hcap : rest.length + 1 + g.rv.k = 1
  · have hnil : rest = [] := List.eq_nil_of_length_eq_zero (by omega)
    have HN := Lib.hid hnil
    clear hnil
    go_enter Tryz.func59, Tryz.ntmps59
    go_wp2_with fail
    refine HC.out _ _ (by omega) (by rw [HN.out]; intro j u hj; simp at hj) _ ?_
    intro r w2 h1 h2
    obtain ⟨f2, c2, hf2⟩ := FIN.out r w2 h1 h2
    have HF := Lib.hid hf2
    clear h1 h2 hf2 H HS HC hf hcl FIN
    go_wp2
    go_end0
    exact HF.out
  · go_enter Tryz.func59, Tryz.ntmps59
    go_wp2_with fail
    refine HC.out _ _ (by omega) (by intro j u hj; have := HS.out j u hj; unfold Addr.add; split <;> simp_all) _ ?_
    intro r w2 h1 h2
    obtain ⟨f2, c2, hf2⟩ := FIN.out r w2 h1 h2
    have HF := Lib.hid hf2
    clear h1 h2 hf2 H HS HC hf hcl FIN
    go_wp2
    go_end0
    exact HF.out

set_option maxHeartbeats 400000 in
theorem Clone64Nil_calls (n c : Nat) : Calls Tryz.prog 63 #[.slice none n c] w fun e w' => e = .returned (.slice none 0 0) ∧ w' = w := by
  have q := eqnil64
  go_enter Tryz.func63, Tryz.ntmps63
  go_wp2
  go_ret
  exact ⟨rfl, rfl⟩

/-- A clone of a verb's words. -/
theorem cloneW (g : GV) (hg : GvOk g) (hw : g.1.words.length ≤ 2000) (h : St base w0 w L) (hm : ∀ p, p ∈ gvH g → p ∈ L) (R : Ending → World → Prop)
    (hR : ∀ r w', GvOk (g.1, r) → St base w0 w' (gvH (g.1, r) ++ L) → R (.returned (.slice (rowA r) g.1.words.length (g.1.words.length + r.k))) w') :
    Calls Tryz.prog 63 #[.slice (rowA g.2) g.1.words.length (g.1.words.length + g.2.k)] w R := by
  cases hb : g.2.blk with
  | none =>
    obtain ⟨h1, h2, h3⟩ := hg.nil hb
    have : rowA g.2 = none := by simp [rowA, hb]
    rw [this]
    refine (Clone64Nil_calls _ _).mono ?_
    rintro e w' ⟨rfl, rfl⟩
    have e0 : g.1.words = [] := List.eq_nil_of_length_eq_zero h1
    have := hR nilRw w' (by simpa [GvOk, e0] using nilRw_ok 1) (by simpa [gvH, rowH, nilRw] using h)
    simpa [rowA, nilRw, e0] using this
  | some b =>
    have hx : ∀ j u, (u64s g.1.words)[j]? = some u → w.cell? ((⟨b, 0, none⟩ : Addr).add j) = some u := by
      intro j u hj
      have e : ((⟨b, 0, none⟩ : Addr).add j) = ⟨b, j, none⟩ := by unfold Addr.add; split <;> simp_all
      rw [e, h.row_cell hb hm j (List.getElem?_eq_some_iff.1 hj).1]
      exact hj
    have : rowA g.2 = some ⟨b, 0, none⟩ := by simp [rowA, hb]
    rw [this]
    exact Clone64_calls ⟨b, 0, none⟩ _ _ (u64s g.1.words) (by simp) (by omega) (by omega) (u64s_one _) hx h R (fun r w' h1 h2 => hR r w' h1 h2)

set_option maxHeartbeats 800000 in
theorem clone_calls (g : GV) (hg : GvOk g) (hw : g.1.words.length ≤ 2000) (h : St base w0 w L) (hm : ∀ p, p ∈ gvH g → p ∈ L) (R : Ending → World → Prop)
    (hR : ∀ r w', GvOk (g.1, r) → St base w0 w' (gvH (g.1, r) ++ L) → R (.returned (vVal g.1 (rowA r) (g.1.words.length + r.k))) w') :
    Calls Tryz.prog 96 #[vVal g.1 (rowA g.2) (g.1.words.length + g.2.k)] w R := by
  obtain ⟨z, hz⟩ : ∃ z : Array Value, z = #[.int .i64 0, .int .i64 0, .int .i64 0, .int .i64 0, .int .u64 0, .int .u64 0, .slice none 0 0, .int .u64 0, .int .i64 0] := ⟨_, rfl⟩
  have h2 : St base w0 ((w.alloc (.cells (vCells g.1 (rowA g.2) (g.1.words.length + g.2.k)) 113)).alloc (.cells z 113))
      ((w.heap.size + 1, .cells z 113 (0, 0)) :: (w.heap.size, .cells (vCells g.1 (rowA g.2) (g.1.words.length + g.2.k)) 113 (0, 0)) :: L) :=
    (h.alloc _).allocAt _ (by simp) _
  have hC := cloneW g hg hw h2 (fun p hp => List.mem_cons_of_mem _ (List.mem_cons_of_mem _ (hm p hp)))
  rw [hz] at hC
  have HC := Lib.hid hC
  clear h h2 hC hz hg hm
  go_enter Tryz.func96, Tryz.ntmps96
  go_wp2_with fail
  refine HC.out _ ?_
  intro r w2 h1 h2
  have h3 := h2.ac (M := (w.heap.size + 1, .cells #[.int .i64 0, .int .i64 0, .int .i64 0, .int .i64 0, .int .u64 0, .int .u64 0, .slice none 0 0, .int .u64 0, .int .i64 0] 113 (0, 0)) :: (w.heap.size, .cells (vCells g.1 (rowA g.2) (g.1.words.length + g.2.k)) 113 (0, 0)) :: (gvH (g.1, r) ++ L)) (fun x => by simp only [cnt_append, cnt_cons]; omega)
  have c1 := fun k => h3.cells List.mem_cons_self k
  have c2 := fun k => h3.cells (List.mem_cons_of_mem _ List.mem_cons_self) k
  have f1 := fun k => h3.frozen List.mem_cons_self k
  have f2 := fun k => h3.frozen (List.mem_cons_of_mem _ List.mem_cons_self) k
  have n1 := h3.notin
  have n2 := h3.tail.notin
  have hL := h3.tail.tail
  have N1 := Lib.hid n1
  have N2 := Lib.hid n2
  have HL := Lib.hid hL
  have H1 := Lib.hid h1
  have HR := Lib.hid (hR r)
  clear h1 h2 h3 HC hR n1 n2 hL
  go_wp2
  refine bodyPost_ret (v := vVal g.1 (rowA r) (g.1.words.length + r.k)) (by simp [results, Tryz.results96, go_sem, c1]) rfl ?_
  obtain ⟨n1, b1⟩ := N1.out
  obtain ⟨n2, b2⟩ := N2.out
  refine HR.out _ H1.out ?_
  replace n1 := fun hk => n1 (List.mem_cons_of_mem _ hk)
  iterate 9 refine St.setOut ?_ n1 b1 _ _
  refine St.setOut ?_ n2 b2 _ _
  exact HL.out

end Go.Proofs.YtaojipegpjolcaaGreat
set_option linter.unusedVariables false
namespace Go.Proofs.YtaojipegpjolcaaGreat
open Go.RowKit Go.Sort Go.Proofs.BodegaHeap
variable {base : Nat} {w0 w : World} {L : List Blk}

/-- What a piece (pn words from pa on) of a verb does to a node, and the words that it returns. -/
def ndExec (N : Nd) (v : Vb) (pa pn : Int) : Nd × List Int :=
  if v.kind = 1 then (N, (N.words.drop pa.toNat).take pn.toNat)
  else if v.kind = 2 then ({ N with words := wOver N.words pa.toNat ((v.words.drop (pa - v.at_).toNat).take pn.toNat) }, [])
  else (if N.words.getD v.at_.toNat 0 = v.old then { N with words := N.words.set v.at_.toNat v.new } else N, [N.words.getD v.at_.toNat 0])

abbrev pcVal (pa pn : Int) : Value := .agg #[.int .i64 pa, .int .i64 pn]

set_option maxHeartbeats 800000 in
theorem execute1 (g : GV) (hk : g.1.kind = 1) (pa pn : Int) (bn bw : Nat) (N : Nd) (hl : N.words.length ≤ 4096) (hd : N.down = false) (h0 : 0 ≤ pa) (h1 : 1 ≤ pn) (h2 : pa + pn ≤ N.words.length)
    (h : St base w0 w (ndH bn bw N ++ L)) (R : Ending → World → Prop)
    (hR : ∀ r w', RowOk r 1 (ndExec N g.1 pa pn).2.length (u64s (ndExec N g.1 pa pn).2) → St base w0 w' (rowH r 22 (u64s (ndExec N g.1 pa pn).2) ++ (ndH bn bw (ndExec N g.1 pa pn).1 ++ L)) → R (.returned (rowV r (ndExec N g.1 pa pn).2.length)) w') :
    Calls Tryz.prog 61 #[vVal g.1 (rowA g.2) (g.1.words.length + g.2.k), pcVal pa pn, nP bn] w R := by
  have e : ndExec N g.1 pa pn = (N, (N.words.drop pa.toNat).take pn.toNat) := by unfold ndExec; rw [if_pos hk]
  rw [e] at hR
  have el : ((N.words.drop pa.toNat).take pn.toNat).length = pn.toNat := by simp; omega
  simp only [el] at hR
  have hs : St base w0 ((w.alloc (.cells (vCells g.1 (rowA g.2) (g.1.words.length + g.2.k)) 113)).alloc (.cells #[.int .i64 pa, .int .i64 pn] 119)) (ndH bn bw N ++ L) := (h.junk _).junk _
  have hC := fun R => Read_calls bn bw N hl hd pa pn h0 h1 h2 (NdAt.of hs) hs R
  have HC := Lib.hid hC
  have hk1 : (g.1.kind == 1) = true := by simp [hk]
  clear hC hs h e el hk
  go_enter Tryz.func61, Tryz.ntmps61
  go_wp2_with fail
  refine HC.out _ ?_
  intro r w1 h3 h4
  clear HC
  go_wp2
  exact hR _ _ h3 h4

set_option maxHeartbeats 800000 in
theorem execute3 (g : GV) (hk : g.1.kind = 3) (pa pn : Int) (bn bw : Nat) (N : Nd) (hl : N.words.length ≤ 4096) (hd : N.down = false) (h0 : 0 ≤ g.1.at_) (h2 : g.1.at_ < N.words.length)
    (h : St base w0 w (ndH bn bw N ++ L)) (R : Ending → World → Prop)
    (hR : ∀ r w', RowOk r 1 (ndExec N g.1 pa pn).2.length (u64s (ndExec N g.1 pa pn).2) → St base w0 w' (rowH r 22 (u64s (ndExec N g.1 pa pn).2) ++ (ndH bn bw (ndExec N g.1 pa pn).1 ++ L)) → R (.returned (rowV r (ndExec N g.1 pa pn).2.length)) w') :
    Calls Tryz.prog 61 #[vVal g.1 (rowA g.2) (g.1.words.length + g.2.k), pcVal pa pn, nP bn] w R := by
  obtain ⟨was, hwas⟩ : ∃ x, N.words.getD g.1.at_.toNat 0 = x := ⟨_, rfl⟩
  have hget := get_getD N.words g.1.at_.toNat (by omega)
  rw [hwas] at hget
  have e : ndExec N g.1 pa pn = (if was = g.1.old then { N with words := N.words.set g.1.at_.toNat g.1.new } else N, [was]) := by
    unfold ndExec; rw [if_neg (by rw [hk]; decide), if_neg (by rw [hk]; decide), hwas]
  rw [e] at hR
  have hs : St base w0 ((w.alloc (.cells (vCells g.1 (rowA g.2) (g.1.words.length + g.2.k)) 113)).alloc (.cells #[.int .i64 pa, .int .i64 pn] 119)) (ndH bn bw N ++ L) := (h.junk _).junk _
  have hC := fun R => Cas_calls bn bw N hl hd g.1.at_ g.1.old g.1.new was h0 h2 hget hs R
  have HC := Lib.hid hC
  have hk1 : (g.1.kind == 1) = false := by simp [hk]
  have hk2 : (g.1.kind == 2) = false := by simp [hk]
  have hk3 : (g.1.kind == 3) = true := by simp [hk]
  have HR := Lib.hid hR
  clear hC hs h e hk hR hwas hget
  go_enter Tryz.func61, Tryz.ntmps61
  go_wp2_with fail
  refine HC.out _ ?_
  intro w1 h4
  have H4 := Lib.hid h4
  clear HC h4
  go_wp2
  refine HR.out ⟨some w1.heap.size, 0, []⟩ _ ⟨by simp, fun e => by simp at e, by simp, by simp [maxLen]⟩ ?_
  exact H4.out.alloc _

set_option maxRecDepth 100000 in
set_option maxHeartbeats 800000 in
theorem execute2 (g : GV) (hg : GvOk g) (hwl : g.1.words.length ≤ 4096) (hk : g.1.kind = 2) (pa pn : Int) (bn bw : Nat) (N : Nd) (hl : N.words.length ≤ 4096) (hd : N.down = false) (h0 : 0 ≤ g.1.at_) (h01 : g.1.at_ ≤ pa) (h1 : 1 ≤ pn) (h2 : pa + pn ≤ N.words.length)
    (h3 : pa - g.1.at_ + pn ≤ g.1.words.length) (h : St base w0 w (ndH bn bw N ++ L)) (hm : ∀ p, p ∈ gvH g → p ∈ L) (R : Ending → World → Prop)
    (hR : ∀ r w', RowOk r 1 (ndExec N g.1 pa pn).2.length (u64s (ndExec N g.1 pa pn).2) → St base w0 w' (rowH r 22 (u64s (ndExec N g.1 pa pn).2) ++ (ndH bn bw (ndExec N g.1 pa pn).1 ++ L)) → R (.returned (rowV r (ndExec N g.1 pa pn).2.length)) w') :
    Calls Tryz.prog 61 #[vVal g.1 (rowA g.2) (g.1.words.length + g.2.k), pcVal pa pn, nP bn] w R := by
  have e : ndExec N g.1 pa pn = ({ N with words := wOver N.words pa.toNat ((g.1.words.drop (pa - g.1.at_).toNat).take pn.toNat) }, []) := by
    unfold ndExec; rw [if_neg (by rw [hk]; decide), if_pos hk]
  rw [e] at hR
  obtain ⟨b, hb⟩ := hg.pos (by omega)
  have hra : rowA g.2 = some ⟨b, 0, none⟩ := by simp [rowA, hb]
  rw [hra]
  obtain ⟨fr, hfr⟩ : ∃ fr : Nat, pa = g.1.at_ + fr := ⟨(pa - g.1.at_).toNat, by omega⟩
  obtain ⟨m, rfl⟩ := Int.eq_ofNat_of_zero_le (show 0 ≤ pn by omega)
  have efr : (pa - g.1.at_).toNat = fr := by omega
  simp only [efr, Int.toNat_natCast] at hR
  obtain ⟨W, hW⟩ : ∃ W, W = ((w.alloc (.cells (vCells g.1 (some ⟨b, 0, none⟩) (g.1.words.length + g.2.k)) 113)).alloc (.cells #[.int .i64 pa, .int .i64 m] 119)).drew := ⟨_, rfl⟩
  have hs : St base w0 W (ndH bn bw N ++ L) := by rw [hW]; exact ((h.junk _).junk _).drew
  have hs2 : St base w0 W ((w.heap.size + 1, .cells #[.int .i64 pa, .int .i64 m] 119 (0, 0)) :: (w.heap.size, .cells (vCells g.1 (some ⟨b, 0, none⟩) (g.1.words.length + g.2.k)) 113 (0, 0)) :: (ndH bn bw N ++ L)) := by
    rw [hW]; exact ((h.alloc _).allocAt _ (by simp) _).drew
  have cp := fun k => hs2.cells List.mem_cons_self k
  have cv := fun k => hs2.cells (List.mem_cons_of_mem _ List.mem_cons_self) k
  have HW := Lib.hid hW
  have hsrc : ∀ W, St base w0 W (ndH bn bw N ++ L) → ∀ j u, (u64s ((g.1.words.drop fr).take m))[j]? = some u → W.cell? ((⟨b, fr, none⟩ : Addr).add j) = some u := by
    intro W hW j u hj
    have ea : ((⟨b, fr, none⟩ : Addr).add j) = ⟨b, fr + j, none⟩ := by unfold Addr.add; split <;> simp_all
    have hj2 : (u64s g.1.words)[fr + j]? = some u := by
      simp only [u64s, List.getElem?_map, Option.map_eq_some_iff] at hj ⊢
      obtain ⟨x, hx, rfl⟩ := hj
      rw [List.getElem?_take] at hx
      split at hx
      · exact ⟨x, by simpa using hx, rfl⟩
      · cases hx
    rw [ea, hW.row_cell (r := g.2) (t := 22) (cs := u64s g.1.words) hb (fun p hp => List.mem_append_right _ (hm p hp)) (fr + j) (List.getElem?_eq_some_iff.1 hj2).1]
    exact hj2
  have elen : ((g.1.words.drop fr).take m).length = m := by simp; omega
  have hC := fun (c : Nat) (hc : m ≤ c) R => Write_calls (L := L) bn bw N hl hd pa (by omega) ⟨b, fr, none⟩ c ((g.1.words.drop fr).take m) (by omega) (hsrc _ hs) (by omega) (by omega) hs R
  rw [elen] at hC
  have HC := Lib.hid hC
  have hk1 : (g.1.kind == 1) = false := by simp [hk]
  have hk2 : (g.1.kind == 2) = true := by simp [hk]
  have HR := Lib.hid hR
  have hsub : IntKind.i64.wrap (pa - g.1.at_) = (fr : Int) := by rw [wrap_in (by omega) (by omega)]; omega
  have hsub2 : pa - g.1.at_ = (fr : Int) := by omega
  obtain ⟨s, hs1⟩ : ∃ s, s = fr + m := ⟨_, rfl⟩
  have hadd : IntKind.i64.wrap ((fr : Int) + (m : Int)) = (s : Int) := by rw [wrap_in (by omega) (by omega)]; omega
  have hadd2 : (fr : Int) + (m : Int) = (s : Int) := by omega
  have hadd3 : IntKind.i64.wrap (s : Int) = (s : Int) := wrap_in (by omega) (by omega)
  have hle : s ≤ g.1.words.length + g.2.k := by omega
  have hle3 : fr ≤ s := by omega
  have hle4 : s - fr = m := by omega
  have hne : ¬ g.1.words.length + g.2.k = fr := by omega
  have hleI : (s : Int) ≤ (g.1.words.length : Int) + (g.2.k : Int) := by omega
  have hle2 := hwl
  have hp0 : 0 ≤ pa := by omega
  have HFR := Lib.hid hfr
  clear hs1 hC hs hs2 hW h e hk hR hsrc elen hg hb hm hra hfr efr hsub2
  go_enter Tryz.func61, Tryz.ntmps61
  go_wp2_with fail
  refine wp_still_tail 11 (by kernel_rfl) (by kernel_rfl) ?_
  rw [← HW.out]
  simp only [List.take_succ_cons, List.take_zero, List.drop_succ_cons, List.drop_zero]
  repeat still_step
  refine wpStill_nil ?_
  clear cp cv hadd hadd2 hadd3 hne hleI
  go_wp2_with fail
  refine HC.out _ (by omega) _ ?_
  intro w1 h4
  have H4 := Lib.hid h4
  clear HC h4
  go_wp2
  exact HR.out nilRw _ (nilRw_ok 1) H4.out

end Go.Proofs.YtaojipegpjolcaaGreat
set_option linter.unusedVariables false
namespace Go.Proofs.YtaojipegpjolcaaGreat
open Go.RowKit Go.Sort Go.Shelf Go.Proofs.BodegaHeap
attribute [local go_sem] Oper.semAt_some

/-- The pieces of 'left' words from 'at_' on. -/
def pcs : Nat → Int → Int → List (Int × Int)
  | 0, _, _ => []
  | f + 1, at_, left => if 0 < left then (at_, min left (8 - at_ % 8)) :: pcs f (at_ + min left (8 - at_ % 8)) (left - min left (8 - at_ % 8)) else []
theorem pcs_more (f : Nat) : ∀ (at_ left : Int) (g : Nat), left.toNat ≤ f → left.toNat ≤ g → pcs f at_ left = pcs g at_ left := by
  induction f with
  | zero =>
    intro at_ left g h1 h2
    cases g with
    | zero => rfl
    | succ g => unfold pcs; rw [if_neg (by omega)]
  | succ f ih =>
    intro at_ left g h1 h2
    cases g with
    | zero => unfold pcs; rw [if_neg (by omega)]
    | succ g =>
      unfold pcs
      split
      · rw [ih _ _ g (by omega) (by omega)]
      · rfl
theorem pcs_step (f : Nat) (a left : Int) (h : 0 < left) (hf : left.toNat ≤ f) : pcs f a left = (a, min left (8 - a % 8)) :: pcs f (a + min left (8 - a % 8)) (left - min left (8 - a % 8)) := by
  cases f with
  | zero => omega
  | succ f =>
    rw [pcs_more (f + 1) (a + min left (8 - a % 8)) (left - min left (8 - a % 8)) f (by omega) (by omega)]
    conv => lhs; unfold pcs
    rw [if_pos h]
theorem pcs_end (f : Nat) (a left : Int) (h : ¬ 0 < left) : pcs f a left = [] := by
  cases f with
  | zero => rfl
  | succ f => unfold pcs; rw [if_neg h]
theorem pcs_len (f : Nat) : ∀ a left : Int, (pcs f a left).length ≤ f := by
  induction f with
  | zero => intro a left; simp [pcs]
  | succ f ih =>
    intro a left
    unfold pcs
    split
    · simp only [List.length_cons]; have := ih (a + min left (8 - a % 8)) (left - min left (8 - a % 8)); omega
    · simp
abbrev pcCells (x : Int × Int) : List Value := [.int .i64 x.1, .int .i64 x.2]
def vPieces (v : Vb) : List (Int × Int) := pcs 2000 v.at_ (vCount v)

set_option maxRecDepth 100000 in
set_option maxHeartbeats 2000000 in
theorem pieces1_in (n : Nat) (hn : 2 ≤ n) (l Bn n0 : Nat) (v : Vb) (A : Option Addr) (c : Nat) (hv : VSmall v) (J Jx : List (Int × Int) → World → Prop) (W : World) (hJ : AbidesFrom W.heap.size J)
    (hY : ∀ pre x W, J pre W → pre.length < (vPieces v).length → YieldAt Fence.wide (n - 1) Tryz.prog l #[.agg #[.int .i64 x.1, .int .i64 x.2]] W fun e W' =>
      (e = .returned (.bool true) ∧ J (pre ++ [x]) W' ∧ Below n0 W W') ∨ (e = .returned (.bool false) ∧ Jx (pre ++ [x]) W'))
    (hB : ∀ k, W.cell? ⟨Bn, k, none⟩ = (vCells v A c)[k]?) (hBn : Bn < W.heap.size) (h0 : J [] W) :
    CallsIn Fence.wide n Tryz.prog 98 #[.func (.yield l) #[] #[], .pointer (some ⟨Bn, 0, none⟩)] W fun e W' => (∃ v, e = .returned v) ∧
      ((∃ ys, ys = vPieces v ∧ J ys W') ∨ (∃ pre, pre <+: vPieces v ∧ Jx pre W')) := by
  obtain ⟨v0, v1, v2, v3⟩ := hv
  refine callsIn_of_wp Tryz.func98 rfl trivial ?_ rfl
  simp only [Tryz.ntmps98, List.size_toArray, List.length_cons, List.length_nil, Nat.reduceAdd, Nat.reduceSub, Array.replicate_succ, Array.replicate_zero, List.push_toArray, List.append_toArray, List.nil_append, List.cons_append]
  have hQ : ∀ d os, CallsIn Fence.wide (n - 1) Tryz.prog 92 #[vVal v A c] (grow (redrawn W d) os) fun e w'' => e = .returned (.int .i64 (vCount v)) ∧ ∃ p : Regrown, w'' = grow (redrawn W p.d) p.os := fun d os => CallsIn.regrown_of (callsIn_wide.2 (Count_calls _ v A c))
  have hc : ∀ d os k, (grow (redrawn W d) os).cell? ⟨Bn, k, none⟩ = (vCells v A c)[k]? := fun d os k => by rw [(below_regrown W d os).cell (p := ⟨Bn, k, none⟩) hBn]; exact hB k
  have hd : Fence.wide.depth.isSome = true → 1 ≤ n := fun h => by simp [Fence.wide] at h
  have hw : ∀ f, Fence.wide.fn f := fun _ => trivial
  gi_wp2
  refine wpIn_region_quiet_below rfl (by kernel_rfl) (by kernel_rfl) ?_
  repeat (quiet_step_in (first | exact ⟨hd, hQ _ _⟩ | exact hQ _ _))
  refine wpQuietIn_nil ?_
  intro w1 hw1
  have hb := quiet_out hw1
  have hg : W.grownBy w1 none := ⟨hb.os, hb.tape, hb.output, hb.size, fun k hk _ => hb.block k hk⟩
  have h1 : J [] w1 := hJ [] W w1 none h0 hg (fun r e => by cases e)
  clear hw1 hQ hc hJ h0 hB hg hb
  gi_wp2
  gi_loopw [3, 4] (fun x y wr => ∃ (pre : List (Int × Int)) (a0 left : Int), x = .int .i64 a0 ∧ y = .int .i64 left ∧ vPieces v = pre ++ pcs 2000 a0 left ∧ 0 ≤ a0 ∧ 0 ≤ left ∧ left ≤ 1024 ∧ a0 + left ≤ 6000 ∧ J pre wr)
    (fun x y wr => (intOf y).toNat)
  case atStart => exact ⟨[], v.at_, vCount v, rfl, rfl, rfl, v0, by omega, v3, by omega, h1⟩
  case round =>
    obtain ⟨pre, a0, left, rfl, rfl, hx, ha0, hl0, hl1, hal, hj⟩ := hrel
    by_cases hl : 0 < left
    · obtain ⟨m, hm⟩ : ∃ m, m = min left (8 - a0 % 8) := ⟨_, rfl⟩
      have hm1 : 1 ≤ m ∧ m ≤ left := by omega
      have hp : pcs 2000 a0 left = (a0, m) :: pcs 2000 (a0 + m) (left - m) := by
        rw [hm]; exact pcs_step 2000 a0 left hl (by omega)
      obtain ⟨fn, tmps, assign, body, hy, hR⟩ := hY pre (a0, m) wr hj (by rw [hx, hp]; simp)
      dsimp only at hy
      have HX := Lib.hid hx
      have HP := Lib.hid hp
      have HR := Lib.hid hR
      clear hx hp hY h1 hj hR
      have hm2 : m ≤ 8 - a0 % 8 := by omega
      by_cases hle : left ≤ 8 - a0 % 8
      · obtain rfl : m = left := by omega
        have HM := Lib.hid hm
        clear hm
        gi_wp2
        refine ⟨hd, HR.out.mono ?_⟩
        rintro e W3 (⟨rfl, hJ3, hk3⟩ | ⟨rfl, hJx3⟩)
        · gi_wp2
          go_roundw
          case rel => exact ⟨pre ++ [(a0, m)], a0 + m, m - m, rfl, by go_num, by rw [HX.out, HP.out]; simp, by omega, by omega, by omega, by omega, hJ3⟩
          case measure => simp [intOf]; omega
        · gi_wp2
          refine bodyPost_ret (results_none rfl _ _ _) rfl ?_
          exact ⟨⟨_, rfl⟩, .inr ⟨pre ++ [(a0, m)], ⟨pcs 2000 (a0 + m) (m - m), by rw [HX.out, HP.out]; simp⟩, hJx3⟩⟩
      · obtain rfl : m = 8 - a0 % 8 := by omega
        have HM := Lib.hid hm
        clear hm
        gi_wp2
        refine ⟨hd, HR.out.mono ?_⟩
        rintro e W3 (⟨rfl, hJ3, hk3⟩ | ⟨rfl, hJx3⟩)
        · gi_wp2
          go_roundw
          case rel => exact ⟨pre ++ [(a0, 8 - a0 % 8)], a0 + (8 - a0 % 8), left - (8 - a0 % 8), rfl, rfl, by rw [HX.out, HP.out]; simp, by omega, by omega, by omega, by omega, hJ3⟩
          case measure => simp [intOf]; omega
        · gi_wp2
          refine bodyPost_ret (results_none rfl _ _ _) rfl ?_
          exact ⟨⟨_, rfl⟩, .inr ⟨pre ++ [(a0, 8 - a0 % 8)], ⟨pcs 2000 (a0 + (8 - a0 % 8)) (left - (8 - a0 % 8)), by rw [HX.out, HP.out]; simp⟩, hJx3⟩⟩
    · rw [pcs_end _ _ _ hl, List.append_nil] at hx
      have HX := Lib.hid hx
      clear hx hY h1
      gi_wp2
      go_end0
      exact ⟨⟨_, rfl⟩, .inl (by rw [HX.out]; exact hj)⟩

set_option maxHeartbeats 1000000 in
theorem pieces_in (n : Nat) (hn : 1 ≤ n) (v : Vb) (A : Option Addr) (c : Nat) (w : World) :
    CallsIn Fence.wide n Tryz.prog 83 #[vVal v A c] w fun e w' => e = .returned (.func (.func 98) #[] #[.pointer (some ⟨w.heap.size, 0, none⟩)]) ∧ w' = w.alloc (.cells (vCells v A c) 113) := by
  refine callsIn_of_wp Tryz.func83 rfl trivial ?_ rfl
  simp only [Tryz.ntmps83, List.size_toArray, List.length_cons, List.length_nil, Nat.reduceAdd, Nat.reduceSub, Array.replicate_succ, Array.replicate_zero, List.push_toArray, List.append_toArray, List.nil_append, List.cons_append]
  gi_wp2
  go_ret
  exact ⟨rfl, rfl⟩

theorem pieces_stops (n : Nat) (hn : 2 ≤ n) (Bn n0 : Nat) (v : Vb) (A : Option Addr) (c : Nat) (hv : VSmall v) (w : World) (hB : ∀ k, w.cell? ⟨Bn, k, none⟩ = (vCells v A c)[k]?) (hBn : Bn < w.heap.size) :
    SeqStopsK Fence.wide n Tryz.prog 98 #[.pointer (some ⟨Bn, 0, none⟩)] (fun x : Int × Int => #[Value.agg #[.int .i64 x.1, .int .i64 x.2]]) (Below n0) (fun ys => ys = vPieces v) (fun pre => pre <+: vPieces v) (vPieces v).length w :=
  fun l J Jx W hW hJ _ hY h0 => pieces1_in n hn l Bn n0 v A c hv J Jx W hJ hY (fun k => by rw [hW.cell (p := ⟨Bn, k, none⟩) hBn]; exact hB k) (Nat.lt_of_lt_of_le hBn hW.size) h0

theorem elem_pc : ElemOk Tryz.prog 115 119 2 16 where
  ut := Tryz.underlying115
  info := by
    have h : (Tryz.prog.info? 119).map (fun i => (i.zero, i.size, i.bytes)) = some (some (.agg #[.int .i64 0, .int .i64 0]), 2, 16) := by kernel_rfl
    obtain ⟨i, hi, hz0, hz1, hz2⟩ := info_parts h
    exact ⟨i, _, hi, hz0, hz1, hz2, rfl⟩
  pos := by decide
  small := by decide

set_option maxRecDepth 100000 in
set_option maxHeartbeats 4000000 in
theorem Pieces_in (n : Nat) (hn : 6 ≤ n) (v : Vb) (A : Option Addr) (c : Nat) (hv : VSmall v) (w : World) :
    CallsIn Fence.wide n Tryz.prog 60 #[vVal v A c] w fun e w' => ∃ x, e = .returned x ∧ Below w.heap.size w w' ∧ w'.ownsRow w.heap.size 119 2 x (vPieces v).length ((vPieces v).flatMap pcCells) := by
  have h1 : 1 ≤ n := by omega
  have hd : Fence.wide.depth.isSome = true → 1 ≤ n := fun h => by simp [Fence.wide] at h
  have hw : ∀ f, Fence.wide.fn f := fun _ => trivial
  refine callsIn_of_wp_marks Tryz.func60 rfl trivial ?_ rfl
  simp only [Tryz.ntmps60, List.size_toArray, List.length_cons, List.length_nil, Nat.reduceAdd, Nat.reduceSub, Array.replicate_succ, Array.replicate_zero, List.push_toArray, List.append_toArray, List.nil_append, List.cons_append]
  gi_wp2_with (gi_at_call 83; refine (pieces_in (n - 1) (by omega) v A c _).mono ?_; rintro e w' ⟨rfl, rfl⟩)
  have bV : ∀ k, (((w.alloc (.cells (vCells v A c) 113)).alloc (.cells #[.slice none 0 0] 115)).alloc (.cells (vCells v A c) 113)).cell? ⟨w.heap.size + 1 + 1, k, none⟩ = (vCells v A c)[k]? := fun k =>
    ((((St.start w).alloc _).allocAt (w.heap.size + 1) (by simp) _).allocAt (w.heap.size + 1 + 1) (by simp) _).cells List.mem_cons_self k
  have bO : Boxed (((w.alloc (.cells (vCells v A c) 113)).alloc (.cells #[.slice none 0 0] 115)).alloc (.cells (vCells v A c) 113)) (w.heap.size + 1) 115 (.slice none 0 0) := by
    have := (Boxed.new (w.alloc (.cells (vCells v A c) 113)) 115 (.slice none 0 0)).alloc (.cells (vCells v A c) 113)
    rwa [World.size_alloc] at this
  have hB0 : Below w.heap.size w (((w.alloc (.cells (vCells v A c) 113)).alloc (.cells #[.slice none 0 0] 115)).alloc (.cells (vCells v A c) 113)) := (((Below.refl _ w).alloc (Nat.le_refl _) _).alloc (by simp) _).alloc (by simp; omega) _
  have hsz : (((w.alloc (.cells (vCells v A c) 113)).alloc (.cells #[.slice none 0 0] 115)).alloc (.cells (vCells v A c) 113)).heap.size = w.heap.size + 3 := by simp
  obtain ⟨W0, hW0⟩ : ∃ W0, (((w.alloc (.cells (vCells v A c) 113)).alloc (.cells #[.slice none 0 0] 115)).alloc (.cells (vCells v A c) 113)) = W0 := ⟨_, rfl⟩
  rw [hW0] at bV bO hB0 hsz ⊢
  clear hW0
  have hN : (vPieces v).length ≤ 2000 := pcs_len _ _ _
  obtain ⟨ut, ⟨i0, z, hi, hz, hz1, hz2, hz3⟩, _, _⟩ := elem_pc
  refine wpIn_rangeFunc_ownH rfl h1 (gf := 98) (lb := #[.pointer (some ⟨w.heap.size + 1 + 1, 0, none⟩)]) rfl trivial (enters_of Tryz.func98 (by kernel_rfl) rfl)
    (pieces_stops (n - 1) (by omega) (w.heap.size + 1 + 1) w.heap.size v A c hv W0 bV (by omega)) belowK_t (belowK_b (by omega)) (Below.refl _ _) (fun _ => rfl)
    (fun pre W => (∃ x, Boxed W (w.heap.size + 1) 115 x ∧ W.ownsRow w.heap.size 119 2 x pre.length (pre.flatMap pcCells) ∧ True) ∧ Below w.heap.size w W)
    (fun _ _ _ => False)
    (OwnFrom.and (Own.from (holdsRow_own w.heap.size (w.heap.size + 1) 115 119 2 (fun pre : List (Int × Int) => pre.length) (fun pre => pre.flatMap pcCells) (fun _ _ => True)) _) (ownFrom_below (Nat.le_refl _) (by omega)))
    (fun _ _ _ _ _ hs _ _ => hs)
    ⟨⟨_, bO, World.ownsRow_nil _ _ _ _, trivial⟩, hB0⟩
    (fun x a' W => ∃ Bx, w.heap.size + 1 < Bx ∧ W.heap[Bx]? = some (.cells #[.int .i64 x.1, .int .i64 x.2] 119 (0, 0)) ∧ a' = { tmps := #[vVal v A c, .pointer (some ⟨w.heap.size, 0, none⟩), .slice none 0 0, .pointer (some ⟨w.heap.size + 1, 0, none⟩), .pointer (some ⟨Bx, 0, none⟩), vVal v A c, .func (.func 98) #[] #[.pointer (some ⟨w.heap.size + 1 + 1, 0, none⟩)], .agg #[.int .i64 x.1, .int .i64 x.2], undef, undef, undef, undef, undef], defers := [] })
    (fun x a' _ X Y row hs hg hr => by
      obtain ⟨Bx, h1, h2, h3⟩ := hs
      refine ⟨Bx, h1, ?_, h3⟩
      rw [hg.block Bx (Array.getElem?_eq_some_iff.1 h2).1 (fun e => ?_)]; exact h2
      obtain ⟨_, o, ho, hc⟩ := hr Bx e.symm
      rw [h2] at ho; cases ho; cases hc)
    ?assign ?body ?done ?stop
  case assign =>
    rintro l pre x W K ⟨⟨y, hy, hrow, _⟩, hB⟩ hK
    gi_wp2
    exact hK _ _ ((KeepsOthers.alloc _ _).from _) ((Below.refl _ W).alloc hB.size _) ⟨⟨y, hy.alloc _, hrow.alloc _, trivial⟩, hB.alloc hB.size _⟩ ⟨W.heap.size, hy.lt, World.alloc_heap_new W _, rfl⟩
  case body =>
    rintro l pre x a' W hl ⟨r, hr⟩ ⟨⟨y, hy, hrow, _⟩, hB⟩ ⟨Bx, hBx, hX, rfl⟩ hlt
    have hc := hy.cell
    have hcx : ∀ k, W.cell? ⟨Bx, k, none⟩ = #[Value.int .i64 x.1, Value.int .i64 x.2][k]? := fun k => by simp [World.cell?, hX]
    gi_wp2_with (gi_at_builtin; refine wpListIn_append_own _ rfl _ _ 115 rfl w.heap.size 119 i0 z 2 16 ut hi hz hz1 hz2 hz3 (by decide) _ _ _ rfl (hrow.alloc _) ⟨W.heap.size, 0, none⟩ 1 1 [.int .i64 x.1, .int .i64 x.2] rfl rfl (cells_new _ _ _) (by simp [Value.oneCell']) (by unfold maxLen; omega) (by omega) (by have := hB.size; simp; omega) ?_; intro v' w1 hown' hgrow _; obtain ⟨g', cap', rfl⟩ := ownsRow_succ hown'; obtain ⟨hv1, hv2, hr2, hk2, hb2⟩ := hy.appended (by decide) hrow hB.size (Nat.le_succ _) hown' hgrow; have hc1 := hv1.cell; have hf1 := hv1.frozen)
    exact ⟨hk2.from _, hb2, ⟨_, hv2, by simpa using hr2, trivial⟩, hB.trans hb2⟩
  case done =>
    rintro D ys W hD rfl ⟨⟨y, hy, hrow, _⟩, hB⟩ hK
    have hc := hy.cell
    gi_wp2
    refine ⟨by simp, .inl ⟨_, _, rfl, run_takeDeferred hK, ?_⟩⟩
    exact ⟨_, results_tmp rfl _ _ _, y, rfl, hB.trans (belowK_b (w := w) (Nat.le_refl _) W D _ _ (by omega) hK rfl rfl), ownsRow_putObj hrow _ hK rfl⟩
  case stop =>
    rintro D c pre W _ _ h _
    exact h.elim

variable {base : Nat} {w0 w : World} {L : List Blk}
/-- A row that a callee has made, beside what lay. -/
theorem St.of_made {w' : World} {B : Nat} {t : TypeId} {size n : Nat} {v : Value} {xs : List Value} (h : St base w0 w' L) (hk : ∀ p, p ∈ L → p.1 < B) (hB : base ≤ B) (ho : w'.ownsRow B t size v n xs) :
    ∃ r : Rw, v = rowV r n ∧ RowOk r size n xs ∧ St base w0 w' (rowH r t xs ++ L) := by
  obtain ⟨hlen, ho⟩ := ho
  rcases ho with ⟨rfl, rfl⟩ | ⟨g, cap, cur, rfl, hb, hh, hc1, hc2, hc3, hc4⟩
  · obtain rfl : xs = [] := List.eq_nil_of_length_eq_zero (by simpa using hlen)
    exact ⟨nilRw, rfl, nilRw_ok _, by simpa [rowH, nilRw] using h⟩
  · have hcl : cur.toList = xs ++ cur.toList.drop (n * size) := by rw [← hc4, List.take_append_drop]
    refine ⟨⟨some g, cap - n, cur.toList.drop (n * size)⟩, by simp [rowV, rowA]; omega, ⟨hlen, fun e => by simp at e, ?_, by simp; omega⟩, ?_⟩
    · simp [hc3, Nat.sub_mul]
    · rw [rowH_some]
      have hcur : cur = (xs ++ cur.toList.drop (n * size)).toArray := by rw [← hcl]
      have hne : g ∉ keys L := by
        intro hk'
        obtain ⟨p, hp, e⟩ := List.mem_map.1 hk'
        have := hk p hp
        have e' : p.1 = g := e
        omega
      refine ⟨h.below, h.le, ?_, ?_⟩
      · rw [List.singleton_append, keys_cons, List.nodup_cons]
        exact ⟨hne, h.nodup⟩
      · intro p hp
        rcases List.mem_append.1 hp with hp | hp
        · simp only [List.mem_singleton] at hp
          subst hp
          exact ⟨by simp only; omega, by rw [hh]; rw [← hcur]⟩
        · exact h.holds p hp

theorem Pieces_calls (v : Vb) (A : Option Addr) (c : Nat) (hv : VSmall v) (h : St base w0 w L) (R : Ending → World → Prop)
    (hR : ∀ r w', RowOk r 2 (vPieces v).length ((vPieces v).flatMap pcCells) → Below w.heap.size w w' → St base w0 w' (rowH r 119 ((vPieces v).flatMap pcCells) ++ L) → R (.returned (rowV r (vPieces v).length)) w') :
    Calls Tryz.prog 60 #[vVal v A c] w R := by
  refine (callsIn_wide.1 (Pieces_in 6 (by omega) v A c hv w)).mono ?_
  rintro e w' ⟨x, rfl, hb, ho⟩
  obtain ⟨r, rfl, h1, h2⟩ := St.of_made (h.grow hb) (fun p hp => h.lt hp) h.le ho
  exact hR r w' h1 hb h2

end Go.Proofs.YtaojipegpjolcaaGreat
set_option linter.unusedVariables false
namespace Go.Proofs.YtaojipegpjolcaaGreat
open Go.RowKit Go.Sort Go.Proofs.BodegaHeap
variable {base : Nat} {w0 w : World} {L : List Blk}

set_option maxRecDepth 100000 in
set_option maxHeartbeats 2000000 in
theorem Post_calls (g : GP) (hg : RowOk g.rv 9 g.gs.length (g.gs.flatMap gvC)) (hlen : g.gs.length ≤ 1023) (x : GV) (hx : GvOk x) (hw : x.1.words.length ≤ 2000) (lines : Int) (hv : VOk x.1 5 lines) (hnd : x.1.node = g.nd)
    (h : St base w0 w ((g.bp, .cells (gpCells g) 111 (0, 0)) :: (rowH g.rv 113 (g.gs.flatMap gvC) ++ L))) (hm : ∀ p, p ∈ gvH x → p ∈ L) (R : Ending → World → Prop)
    (hR : ∀ r rv' w', GvOk (x.1, r) → RowOk rv' 9 (g.gs.length + 1) ((g.gs ++ [(x.1, r)]).flatMap gvC) →
      St base w0 w' ((g.bp, .cells (gpCells { g with rv := rv', gs := g.gs ++ [(x.1, r)] }) 111 (0, 0)) :: (rowH rv' 113 ((g.gs ++ [(x.1, r)]).flatMap gvC) ++ (gvH (x.1, r) ++ L))) → R (.returned (.int .i64 0)) w') :
    Calls Tryz.prog 79 #[pP g.bp, vVal x.1 (rowA x.2) (x.1.words.length + x.2.k), .int .i64 lines] w R := by
  have hc : ∀ W X, St base w0 W ((g.bp, .cells (gpCells g) 111 (0, 0)) :: X) → (∀ k, W.cell? ⟨g.bp, k, none⟩ = (gpCells g)[k]?) ∧ (∀ k, W.frozen? ⟨g.bp, k, none⟩ = false) :=
    fun W X hW => ⟨fun k => hW.cells (cs := gpCells g) (t := 111) (fr := (0, 0)) List.mem_cons_self k, fun k => hW.frozen (cs := gpCells g) (t := 111) List.mem_cons_self k⟩
  obtain ⟨W1, hW1⟩ : ∃ W, W = w.alloc (.cells (vCells x.1 (rowA x.2) (x.1.words.length + x.2.k)) 113) := ⟨_, rfl⟩
  have h1 : St base w0 W1 ((g.bp, .cells (gpCells g) 111 (0, 0)) :: (rowH g.rv 113 (g.gs.flatMap gvC) ++ ((w.heap.size, .cells (vCells x.1 (rowA x.2) (x.1.words.length + x.2.k)) 113 (0, 0)) :: L))) := by
    rw [hW1]; exact (h.alloc _).ac (fun y => by simp only [cnt_append, cnt_cons]; omega)
  have HW1 := Lib.hid hW1
  have HC := Lib.hid hc
  have H1 := Lib.hid h1
  have hVal := Valid_calls W1 x.1 (rowA x.2) (x.1.words.length + x.2.k) 5 lines hv
  have HV := Lib.hid hVal
  have hne : (x.1.node != g.nd) = false := by simp [hnd]
  clear h hW1 hc h1 hVal hnd
  go_enter Tryz.func79, Tryz.ntmps79
  go_wp2_with fail
  rw [← HW1.out]
  refine HV.out.mono ?_
  rintro e w2 ⟨rfl, hb2⟩
  have h2 := H1.out.grow hb2
  obtain ⟨c2, f2⟩ := HC.out _ _ h2
  have cv : ∀ k, w2.cell? ⟨w.heap.size, k, none⟩ = (vCells x.1 (rowA x.2) (x.1.words.length + x.2.k))[k]? := fun k => h2.cells (t := 113) (fr := (0, 0)) (by simp) k
  have H2 := Lib.hid h2
  clear h2 hb2 HV H1
  go_wp2_with fail
  go_quiet (fail)
  have H3 := Lib.hid (H2.out.drewN nq)
  clear H2
  go_wp2_with fail
  obtain ⟨WD, hWD⟩ : ∃ W, W = (w2.drewN nq).drew := ⟨_, rfl⟩
  have h4 : St base w0 WD ((g.bp, .cells (gpCells g) 111 (0, 0)) :: (rowH g.rv 113 (g.gs.flatMap gvC) ++ ((w.heap.size, .cells (vCells x.1 (rowA x.2) (x.1.words.length + x.2.k)) 113 (0, 0)) :: L))) := by rw [hWD]; exact H3.out.drew
  obtain ⟨KK, hKK⟩ : ∃ K : List Blk, K = [(g.bp, .cells (gpCells g) 111 (0, 0)), (w.heap.size, .cells (vCells x.1 (rowA x.2) (x.1.words.length + x.2.k)) 113 (0, 0))] := ⟨_, rfl⟩
  have hg4 : ∀ W, Holds KK W → (∀ k, W.cell? ⟨g.bp, k, none⟩ = (gpCells g)[k]?) ∧ (∀ k, W.frozen? ⟨g.bp, k, none⟩ = false) ∧ (∀ k, W.cell? ⟨w.heap.size, k, none⟩ = (vCells x.1 (rowA x.2) (x.1.words.length + x.2.k))[k]?) :=
    fun W hb => ⟨hb.cells (t := 111) (fr := (0, 0)) (by simp [hKK]), hb.frozen (t := 111) (cs := gpCells g) (by simp [hKK]), hb.cells (t := 113) (fr := (0, 0)) (by simp [hKK])⟩
  have hs4 : ∀ W M, St base w0 W ((g.bp, .cells (gpCells g) 111 (0, 0)) :: (w.heap.size, .cells (vCells x.1 (rowA x.2) (x.1.words.length + x.2.k)) 113 (0, 0)) :: M) → Holds KK W :=
    fun W M h => Holds.of h (by simp +contextual [hKK])
  have HS := Lib.hid hs4
  have HG := Lib.hid hg4
  have H4 := Lib.hid h4
  have hh := HS.out _ _ (h4.ac (M := (g.bp, .cells (gpCells g) 111 (0, 0)) :: (w.heap.size, .cells (vCells x.1 (rowA x.2) (x.1.words.length + x.2.k)) 113 (0, 0)) :: (rowH g.rv 113 (g.gs.flatMap gvC) ++ L)) (fun y => by simp only [cnt_append, cnt_cons]; omega))
  clear H3 h4 hg4 hs4 hKK c2 f2 cv
  refine wp_region_T (S := Holds KK) [11] (by kernel_rfl) (by rw [← hWD]; exact hh) ?_
  rw [← hWD]
  have HWD := Lib.hid hWD
  clear hWD
  refine wpAnyT_takeL (i := 0) (v := ?_) rfl (by kernel_rfl) (by kernel_rfl) (by kernel_rfl) (by kernel_rfl) (fun _ _ _ h => h) (Or.inl ⟨by rfl, ?_⟩) hh ?_
  rotate_left
  · intro wS hSw; have hGot := HG.out _ hSw; clear hSw; go_split_ands; go_simp; try with_reducible rfl
  try simp only [Act.put, List.setIfInBounds_toArray, List.set_cons_zero, List.set_cons_succ]
  refine wpAnyT_takeL (i := 1) (v := ?_) rfl (by kernel_rfl) (by kernel_rfl) (by kernel_rfl) (by kernel_rfl) (fun _ _ _ h => h) (Or.inl ⟨by rfl, ?_⟩) hh ?_
  rotate_left
  · intro wS hSw; have hGot := HG.out _ hSw; clear hSw; go_split_ands; go_simp; try with_reducible rfl
  try simp only [Act.put, List.setIfInBounds_toArray, List.set_cons_zero, List.set_cons_succ]
  refine wpAnyT_takeL (i := 2) (v := ?_) rfl (by kernel_rfl) (by kernel_rfl) (by kernel_rfl) (by kernel_rfl) (fun _ _ _ h => h) (Or.inl ⟨by rfl, ?_⟩) hh ?_
  rotate_left
  · intro wS hSw; have hGot := HG.out _ hSw; clear hSw; go_split_ands; go_simp; try with_reducible rfl
  try simp only [Act.put, List.setIfInBounds_toArray, List.set_cons_zero, List.set_cons_succ]
  refine wpAnyT_takeL (i := 3) (v := ?_) rfl (by kernel_rfl) (by kernel_rfl) (by kernel_rfl) (by kernel_rfl) (fun _ _ _ h => h) (Or.inl ⟨by rfl, ?_⟩) hh ?_
  rotate_left
  · intro wS hSw; have hGot := HG.out _ hSw; clear hSw; go_split_ands; go_simp; try with_reducible rfl
  try simp only [Act.put, List.setIfInBounds_toArray, List.set_cons_zero, List.set_cons_succ]
  refine wpAnyT_takeL (i := 4) (v := ?_) rfl (by kernel_rfl) (by kernel_rfl) (by kernel_rfl) (by kernel_rfl) (fun _ _ _ h => h) (Or.inl ⟨by rfl, ?_⟩) hh ?_
  rotate_left
  · intro wS hSw; have hGot := HG.out _ hSw; clear hSw; go_split_ands; go_simp; try with_reducible rfl
  try simp only [Act.put, List.setIfInBounds_toArray, List.set_cons_zero, List.set_cons_succ]
  refine wpAnyT_takeL (i := 5) (v := ?_) rfl (by kernel_rfl) (by kernel_rfl) (by kernel_rfl) (by kernel_rfl) (fun _ _ _ h => h) (Or.inl ⟨by rfl, ?_⟩) hh ?_
  rotate_left
  · intro wS hSw; have hGot := HG.out _ hSw; clear hSw; go_split_ands; go_simp; try with_reducible rfl
  try simp only [Act.put, List.setIfInBounds_toArray, List.set_cons_zero, List.set_cons_succ]
  refine wpAnyT_oneL (i := 6) (by kernel_rfl) rfl (fun K hK => ?_)
  rw [if_pos (by rfl)]
  go_wp2_with (refine clone_calls x hx hw H4.out (fun p hp => by simp [hm p hp]) _ ?_)
  intro r w5 hr h5
  have hh5 := HS.out w5 (gvH (x.1, r) ++ (rowH g.rv 113 (g.gs.flatMap gvC) ++ L)) (h5.ac (fun y => by simp only [cnt_append, cnt_cons]; omega))
  have h6 := h5.ac (M := (rowH g.rv 113 (g.gs.flatMap gvC) ++ ((g.bp, .cells (gpCells g) 111 (0, 0)) :: (w.heap.size, .cells (vCells x.1 (rowA x.2) (x.1.words.length + x.2.k)) 113 (0, 0)) :: (gvH (x.1, r) ++ L)))) (fun y => by simp only [cnt_append, cnt_cons]; omega)
  have H6 := Lib.hid h6
  clear H4 h5 h6 hh
  go_wp2_with fail
  refine (hK).out _ _ (fun _ => hh5) (fun _ => ?_)
  clear hK
  refine wpAnyT_oneL (i := 7) (by kernel_rfl) rfl (fun K hK => ?_)
  rw [if_pos (by rfl)]
  go_wp2_with fail
  have hh6 := HS.out _ (rowH g.rv 113 (g.gs.flatMap gvC) ++ (gvH (x.1, r) ++ L)) ((H6.out.junk (.cells (vCells x.1 (rowA r) (x.1.words.length + r.k)) 113)).ac (fun y => by simp only [cnt_append, cnt_cons]; omega))
  refine (hK).out _ _ (fun _ => hh6) (fun _ => ?_)
  clear hK
  refine wpAnyT_oneL (i := 8) (by kernel_rfl) rfl (fun K hK => ?_)
  rw [if_pos (by rfl)]
  refine step_appendN elem_vb _ _ rfl g.rv g.gs.length _ rfl hg H6.out (vCells x.1 (rowA r) (x.1.words.length + r.k)) rfl rfl (by simp [Value.oneCell']) (by omega) ?_
  intro rv' w7 hrv h7 _
  have hh7 := HS.out w7 (rowH rv' 113 (g.gs.flatMap gvC ++ (vCells x.1 (rowA r) (x.1.words.length + r.k)).toList) ++ (gvH (x.1, r) ++ L)) (h7.ac (fun y => by simp only [cnt_append, cnt_cons]; omega))
  have h8 := h7.ac (M := (g.bp, .cells (gpCells g) 111 (0, 0)) :: (rowH rv' 113 (g.gs.flatMap gvC ++ (vCells x.1 (rowA r) (x.1.words.length + r.k)).toList) ++ ((w.heap.size, .cells (vCells x.1 (rowA x.2) (x.1.words.length + x.2.k)) 113 (0, 0)) :: (gvH (x.1, r) ++ L)))) (fun y => by simp only [cnt_append, cnt_cons]; omega)
  have H8 := Lib.hid h8
  have e8 : (g.gs ++ [(x.1, r)]).flatMap gvC = g.gs.flatMap gvC ++ (vCells x.1 (rowA r) (x.1.words.length + r.k)).toList := by simp [gvC]
  have H9 : ∀ w', St base w0 w' ((g.bp, .cells (gpCells { g with rv := rv', gs := g.gs ++ [(x.1, r)] }) 111 (0, 0)) :: (rowH rv' 113 (g.gs.flatMap gvC ++ (vCells x.1 (rowA r) (x.1.words.length + r.k)).toList) ++ ((w.heap.size, .cells (vCells x.1 (rowA x.2) (x.1.words.length + x.2.k)) 113 (0, 0)) :: (gvH (x.1, r) ++ L)))) → R (.returned (.int .i64 0)) w' := fun w' h => hR r rv' w' hr (by rw [e8]; exact hrv) (by
    rw [e8]; exact (h.ac (M := (w.heap.size, .cells (vCells x.1 (rowA x.2) (x.1.words.length + x.2.k)) 113 (0, 0)) :: ((g.bp, .cells (gpCells { g with rv := rv', gs := g.gs ++ [(x.1, r)] }) 111 (0, 0)) :: (rowH rv' 113 (g.gs.flatMap gvC ++ (vCells x.1 (rowA r) (x.1.words.length + r.k)).toList) ++ (gvH (x.1, r) ++ L)))) (fun y => by simp only [cnt_append, cnt_cons]; omega)).tail)
  have H10 := Lib.hid H9
  obtain ⟨c8, f8, _⟩ := HG.out _ hh7
  simp only [Act.put, List.setIfInBounds_toArray, List.set_cons_zero, List.set_cons_succ]
  clear H6 h7 h8 e8 hh5 hh6 H9 hR
  refine (hK).out _ _ (fun _ => hh7) (fun _ => ?_)
  clear hK
  refine wpAnyT_oneL (i := 9) (by kernel_rfl) rfl (fun K hK => ?_)
  rw [if_pos (by rfl)]
  go_wp2_with fail
  refine (hK).out _ _ (fun _ => hh7) (fun _ => ?_)
  clear hK
  refine wpAnyT_takeL (i := 10) (v := ?_) rfl (by kernel_rfl) (by kernel_rfl) (by kernel_rfl) (by kernel_rfl) (fun _ _ _ h => h) (Or.inl ⟨by rfl, ?_⟩) hh7 ?_
  rotate_left
  · intro wS hSw; have hGot := HG.out _ hSw; clear hSw; go_split_ands; go_simp; try with_reducible rfl
  try simp only [Act.put, List.setIfInBounds_toArray, List.set_cons_zero, List.set_cons_succ]
  refine wpAnyT_oneL (i := 11) (by kernel_rfl) rfl (fun K hK => ?_)
  rw [if_pos (by rfl)]
  go_wp2_with fail
  have h11 := H10.out (w7.setCell ⟨g.bp, 3, none⟩ (rowV rv' (g.gs.length + 1))) (by have e := H8.out.set 3 (rowV rv' (g.gs.length + 1)); simpa [gpCells] using e)
  have H11 := Lib.hid h11
  clear h11 H8 H10
  refine (hK).out _ _ (fun h => by cases h) (fun _ => ?_)
  clear hK
  refine wpAnyT_done (by kernel_rfl) ?_ _
  go_wp2_with fail
  exact H11.out

end Go.Proofs.YtaojipegpjolcaaGreat
