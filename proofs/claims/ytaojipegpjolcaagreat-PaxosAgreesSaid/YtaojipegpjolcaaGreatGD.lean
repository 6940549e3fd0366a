/- Contracts of package layout: the small functions. Contracts of package layout: Format. The fabric's order; the small functions of package fabric. Contracts: layout.FormatAll, bodegarun.Fresh. The fabric without memory. One client of a fabric taken out and put back; Take. Contracts of package fabric: Choices. queuepair.Pair.Step, whatever it does, in one contract. A fabric with one lane, its node and its client put back; the order of the fabric behind a step. -/
import Derived.Test.YtaojipegpjolcaaGreatGC
set_option linter.unusedVariables false
set_option linter.unusedSimpArgs false
namespace Go.Proofs.YtaojipegpjolcaaGreat
open Go.RowKit Go.Sort Go.Proofs.BodegaHeap
variable {base : Nat} {w0 w : World} {L : List Blk}

set_option maxHeartbeats 400000 in
theorem Words_calls (w : World) (l : Int) (h0 : 1 ≤ l) (h1 : l ≤ 256) :
    Calls Tryz.prog 68 #[.int .i64 l] w fun e w' => e = .returned (.int .i64 (l * 8)) ∧ w' = w := by
  go_enter Tryz.func68, Tryz.ntmps68
  go_wp2
  go_ret
  exact ⟨rfl, rfl⟩
set_option maxHeartbeats 400000 in
theorem Page_calls (w : World) (l : Int) (h0 : 96 ≤ l) (h1 : l ≤ 255) :
    Calls Tryz.prog 74 #[.int .i64 l] w fun e w' => e = .returned (.int .i64 (l * 8)) ∧ w' = w := by
  go_enter Tryz.func74, Tryz.ntmps74
  go_wp2
  go_ret
  exact ⟨rfl, rfl⟩
set_option maxHeartbeats 400000 in
theorem Door_calls (w : World) (v : Int) (h0 : 0 ≤ v) (h1 : v ≤ 5) :
    Calls Tryz.prog 72 #[.int .i64 v] w fun e w' => e = .returned (.int .i64 (24 + v)) ∧ Below w.heap.size w w' := by
  go_enter Tryz.func72, Tryz.ntmps72
  go_wp2
  go_ret
  exact ⟨rfl, ((Below.refl _ _).alloc (Nat.le_refl _) _).alloc (by simp) _⟩
set_option maxHeartbeats 400000 in
theorem Key_calls (w : World) :
    Calls Tryz.prog 69 #[.int .i64 0, .bool true] w fun e w' => e = .returned (.tuple #[.int .u64 1, .int .i64 0]) ∧ w' = w := by
  go_enter Tryz.func69, Tryz.ntmps69
  go_wp2
  go_ret2
  exact ⟨rfl, rfl⟩
set_option maxHeartbeats 400000 in
theorem Header_calls (w : World) :
    Calls Tryz.prog 73 #[.int .u64 1, .int .i64 0] w fun e w' => e = .returned (.tuple #[.int .u64 256, .int .i64 0]) ∧ w' = w := by
  go_enter Tryz.func73, Tryz.ntmps73
  go_wp2
  go_ret2
  exact ⟨rfl, rfl⟩

def initV : Nat → Int
  | 0 => 549755813888
  | n + 1 => initV n + 7 * 128 ^ n

set_option maxHeartbeats 800000 in
theorem InitialValue_calls (w : World) (nodes : Nat) (h0 : 1 ≤ nodes) (h1 : nodes ≤ 5) :
    Calls Tryz.prog 65 #[.int .i64 nodes] w fun e w' => e = .returned (.tuple #[.int .u64 (initV nodes), .int .i64 0]) ∧ w' = w := by
  have hI0 : (1 : Int) ≤ nodes := by omega
  have hI1 : (nodes : Int) ≤ 5 := by omega
  go_enter Tryz.func65, Tryz.ntmps65
  go_wp2_with fail
  go_loop [4, 13] (fun v i => ∃ n : Nat, n ≤ nodes ∧ i = .int .i64 n ∧ v = .int .u64 (initV n)) (fun _ i => nodes - (intOf i).toNat)
  case atStart => exact ⟨0, Nat.zero_le _, rfl, rfl⟩
  case round =>
    obtain ⟨n, hn, rfl, rfl⟩ := hrel
    by_cases hlt : n < nodes
    · have hn5 : n < 5 := by omega
      have hltI : (n : Int) < (nodes : Int) := by omega
      go_wp2
      refine ⟨⟨n + 1, by omega, by go_num, ?_⟩, by simp [intOf]; omega⟩
      congr 1
      clear h0 h1 hI0 hI1 hn hlt hltI
      obtain rfl | rfl | rfl | rfl | rfl : n = 0 ∨ n = 1 ∨ n = 2 ∨ n = 3 ∨ n = 4 := by omega
      all_goals rfl
    · obtain rfl : n = nodes := by omega
      go_wp2
      go_ret2
      exact ⟨rfl, rfl⟩
end Go.Proofs.YtaojipegpjolcaaGreat
set_option linter.unusedVariables false
set_option linter.unusedSimpArgs false
namespace Go.Proofs.YtaojipegpjolcaaGreat
open Go.RowKit Go.Sort Go.Proofs.BodegaHeap
variable {base : Nat} {w0 w : World} {L : List Blk}

def fmtA (nodes n : Nat) : List Int := (((List.replicate n 0).set 0 1).set 1 1).set 8 (4504699138998272 + initV nodes)
def fmtDoors (xs : List Int) : Nat → List Int
  | 0 => xs
  | n + 1 => (fmtDoors xs n).set (24 + n) 1
def fmtPages (xs : List Int) : Nat → List Int
  | 0 => xs
  | n + 1 => (fmtPages xs n).set ((96 + n) * 8) 256
def fmtWords (nodes lines : Nat) : List Int := fmtPages (fmtDoors (fmtA nodes (8 * lines)) 6) (lines - 96)
theorem fmtA_len (nodes n : Nat) : (fmtA nodes n).length = n := by simp [fmtA]
theorem fmtDoors_len (xs : List Int) (n : Nat) : (fmtDoors xs n).length = xs.length := by
  induction n with
  | zero => rfl
  | succ n ih => simp [fmtDoors, ih]
theorem fmtPages_len (xs : List Int) (n : Nat) : (fmtPages xs n).length = xs.length := by
  induction n with
  | zero => rfl
  | succ n ih => simp [fmtPages, ih]
theorem fmtWords_len (nodes lines : Nat) : (fmtWords nodes lines).length = 8 * lines := by rw [fmtWords, fmtPages_len, fmtDoors_len, fmtA_len]

theorem u64_set (xs : List Int) (k : Nat) (v : Int) : ((u64s xs).toArray.setIfInBounds k (.int .u64 v)) = (u64s (xs.set k v)).toArray := by simp [u64s, List.map_set]
theorem stSetWord {b : Nat} {t : TypeId} {xs : List Int} (h : St base w0 w ((b, .cells (u64s xs).toArray t (0, 0)) :: L)) (k : Nat) (v : Int) :
    St base w0 (w.setCell ⟨b, k, none⟩ (.int .u64 v)) ((b, .cells (u64s (xs.set k v)).toArray t (0, 0)) :: L) := by
  rw [← u64_set]; exact h.set k _
theorem stWord {b : Nat} {t : TypeId} {xs : List Int} (h : St base w0 w ((b, .cells (u64s xs).toArray t (0, 0)) :: L)) (k : Nat) (hk : k < xs.length) : w.cell? ⟨b, k, none⟩ = some (.int .u64 (xs.getD k 0)) := by
  rw [h.cells List.mem_cons_self k]
  simp [u64s, List.getElem?_eq_getElem hk, List.getD_eq_getElem?_getD]
theorem flatMap_single {α β : Type} (f : α → β) (xs : List α) : xs.flatMap (fun x => [f x]) = xs.map f := by
  induction xs with
  | nil => rfl
  | cons x xs ih => rw [List.flatMap_cons, ih]; rfl
theorem make_words (n : Nat) (hn : n ≤ 1000000) (w : World) :
    (Instr.makeSlice 77 (.int .i64 (n : Int)) (.int .i64 (n : Int))).run Tryz.prog w = .ok (.slice (some ⟨w.heap.size, 0, none⟩) n n) (w.alloc (.cells (u64s (List.replicate n 0)).toArray 22)) := by
  have e := run_make_recs (P := Tryz.prog) (fun x : Int => [Value.int .u64 x]) 1 8 (fun _ => rfl) (by decide) 0 (.int .u64 0) rfl Tryz.underlying77 (by kernel_rfl) (by decide) n hn w
  rw [e]
  rw [flatMap_single]

set_option maxRecDepth 100000 in
set_option maxHeartbeats 2000000 in
theorem Format_calls (bn bw : Nat) (N : Nd) (nodes lines : Nat) (hn1 : 1 ≤ nodes) (hn5 : nodes ≤ 5) (hl : N.words.length = 8 * lines) (hl1 : 98 ≤ lines) (hl2 : lines ≤ 256) (hd : N.down = false) (h : St base w0 w (ndH bn bw N ++ L)) (R : Ending → World → Prop)
    (hR : ∀ w', St base w0 w' (ndH bn bw { N with words := fmtWords nodes lines } ++ L) → R (.returned (.int .i64 0)) w') :
    Calls Tryz.prog 50 #[nP bn, .int .i64 nodes] w R := by
  have hli : ((N.words.length : Int) / 8) = (lines : Int) := by omega
  have hL := fun w (h : NdAt w bn bw N) => Lines_calls (w := w) bn bw N (by omega) h
  rw [hli] at hL
  have hU := fun w (h : NdAt w bn bw N) => Up_calls (w := w) bn bw N h
  rw [hd] at hU
  have q := make_words (lines * 8) (by omega)
  have hnd := NdAt.of h
  have hlI1 : (98 : Int) ≤ (lines : Int) := by omega
  have hlI2 : (lines : Int) ≤ 256 := by omega
  have HL := Lib.hid hL
  have HU := Lib.hid hU
  have HND := Lib.hid hnd
  have HR := Lib.hid hR
  have H := Lib.hid h
  have HLI := Lib.hid hli
  have hm8 : (lines : Int) * 8 = ((lines * 8 : Nat) : Int) := by omega
  rw [← hm8] at q
  clear hL hU hnd hR h hli hm8
  go_enter Tryz.func50, Tryz.ntmps50
  go_wp2_with (first
    | (go_at_call 65; (refine Calls.mono (InitialValue_calls _ nodes hn1 hn5) ?_; intro e w' hh; rw [hh.1, hh.2]; clear hh w' e))
    | (go_at_call 66; (refine Calls.mono (HL.out _ HND.out) ?_; intro e w' hh; rw [hh.1, hh.2]; clear hh w' e))
    | (go_at_call 67; (refine Calls.mono (HU.out _ HND.out) ?_; intro e w' hh; rw [hh.1, hh.2]; clear hh w' e))
    | (go_at_call 68; (refine Calls.mono (Words_calls _ lines (by omega) (by omega)) ?_; intro e w' hh; rw [hh.1, hh.2]; clear hh w' e)))
  obtain ⟨b, hb⟩ : ∃ b, b = w.heap.size := ⟨_, rfl⟩
  obtain ⟨w2, hw2⟩ : ∃ W, W = w.alloc (.cells (Array.replicate (lines * 8) (Value.int .u64 0)) 22) := ⟨_, rfl⟩
  have h2 : St base w0 w2 ((b, .cells (u64s (List.replicate (lines * 8) 0)).toArray 22 (0, 0)) :: (ndH bn bw N ++ L)) := by
    have e : (u64s (List.replicate (lines * 8) 0)).toArray = Array.replicate (lines * 8) (Value.int .u64 0) := by simp [u64s]
    rw [hw2, hb, e]; exact H.out.alloc _
  rw [← hw2, ← hb]
  have f2 := fun k => h2.frozen (t := 22) List.mem_cons_self k
  have c20 := stWord h2 0 (by simp; omega)
  have c21 := stWord h2 1 (by simp; omega)
  have h3 := stSetWord (stSetWord h2 0 1) 1 1
  have H3 := Lib.hid h3
  have HB := Lib.hid hb
  clear q H HND h2 h3 hw2 hb
  have hI8 : (8 : Int) < (lines : Int) * 8 := by omega
  have hN8 : 8 < lines * 8 := by omega
  have hN1 : 1 < lines * 8 := by omega
  have hN0 : 0 < lines * 8 := by omega
  go_wp2_with (first
    | (go_at_call 69; (refine Calls.mono (Key_calls _) ?_; intro e w' hh; rw [hh.1, hh.2]; clear hh w' e)))
  refine (Cons_calls _ 0 (by omega) (by omega)).mono ?_
  rintro e w3 ⟨rfl, hb3⟩
  have h4 := H3.out.grow hb3
  have f4 := fun k => h4.frozen (t := 22) List.mem_cons_self k
  have c4 := stWord h4 8 (by simp; omega)
  have h5 := stSetWord h4 8 (4504699138998272 + initV nodes)
  have e5 : (((List.replicate (lines * 8) (0 : Int)).set 0 1).set 1 1).set 8 (4504699138998272 + initV nodes) = fmtA nodes (8 * lines) := by rw [fmtA, Nat.mul_comm]
  rw [e5] at h5
  have H5 := Lib.hid h5
  have hv : 0 ≤ initV nodes ∧ initV nodes ≤ 1099511627775 := by
    clear H5 h5 e5 h4 f4 c4
    obtain rfl | rfl | rfl | rfl | rfl : nodes = 1 ∨ nodes = 2 ∨ nodes = 3 ∨ nodes = 4 ∨ nodes = 5 := by omega
    all_goals decide
  obtain ⟨hv0, hv1⟩ := hv
  clear h4 h5 e5 hb3 H3 f2 c20 c21
  go_wp2_with (first
    | (go_at_call 70; (refine Calls.mono (Consensus_calls _ 1 1 (initV nodes) (by omega) (by omega) (by omega) (by omega) hv0 hv1) ?_; intro e w' hh; rw [hh.1, hh.2]; clear hh w' e)))
  obtain ⟨w5, hw5⟩ : ∃ W, W = w3.setCell ⟨b, 8, none⟩ (.int .u64 (4504699138998272 + initV nodes)) := ⟨_, rfl⟩
  rw [← hw5] at H5 ⊢
  clear f4 c4 hw5
  go_loopw [46] (fun i wr => ∃ n : Nat, n ≤ 6 ∧ i = .int .i64 n ∧ St base w0 wr ((b, .cells (u64s (fmtDoors (fmtA nodes (8 * lines)) n)).toArray 22 (0, 0)) :: (ndH bn bw N ++ L))) (fun i _ => 6 - (intOf i).toNat)
  case atStart => exact ⟨0, Nat.zero_le _, rfl, H5.out⟩
  case round =>
    clear H5
    obtain ⟨n, hn, rfl, hst⟩ := hrel
    by_cases hlt : n < 6
    · have hltI : (n : Int) < 6 := by omega
      have hn0 : (0 : Int) ≤ n := by omega
      have HS := Lib.hid hst
      clear hst
      go_wp2_with fail
      refine (Door_calls _ n (by omega) (by omega)).mono ?_
      rintro e w6 ⟨rfl, hb6⟩
      have h6 := HS.out.grow hb6
      have f6 := fun k => h6.frozen (t := 22) List.mem_cons_self k
      have c6 := stWord h6 (24 + n) (by rw [fmtDoors_len, fmtA_len]; omega)
      have h7 := stSetWord h6 (24 + n) 1
      have H7 := Lib.hid h7
      have ha : (24 : Int) + n < (lines : Int) * 8 := by omega
      have ha2 : 24 + n < lines * 8 := by omega
      have ha3 : ((24 : Int) + n).toNat = 24 + n := by omega
      clear h6 hb6 h7 HS
      go_wp2
      go_roundw
      case rel => exact ⟨n + 1, by omega, by go_num, H7.out⟩
      case measure => simp [intOf]; omega
    · obtain rfl : n = 6 := by omega
      have H8 := Lib.hid hst
      clear hst
      go_wp2_with fail
      go_loopw [9] (fun i wr => ∃ n : Nat, n ≤ lines - 96 ∧ i = .int .i64 ((96 + n : Nat) : Int) ∧ St base w0 wr ((b, .cells (u64s (fmtPages (fmtDoors (fmtA nodes (8 * lines)) 6) n)).toArray 22 (0, 0)) :: (ndH bn bw N ++ L))) (fun i _ => lines - (intOf i).toNat)
      case atStart => exact ⟨0, Nat.zero_le _, rfl, H8.out⟩
      case round =>
        clear H8
        obtain ⟨n, hn, rfl, hst⟩ := hrel
        have hnd := NdAt.of (hst.ac (M := ndH bn bw N ++ ((b, .cells (u64s (fmtPages (fmtDoors (fmtA nodes (8 * lines)) 6) n)).toArray 22 (0, 0)) :: L)) (fun y => by simp only [cnt_append, cnt_cons, cnt_nil]; omega))
        have HND := Lib.hid hnd
        by_cases hlt : n < lines - 96
        · obtain ⟨l, hl⟩ : ∃ l : Nat, l = 96 + n := ⟨_, rfl⟩
          rw [← hl]
          have hl96 : (96 : Int) ≤ (l : Int) := by omega
          have hl255 : (l : Int) ≤ 255 := by omega
          have hltI : (l : Int) < (lines : Int) := by omega
          have f6 := fun k => hst.frozen (t := 22) List.mem_cons_self k
          have c6 := stWord hst (l * 8) (by rw [fmtPages_len, fmtDoors_len, fmtA_len]; omega)
          have h7 := stSetWord hst (l * 8) 256
          have H7 := Lib.hid h7
          have ha : (l : Int) * 8 < (lines : Int) * 8 := by omega
          have ha2 : l * 8 < lines * 8 := by omega
          have ha3 : ((l : Int) * 8).toNat = l * 8 := by omega
          have HLL := Lib.hid hl
          clear hst hnd h7 hl
          go_wp2_with (first
            | (go_at_call 66; (refine Calls.mono (HL.out _ HND.out) ?_; intro e w' hh; rw [hh.1, hh.2]; clear hh w' e))
            | (go_at_call 74; (refine Calls.mono (Page_calls _ l (by omega) (by omega)) ?_; intro e w' hh; rw [hh.1, hh.2]; clear hh w' e))
            | (go_at_call 73; (refine Calls.mono (Header_calls _) ?_; intro e w' hh; rw [hh.1, hh.2]; clear hh w' e)))
          go_roundw
          case rel =>
            have e := H7.out
            rw [HLL.out] at e ⊢
            exact ⟨_, _, _, _, _, _, _, _, _, _, _, _, _, _, _, ⟨n + 1, by omega, by go_num, e⟩, rfl⟩
          case measure => simp [intOf]; omega
        · have hnl : 96 + n = lines := by omega
          rw [hnl]
          have hn2 : n = lines - 96 := by omega
          subst hn2
          have ew : fmtPages (fmtDoors (fmtA nodes (8 * lines)) 6) (lines - 96) = fmtWords nodes lines := rfl
          rw [ew] at hst
          have hst2 : St base w0 wr (ndH bn bw N ++ ((b, .cells (u64s (fmtWords nodes lines)).toArray 22 (0, 0)) :: L)) := hst.ac (fun y => by simp only [cnt_append, cnt_cons, cnt_nil]; omega)
          have hlw := fmtWords_len nodes lines
          have hWr := fun R => Write_calls (R := R) bn bw N (by omega) hd 0 (by omega) ⟨b, 0, none⟩ (lines * 8) (fmtWords nodes lines) (by omega) (fun j u hj => by
            have e : ((⟨b, 0, none⟩ : Addr).add j) = ⟨b, j, none⟩ := by unfold Addr.add; split <;> simp_all
            rw [e, hst2.cells (t := 22) (fr := (0, 0)) (cs := (u64s (fmtWords nodes lines)).toArray) (by simp) j]; simpa using hj) (by omega) (by omega) hst2
          rw [hlw, Nat.mul_comm 8 lines] at hWr
          have HWR := Lib.hid hWr
          clear hst hst2 hnd hWr
          go_wp2_with (first
            | (go_at_call 66; (refine Calls.mono (HL.out _ HND.out) ?_; intro e w' hh; rw [hh.1, hh.2]; clear hh w' e)))
          refine HWR.out _ ?_
          intro w9 h9
          have e9 : wOver N.words (0 : Int).toNat (fmtWords nodes lines) = fmtWords nodes lines := by
            rw [wOver]; simp only [Int.toNat_zero, List.take_zero, List.nil_append, Nat.zero_add]
            rw [List.drop_eq_nil_of_le (by omega), List.append_nil]
          rw [e9] at h9
          have h10 : St base w0 w9 (ndH bn bw { N with words := fmtWords nodes lines } ++ L) := (h9.ac (M := (b, .cells (u64s (fmtWords nodes lines)).toArray 22 (0, 0)) :: (ndH bn bw { N with words := fmtWords nodes lines } ++ L)) (fun y => by simp only [cnt_append, cnt_cons, cnt_nil]; omega)).tail
          have h11 := HR.out _ h10
          have H11 := Lib.hid h11
          clear h9 e9 h10 h11
          go_wp2
          exact H11.out
end Go.Proofs.YtaojipegpjolcaaGreat
set_option linter.unusedVariables false
set_option linter.unusedSimpArgs false
namespace Go.Proofs.YtaojipegpjolcaaGreat
open Go.RowKit Go.Sort Go.Proofs.BodegaHeap
variable {base : Nat} {w0 w : World} {L : List Blk}

/-- A pair in order. -/
structure PrOk (lines : Int) (nodes : Nat) (g : GP) : Prop where
  rv : RowOk g.rv 9 g.gs.length (g.gs.flatMap gvC)
  rw_ : RowOk g.rw_ 1 g.ws.length (u64s g.ws)
  gs : ∀ x ∈ g.gs, VLike x lines ∧ x.1.node = g.nd ∧ 0 ≤ x.1.boot ∧ x.1.boot ≤ 1000
  len : g.gs.length ≤ 1000
  ex : ∃ k : Nat, g.ex = k ∧ g.ws.length ≤ 2049 * k ∧ (∀ x rest, g.gs = x :: rest → k < (vPieces x.1).length) ∧ (g.gs = [] → k = 0)
  cl0 : 0 ≤ g.cl
  cl1 : g.cl ≤ 5
  inc0 : 0 ≤ g.inc
  inc1 : g.inc ≤ 59
  nd0 : 0 ≤ g.nd
  nd1 : g.nd < nodes
structure LnOk (lines : Int) (nodes c : Nat) (inc : Int) (nds i : Nat) (l : LN) : Prop where
  p : PrOk lines nodes l.g
  cl : l.g.cl = c
  inc : l.g.inc = inc
  nd : l.g.nd = i
  pl : RowOk l.pl 1 l.ps.length (ints l.ps)
  len : l.ps.length = l.g.gs.length
  lt : ∀ p ∈ l.ps, 0 ≤ p ∧ p < (nds : Int)
abbrev DvOk (d : DV) : Prop := RowOk d.2 1 d.1.words.length (u64s d.1.words)
structure CpOk (lines : Int) (nodes c : Nat) (C : CP) : Prop where
  lr : RowOk C.lr 2 C.ls.length (C.ls.flatMap lnC)
  ls : ∀ (i : Nat) (l : LN), C.ls[i]? = some l → LnOk lines nodes c C.inc C.ds.length i l
  br : RowOk C.br 2 C.ds.length (C.ds.flatMap dnC)
  ds : ∀ d ∈ C.ds, DvOk d
  dlen : C.ds.length ≤ 1000
  nil : C.ds = [] → C.br.blk = none
  up : C.alive = true → C.ls.length = nodes
  down : C.alive = false → C.ls = [] ∧ C.ds = []
  wait : C.waiting = ((C.ls.map (fun l => l.ps.length)).sum : Nat)
  wlt : C.waiting ≤ C.ds.length
structure FbOk (F : FB) : Prop where
  l0 : 98 ≤ F.lines
  l1 : F.lines ≤ 256
  n0 : 1 ≤ F.ns.length
  n1 : F.ns.length ≤ 5
  c0 : 1 ≤ F.cs.length
  c1 : F.cs.length ≤ 6
  nodes : ∀ n ∈ F.ns, (n.N.words.length : Int) = 8 * F.lines
  nr : RowOk F.nr 1 F.ns.length (F.ns.flatMap nodeC)
  cr : RowOk F.cr 7 F.cs.length (F.cs.flatMap cpC)
  cs : ∀ (i : Nat) (C : CP), F.cs[i]? = some C → CpOk F.lines F.ns.length i C
  orr : RowOk F.orr 1 F.os.length (F.os.flatMap orC)
  os : ∀ g ∈ F.os, PrOk F.lines F.ns.length g ∧ g.gs ≠ []
  olen : F.os.length + 5 * (F.cs.filter (·.alive)).length ≤ 30

theorem fb_cells (F : FB) (h : St base w0 w (fbH F ++ L)) : (∀ k, w.cell? ⟨F.fb, k, none⟩ = (fbCells F)[k]?) ∧ (∀ k, w.frozen? ⟨F.fb, k, none⟩ = false) :=
  ⟨fun k => h.cells (cs := fbCells F) (t := 76) (fr := (0, 0)) List.mem_cons_self k, fun k => h.frozen (cs := fbCells F) (t := 76) List.mem_cons_self k⟩
theorem fbR_cr (F : FB) : ∀ p, p ∈ rowH F.cr 84 (F.cs.flatMap cpC) → p ∈ fbH F ++ L := fun p hp => by
  simp only [fbH, fbR, List.mem_append, List.mem_cons]; simp [hp]
theorem fbR_nr (F : FB) : ∀ p, p ∈ rowH F.nr 45 (F.ns.flatMap nodeC) → p ∈ fbH F ++ L := fun p hp => by
  simp only [fbH, fbR, List.mem_append, List.mem_cons]; simp [hp]

set_option maxHeartbeats 400000 in
theorem Nodes_calls (F : FB) (h : St base w0 w (fbH F ++ L)) :
    Calls Tryz.prog 49 #[fP F] w fun e w' => e = .returned (.int .i64 (F.ns.length : Nat)) ∧ w' = w := by
  obtain ⟨c, f⟩ := fb_cells F h
  clear h
  go_enter Tryz.func49, Tryz.ntmps49
  go_wp2
  go_ret
  exact ⟨rfl, rfl⟩

set_option maxHeartbeats 800000 in
theorem Node_calls (F : FB) (k : Nat) (n : ND) (hk : F.ns[k]? = some n) (hr : RowOk F.nr 1 F.ns.length (F.ns.flatMap nodeC)) (hn : F.ns.length ≤ 5) (h : St base w0 w (fbH F ++ L)) :
    Calls Tryz.prog 19 #[fP F, .int .i64 k] w fun e w' => e = .returned (nP n.bn) ∧ w' = w := by
  have hkl : k < F.ns.length := (List.getElem?_eq_some_iff.1 hk).1
  obtain ⟨b, hb⟩ := hr.pos (by omega)
  have hrv : rowV F.nr F.ns.length = .slice (some ⟨b, 0, none⟩) F.ns.length (F.ns.length + F.nr.k) := by simp [rowV, rowA, hb]
  obtain ⟨c, f⟩ := fb_cells F h
  have c1 : ∀ k, w.cell? ⟨F.fb, k, none⟩ = (#[.int .i64 F.lines, .slice (some ⟨b, 0, none⟩) F.ns.length (F.ns.length + F.nr.k), rowV F.cr F.cs.length, rowV F.orr F.os.length] : Array Value)[k]? := by
    intro k; rw [c k]; unfold fbCells; rw [hrv]
  have c2 : w.cell? ⟨b, k, none⟩ = some (nP n.bn) := by
    have e := h.recCell (enc := nodeC) (s := 1) (fun _ => rfl) hb (fbR_nr F) hk 0 (by decide)
    simpa using e
  have hkI : (k : Int) < (F.ns.length : Int) := by omega
  have hkI0 : (0 : Int) ≤ k := by omega
  clear h c f hrv hb hr hk
  go_enter Tryz.func19, Tryz.ntmps19
  go_wp2
  all_goals first | (exfalso; go_tidy; omega) | skip
  go_ret
  exact ⟨rfl, rfl⟩

set_option maxHeartbeats 800000 in
theorem client_calls (F : FB) (k : Nat) (hk : k < F.cs.length) (b : Nat) (hb : F.cr.blk = some b) (hn : F.cs.length ≤ 6) (h : St base w0 w (fbH F ++ L)) :
    Calls Tryz.prog 40 #[fP F, .int .i64 k] w fun e w' => e = .returned (.pointer (some ⟨b, k * 7, none⟩)) ∧ w' = w := by
  have hrv : rowV F.cr F.cs.length = .slice (some ⟨b, 0, none⟩) F.cs.length (F.cs.length + F.cr.k) := by simp [rowV, rowA, hb]
  obtain ⟨c, f⟩ := fb_cells F h
  have c1 : ∀ k, w.cell? ⟨F.fb, k, none⟩ = (#[.int .i64 F.lines, rowV F.nr F.ns.length, .slice (some ⟨b, 0, none⟩) F.cs.length (F.cs.length + F.cr.k), rowV F.orr F.os.length] : Array Value)[k]? := by
    intro k; rw [c k]; unfold fbCells; rw [hrv]
  have hkI : (k : Int) < (F.cs.length : Int) := by omega
  have hkI0 : (0 : Int) ≤ k := by omega
  clear h c f hrv hb
  go_enter Tryz.func40, Tryz.ntmps40
  go_wp2
  all_goals first | (exfalso; go_tidy; omega) | skip
  go_ret
  exact ⟨rfl, rfl⟩

set_option maxHeartbeats 800000 in
theorem Alive_calls (F : FB) (hF : FbOk F) (k : Nat) (C : CP) (hk : F.cs[k]? = some C) (h : St base w0 w (fbH F ++ L)) :
    Calls Tryz.prog 53 #[fP F, .int .i64 k] w fun e w' => e = .returned (.bool C.alive) ∧ w' = w := by
  have hkl : k < F.cs.length := (List.getElem?_eq_some_iff.1 hk).1
  obtain ⟨b, hb⟩ := hF.cr.pos (by omega)
  obtain ⟨a0, a1, a2, a3, a4, a5, a6, fr⟩ := CpAt.of h hb (fbR_cr F) hk
  have hC := client_calls F k hkl b hb hF.c1 h
  have HC := Lib.hid hC
  clear h hC hb hk hF
  go_enter Tryz.func53, Tryz.ntmps53
  go_wp2_with (first | (go_at_call 40; (refine Calls.mono HC.out ?_; intro e w' hh; rw [hh.1, hh.2]; clear hh w' e)))
  go_ret
  exact ⟨rfl, rfl⟩

set_option maxHeartbeats 800000 in
theorem Waiting_calls (F : FB) (hF : FbOk F) (k : Nat) (C : CP) (hk : F.cs[k]? = some C) (h : St base w0 w (fbH F ++ L)) :
    Calls Tryz.prog 54 #[fP F, .int .i64 k] w fun e w' => e = .returned (.int .i64 C.waiting) ∧ w' = w := by
  have hkl : k < F.cs.length := (List.getElem?_eq_some_iff.1 hk).1
  obtain ⟨b, hb⟩ := hF.cr.pos (by omega)
  obtain ⟨a0, a1, a2, a3, a4, a5, a6, fr⟩ := CpAt.of h hb (fbR_cr F) hk
  have hC := client_calls F k hkl b hb hF.c1 h
  have HC := Lib.hid hC
  clear h hC hb hk hF
  go_enter Tryz.func54, Tryz.ntmps54
  go_wp2_with (first | (go_at_call 40; (refine Calls.mono HC.out ?_; intro e w' hh; rw [hh.1, hh.2]; clear hh w' e)))
  go_ret
  exact ⟨rfl, rfl⟩
set_option maxHeartbeats 800000 in
theorem Trips_calls (F : FB) (hF : FbOk F) (k : Nat) (C : CP) (hk : F.cs[k]? = some C) (h : St base w0 w (fbH F ++ L)) :
    Calls Tryz.prog 25 #[fP F, .int .i64 k] w fun e w' => e = .returned (.int .i64 C.trips) ∧ w' = w := by
  have hkl : k < F.cs.length := (List.getElem?_eq_some_iff.1 hk).1
  obtain ⟨b, hb⟩ := hF.cr.pos (by omega)
  obtain ⟨a0, a1, a2, a3, a4, a5, a6, fr⟩ := CpAt.of h hb (fbR_cr F) hk
  have hC := client_calls F k hkl b hb hF.c1 h
  have HC := Lib.hid hC
  clear h hC hb hk hF
  go_enter Tryz.func25, Tryz.ntmps25
  go_wp2_with (first | (go_at_call 40; (refine Calls.mono HC.out ?_; intro e w' hh; rw [hh.1, hh.2]; clear hh w' e)))
  go_ret
  exact ⟨rfl, rfl⟩
end Go.Proofs.YtaojipegpjolcaaGreat
set_option linter.unusedVariables false
set_option linter.unusedSimpArgs false
namespace Go.Proofs.YtaojipegpjolcaaGreat
open Go.RowKit Go.Sort Go.Proofs.BodegaHeap
variable {base : Nat} {w0 w : World} {L : List Blk}

theorem flat_set_same {α β : Type} (g : α → List β) (xs : List α) (i : Nat) (x y : α) (hx : xs[i]? = some x) (he : g y = g x) : (xs.set i y).flatMap g = xs.flatMap g := by
  induction xs generalizing i with
  | nil => rfl
  | cons a tl ih =>
    cases i with
    | zero => simp at hx; subst hx; simp [he]
    | succ i => simp at hx; simp [ih i hx]

def fmtNd (nodes lines : Nat) : Nd := ⟨fmtWords nodes lines, false⟩
/-- The first i nodes are formatted. -/
def FmtTo (nodes lines i : Nat) (ns ns' : List ND) : Prop := ns'.length = ns.length ∧ ∀ (j : Nat) (n : ND), ns[j]? = some n → ns'[j]? = some (if j < i then { n with N := fmtNd nodes lines } else n)

set_option maxRecDepth 100000 in
set_option maxHeartbeats 2000000 in
theorem FormatAll_calls (F : FB) (lines : Nat) (hl : F.lines = lines) (hl1 : 98 ≤ lines) (hl2 : lines ≤ 256) (hn1 : 1 ≤ F.ns.length) (hn5 : F.ns.length ≤ 5) (hz : ∀ n ∈ F.ns, n.N.words.length = 8 * lines ∧ n.N.down = false)
    (hnr : RowOk F.nr 1 F.ns.length (F.ns.flatMap nodeC)) (h : St base w0 w (fbH F ++ L)) (R : Ending → World → Prop)
    (hR : ∀ ns' w', FmtTo F.ns.length lines F.ns.length F.ns ns' → St base w0 w' (fbH { F with ns := ns' } ++ L) → R (.returned (.int .i64 0)) w') :
    Calls Tryz.prog 31 #[fP F] w R := by
  have hN := fun (ns' : List ND) (w : World) (h : St base w0 w (fbH { F with ns := ns' } ++ L)) => Nodes_calls { F with ns := ns' } h
  have HN := Lib.hid hN
  have H := Lib.hid h
  have hN0 := Nodes_calls F h
  have HN0 := Lib.hid hN0
  have HR := Lib.hid hR
  have HZ := Lib.hid hz
  have HNR := Lib.hid hnr
  clear h hN hN0 hR hz hnr
  go_enter Tryz.func31, Tryz.ntmps31
  go_wp2_with (first | (go_at_call 49; (refine Calls.mono HN0.out ?_; intro e w' hh; rw [hh.1, hh.2]; clear hh w' e)))
  go_loopw [7] (fun i wr => ∃ (n : Nat) (ns' : List ND), n ≤ F.ns.length ∧ i = .int .i64 n ∧ FmtTo F.ns.length lines n F.ns ns' ∧ St base w0 wr (fbH { F with ns := ns' } ++ L)) (fun i _ => F.ns.length - (intOf i).toNat)
  case atStart => exact ⟨0, F.ns, Nat.zero_le _, rfl, ⟨rfl, fun j n hj => by rw [if_neg (Nat.not_lt_zero _)]; exact hj⟩, H.out⟩
  case round =>
    clear H HN0
    obtain ⟨n, ns', hn, rfl, hfm, hst⟩ := hrel
    by_cases hlt : n < F.ns.length
    · obtain ⟨x, hx⟩ : ∃ x, F.ns[n]? = some x := ⟨F.ns[n], by simp [hlt]⟩
      have hx' : ns'[n]? = some x := by have := hfm.2 n x hx; rw [if_neg (Nat.lt_irrefl _)] at this; exact this
      obtain ⟨hxl, hxd⟩ := HZ.out x (List.mem_of_getElem? hx)
      have hlen := hfm.1
      have hflat : ns'.flatMap nodeC = F.ns.flatMap nodeC := by
        have : ns'.map nodeC = F.ns.map nodeC := by
          apply List.ext_getElem?
          intro j
          rw [List.getElem?_map, List.getElem?_map]
          cases hj : F.ns[j]? with
          | none => rw [List.getElem?_eq_none (by have := List.getElem?_eq_none_iff.1 hj; omega)]
          | some y => rw [hfm.2 j y hj]; split <;> rfl
        rw [List.flatMap_def, List.flatMap_def, this]
      have hnode := Node_calls { F with ns := ns' } n x hx' (by simp only [hlen, hflat]; exact HNR.out) (by simp only [hlen]; exact hn5) hst
      have hF := fun R => Format_calls (w := wr) (R := R) (base := base) (w0 := w0) x.bn x.bw x.N F.ns.length lines hn1 hn5 hxl hl1 hl2 hxd
        (L := (F.fb, .cells (fbCells { F with ns := ns' }) 76 (0, 0)) :: (rowH F.nr 45 (ns'.flatMap nodeC) ++ ((ns'.eraseIdx n).flatMap nodeH ++ (rowH F.cr 84 (F.cs.flatMap cpC) ++ (F.cs.flatMap cpH ++ (rowH F.orr 85 (F.os.flatMap orC) ++ (F.os.flatMap gpH ++ L)))))))
        (hst.ac (fun y => by
          have e := cnt_flat_get nodeH y ns' n x hx'
          have e2 : cnt y (ndH x.bn x.bw x.N) = cnt y (nodeH x) := rfl
          simp only [fbH, fbR, cnt_append, cnt_cons, cnt_nil] at *
          omega))
      have HNODE := Lib.hid hnode
      have HFT := Lib.hid hF
      have HFM := Lib.hid hfm
      have HX := Lib.hid hx
      have HX' := Lib.hid hx'
      have HST := Lib.hid hst
      have hnn := HN.out ns' wr hst
      simp only [hlen] at hnn
      have HNN := Lib.hid hnn
      have HLEN := Lib.hid hlen
      have hltI : (n : Int) < (F.ns.length : Int) := by omega
      clear hnode hF hfm hx hx' hst hflat hnn hlen hxl hxd
      go_wp2_with (first | (go_at_call 49; (refine Calls.mono HNN.out ?_; intro e w' hh; rw [hh.1, hh.2]; clear hh w' e)) | (go_at_call 19; (refine Calls.mono HNODE.out ?_; intro e w' hh; rw [hh.1, hh.2]; clear hh w' e)))
      refine HFT.out _ ?_
      intro w2 h2
      have h3 : St base w0 w2 (fbH { F with ns := ns'.set n { x with N := fmtNd F.ns.length lines } } ++ L) := by
        refine h2.ac (fun y => ?_)
        have hnl : n < ns'.length := by rw [HLEN.out]; exact hlt
        have e := cnt_flat_set nodeH y ns' n { x with N := fmtNd F.ns.length lines } hnl
        have e2 : cnt y (ndH x.bn x.bw { x.N with words := fmtWords F.ns.length lines }) = cnt y (nodeH { x with N := fmtNd F.ns.length lines }) := by
          have := (HZ.out x (List.mem_of_getElem? HX.out)).2
          simp only [nodeH, fmtNd, this]
        have e3 : (ns'.set n { x with N := fmtNd F.ns.length lines }).flatMap nodeC = ns'.flatMap nodeC := flat_set_same nodeC ns' n x _ HX'.out rfl
        have e4 : fbCells { F with ns := ns'.set n { x with N := fmtNd F.ns.length lines } } = fbCells { F with ns := ns' } := by simp [fbCells]
        simp only [fbH, fbR, cnt_append, cnt_cons, cnt_nil, e3, e4] at *
        omega
      have H3 := Lib.hid h3
      have hfm2 : FmtTo F.ns.length lines (n + 1) F.ns (ns'.set n { x with N := fmtNd F.ns.length lines }) := by
        refine ⟨by rw [List.length_set]; exact HFM.out.1, fun j y hj => ?_⟩
        have hnl : n < ns'.length := by rw [HLEN.out]; exact hlt
        by_cases hjn : j = n
        · subst hjn
          rw [List.getElem?_set_self hnl, if_pos (Nat.lt_succ_self _)]
          have := HX.out
          rw [hj] at this
          cases this
          rfl
        · rw [List.getElem?_set_ne (Ne.symm hjn), HFM.out.2 j y hj]
          by_cases hjl : j < n
          · rw [if_pos hjl, if_pos (by omega)]
          · rw [if_neg hjl, if_neg (by omega)]
      have HFM2 := Lib.hid hfm2
      clear h2 h3 hfm2 HFT HNODE HNN
      go_wp2
      go_roundw
      case rel => exact ⟨n + 1, ns'.set n { x with N := fmtNd F.ns.length lines }, by omega, by go_num, HFM2.out, H3.out⟩
      case measure => simp [intOf]; omega
    · obtain rfl : n = F.ns.length := by omega
      have h9 := HR.out ns' wr hfm hst
      have H9 := Lib.hid h9
      clear h9 hst hfm
      go_wp2
      exact H9.out
end Go.Proofs.YtaojipegpjolcaaGreat
set_option linter.unusedVariables false
set_option linter.unusedSimpArgs false
namespace Go.Proofs.YtaojipegpjolcaaGreat
open Go.RowKit Go.Sort Go.Proofs.BodegaHeap
variable {base : Nat} {w0 w : World} {L : List Blk}

structure PP where
  cl : Int
  inc : Int
  nd : Int
  vs : List Vb
  ex : Int
  ws : List Int
structure PL where
  p : PP
  ps : List Int
structure PC where
  alive : Bool
  inc : Int
  ls : List PL
  ds : List Dn
  waiting : Int
  trips : Int
  posted : Int
structure PF where
  lines : Int
  ns : List Nd
  cs : List PC
  os : List PP
def GP.pure (g : GP) : PP := ⟨g.cl, g.inc, g.nd, g.gs.map (·.1), g.ex, g.ws⟩
def LN.pure (l : LN) : PL := ⟨l.g.pure, l.ps⟩
def CP.pure (c : CP) : PC := ⟨c.alive, c.inc, c.ls.map LN.pure, c.ds.map (·.1), c.waiting, c.trips, c.posted⟩
def FB.pure (F : FB) : PF := ⟨F.lines, F.ns.map (·.N), F.cs.map CP.pure, F.os.map GP.pure⟩

/-- A fabric in order lies in memory at fb, and it is P. -/
def Fab (base : Nat) (w0 w : World) (fb : Nat) (P : PF) (L : List Blk) : Prop := ∃ F : FB, FbOk F ∧ F.fb = fb ∧ F.pure = P ∧ St base w0 w (fbH F ++ L)

def freshPP (cl inc nd : Int) : PP := ⟨cl, inc, nd, [], 0, []⟩
def freshPC (nodes c : Nat) : PC := ⟨true, 1, (List.range nodes).map (fun (i : Nat) => ⟨freshPP c 1 i, []⟩), [], 0, 0, 0⟩
def pFresh (nodes clients lines : Nat) : PF := ⟨lines, List.replicate nodes (fmtNd nodes lines), (List.range clients).map (freshPC nodes), []⟩

theorem FreshLns.pure {cl inc : Int} {ls : List LN} (h : FreshLns cl inc ls) : ls.map LN.pure = (List.range ls.length).map (fun (i : Nat) => ⟨freshPP cl inc i, []⟩) := by
  apply List.ext_getElem?
  intro i
  rw [List.getElem?_map, List.getElem?_map]
  by_cases hi : i < ls.length
  · rw [List.getElem?_range hi]
    have hl : ls[i]? = some ls[i] := by simp [hi]
    obtain ⟨bp, hb⟩ := h i _ hl
    rw [hl, hb]
    rfl
  · rw [List.getElem?_eq_none (by omega), List.getElem?_eq_none (by simp; omega)]; rfl

theorem sum_zeros {α : Type} (xs : List α) : (xs.map (fun _ => (0 : Nat))).sum = 0 := by
  induction xs with
  | nil => rfl
  | cons x xs ih => rw [List.map_cons, List.sum_cons, ih]
theorem fresh_ok {nodes clients lines : Nat} {F : FB} {ns' : List ND} (hn1 : 1 ≤ nodes) (hn5 : nodes ≤ 5) (hc1 : 1 ≤ clients) (hc6 : clients ≤ 6) (hl1 : 98 ≤ lines) (hl2 : lines ≤ 256) (hF : FreshFb nodes clients lines F)
    (hfm : FmtTo F.ns.length lines F.ns.length F.ns ns') : FbOk { F with ns := ns' } ∧ FB.pure { F with ns := ns' } = pFresh nodes clients lines := by
  have hnl := hF.nlen
  have hlen := hfm.1
  have hmap : ns'.map (·.N) = List.replicate nodes (fmtNd nodes lines) := by
    apply List.ext_getElem?
    intro j
    rw [List.getElem?_map, List.getElem?_replicate]
    cases hj : F.ns[j]? with
    | none =>
      have := List.getElem?_eq_none_iff.1 hj
      rw [List.getElem?_eq_none (by omega), if_neg (by omega)]; rfl
    | some n =>
      have := (List.getElem?_eq_some_iff.1 hj).1
      rw [hfm.2 j n hj, if_pos this, if_pos (by omega), hnl]; rfl
  have hflat : ns'.flatMap nodeC = F.ns.flatMap nodeC := by
    have : ns'.map nodeC = F.ns.map nodeC := by
      apply List.ext_getElem?
      intro j
      rw [List.getElem?_map, List.getElem?_map]
      cases hj : F.ns[j]? with
      | none => rw [List.getElem?_eq_none (by have := List.getElem?_eq_none_iff.1 hj; omega)]
      | some y => rw [hfm.2 j y hj]; split <;> rfl
    rw [List.flatMap_def, List.flatMap_def, this]
  refine ⟨⟨by rw [hF.lns]; omega, by rw [hF.lns]; omega, by simp only; omega, by simp only; omega, by rw [hF.clen]; omega, by rw [hF.clen]; omega, ?_, ?_, hF.cr, ?_, ?_, ?_, ?_⟩, ?_⟩
  · intro n hn
    have : n.N ∈ ns'.map (·.N) := List.mem_map_of_mem hn
    rw [hmap] at this
    rw [List.eq_of_mem_replicate this]
    simp only [fmtNd, fmtWords_len, hF.lns]; omega
  · simp only [hflat, hlen]; exact hF.nr
  · intro i C hC
    obtain ⟨h1, h2, h3, h4⟩ := hF.cs i C hC
    have hi := (List.getElem?_eq_some_iff.1 hC).1
    simp only at hi
    rw [hF.clen] at hi
    rw [h4]
    refine ⟨h3, ?_, nilRw_ok 2, fun d hd => by simp at hd, by simp, fun _ => rfl, fun _ => by simp only; omega, fun e => by simp at e, ?_, ?_⟩
    · intro j l hl
      obtain ⟨bp, rfl⟩ := h2 j l hl
      have hj := (List.getElem?_eq_some_iff.1 hl).1
      simp only at hj
      refine ⟨⟨nilRw_ok 9, nilRw_ok 1, fun x hx => by simp [freshLn] at hx, by simp [freshLn], ⟨0, rfl, by simp [freshLn], fun x rest e => by simp [freshLn] at e, fun _ => rfl⟩, by simp [freshLn], by simp only [freshLn]; omega, by simp [freshLn], by simp [freshLn], by simp [freshLn], by simp only [freshLn]; omega⟩, rfl, rfl, rfl, nilRw_ok 1, rfl, fun p hp => by simp [freshLn] at hp⟩
    · have : (C.ls.map fun l => l.ps.length) = C.ls.map (fun _ => 0) := by
        apply List.map_congr_left
        intro l hl
        obtain ⟨j, hj⟩ := List.getElem?_of_mem hl
        obtain ⟨bp, rfl⟩ := h2 j l hj
        rfl
      show (0 : Int) = (((C.ls.map fun l => l.ps.length).sum : Nat) : Int)
      rw [this, sum_zeros]
      rfl
    · simp
  · simp only [hF.os, hF.orr]; exact nilRw_ok 1
  · intro g hg; rw [hF.os] at hg; simp at hg
  · simp only [hF.os, List.length_nil, Nat.zero_add]
    have := List.length_filter_le (fun c : CP => c.alive) F.cs
    rw [hF.clen] at this
    omega
  · simp only [FB.pure, pFresh, hmap, hF.lns, hF.os, List.map_nil]
    congr 1
    apply List.ext_getElem?
    intro i
    rw [List.getElem?_map, List.getElem?_map]
    cases hC : F.cs[i]? with
    | none =>
      have := List.getElem?_eq_none_iff.1 hC
      rw [List.getElem?_eq_none (by simp; have := hF.clen; omega)]; rfl
    | some C =>
      obtain ⟨h1, h2, h3, h4⟩ := hF.cs i C hC
      have hi := (List.getElem?_eq_some_iff.1 hC).1
      rw [hF.clen] at hi
      rw [List.getElem?_range hi]
      simp only [Option.map_some]
      rw [h4]
      simp only [CP.pure, freshPC, h2.pure, h1, List.map_nil]

set_option maxHeartbeats 800000 in
theorem Fresh_calls (nodes clients lines : Nat) (hn1 : 1 ≤ nodes) (hn5 : nodes ≤ 5) (hc1 : 1 ≤ clients) (hc6 : clients ≤ 6) (hl1 : 98 ≤ lines) (hl2 : lines ≤ 256) (h : St base w0 w L) (R : Ending → World → Prop)
    (hR : ∀ fb w', Fab base w0 w' fb (pFresh nodes clients lines) L → R (.returned (.tuple #[.pointer (some ⟨fb, 0, none⟩), .bool true])) w') :
    Calls Tryz.prog 15 #[.int .i64 nodes, .int .i64 clients, .int .i64 lines] w R := by
  have hN := fun R => New_fabric_calls (R := R) nodes clients lines hn1 hn5 hc1 hc6 (by omega) (by omega) h
  have HN := Lib.hid hN
  have HR := Lib.hid hR
  clear h hN hR
  go_enter Tryz.func15, Tryz.ntmps15
  go_wp2_with fail
  refine HN.out _ ?_
  intro F w1 hF h1
  have hA := fun R => FormatAll_calls (R := R) F lines hF.lns hl1 hl2 (by rw [hF.nlen]; exact hn1) (by rw [hF.nlen]; exact hn5) (fun n hn => by rw [hF.nzero n hn]; simp [zeroNd]; omega) hF.nr h1
  have HA := Lib.hid hA
  have HF := Lib.hid hF
  clear hA hF h1 HN
  go_wp2_with fail
  refine HA.out _ ?_
  intro ns' w2 hfm h2
  obtain ⟨ok, hp⟩ := fresh_ok hn1 hn5 hc1 hc6 hl1 hl2 HF.out hfm
  have h3 := HR.out F.fb w2 ⟨_, ok, rfl, hp, h2⟩
  have H3 := Lib.hid h3
  clear hfm h2 ok hp h3 HA
  go_wp2
  exact H3.out
end Go.Proofs.YtaojipegpjolcaaGreat
set_option linter.unusedVariables false
set_option linter.unusedSimpArgs false
namespace Go.Proofs.YtaojipegpjolcaaGreat
open Go.RowKit Go.Sort Go.Proofs.BodegaHeap
variable {base : Nat} {w0 w : World} {L : List Blk}

abbrev fbX (F : FB) (k : Nat) : List Blk := rowH F.nr 45 (F.ns.flatMap nodeC) ++ (F.ns.flatMap nodeH ++ ((F.cs.eraseIdx k).flatMap cpH ++ (rowH F.orr 85 (F.os.flatMap orC) ++ F.os.flatMap gpH)))
theorem fb_open {F : FB} {k : Nat} {C : CP} (hk : F.cs[k]? = some C) (h : St base w0 w (fbH F ++ L)) :
    St base w0 w ((F.fb, .cells (fbCells F) 76 (0, 0)) :: (rowH F.cr 84 (F.cs.flatMap cpC) ++ (cpH C ++ (fbX F k ++ L)))) :=
  h.ac (fun y => by have e := cnt_flat_get cpH y F.cs k C hk; simp only [fbH, fbR, fbX, cnt_append, cnt_cons] at *; omega)
theorem fb_close {F : FB} {k : Nat} {C C' : CP} (hk : F.cs[k]? = some C)
    (h : St base w0 w ((F.fb, .cells (fbCells F) 76 (0, 0)) :: (rowH F.cr 84 ((F.cs.set k C').flatMap cpC) ++ (cpH C' ++ (fbX F k ++ L))))) :
    St base w0 w (fbH { F with cs := F.cs.set k C' } ++ L) := by
  have hl : k < F.cs.length := (List.getElem?_eq_some_iff.1 hk).1
  have hc : fbCells { F with cs := F.cs.set k C' } = fbCells F := by simp [fbCells]
  refine h.ac (fun y => ?_)
  have e := cnt_flat_set cpH y F.cs k C' hl
  simp only [fbH, fbR, fbX, cnt_append, cnt_cons, hc] at *
  omega

theorem filter_set (cs : List CP) (k : Nat) (C C' : CP) (hk : cs[k]? = some C) (ha : C'.alive = C.alive) : ((cs.set k C').filter (·.alive)).length = (cs.filter (·.alive)).length := by
  induction cs generalizing k with
  | nil => rfl
  | cons c tl ih =>
    cases k with
    | zero => simp at hk; subst hk; simp only [List.set_cons_zero, List.filter_cons, ha]; split <;> simp
    | succ k => simp at hk; have := ih k hk; simp only [List.set_cons_succ, List.filter_cons]; split <;> simp [this]
theorem FbOk.setCp {F : FB} (hF : FbOk F) {k : Nat} {C C' : CP} (hk : F.cs[k]? = some C) (hC : CpOk F.lines F.ns.length k C') (ha : C'.alive = C.alive) : FbOk { F with cs := F.cs.set k C' } where
  l0 := hF.l0
  l1 := hF.l1
  n0 := hF.n0
  n1 := hF.n1
  c0 := by simp only [List.length_set]; exact hF.c0
  c1 := by simp only [List.length_set]; exact hF.c1
  nodes := hF.nodes
  nr := hF.nr
  cr := by simp only [List.length_set]; exact RowOk.setRec (enc := cpC) (s := 7) (fun _ => rfl) hF.cr k C'
  cs := by
    intro i D hD
    by_cases hi : i = k
    · subst hi
      rw [List.getElem?_set_self (List.getElem?_eq_some_iff.1 hk).1] at hD
      cases hD
      exact hC
    · rw [List.getElem?_set_ne (Ne.symm hi)] at hD
      exact hF.cs i D hD
  orr := hF.orr
  os := hF.os
  olen := by simp only [filter_set F.cs k C C' hk ha]; exact hF.olen
theorem pure_setCp (F : FB) (k : Nat) (C' : CP) : FB.pure { F with cs := F.cs.set k C' } = { F.pure with cs := F.pure.cs.set k C'.pure } := by
  simp only [FB.pure, List.map_set]
theorem pure_get {F : FB} {k : Nat} {c : PC} (h : F.pure.cs[k]? = some c) : ∃ C, F.cs[k]? = some C ∧ C.pure = c := by
  simp only [FB.pure, List.getElem?_map, Option.map_eq_some_iff] at h
  exact h

theorem sum_zero {α : Type} (f : α → Nat) (xs : List α) (h : (xs.map f).sum = 0) : ∀ x ∈ xs, f x = 0 := by
  induction xs with
  | nil => intro x hx; cases hx
  | cons a tl ih =>
    simp only [List.map_cons, List.sum_cons] at h
    intro x hx
    rcases List.mem_cons.1 hx with rfl | hx
    · omega
    · exact ih (by omega) x hx

/-- Behind Take. -/
def CP.taken (C : CP) : CP := { C with br := nilRw, ds := [] }
theorem CpOk.take {lines : Int} {nodes k : Nat} {C : CP} (h : CpOk lines nodes k C) (hw : C.waiting = 0) : CpOk lines nodes k C.taken where
  lr := h.lr
  ls := by
    intro i l hl
    have hs : ((C.ls.map (fun l => l.ps.length)).sum : Nat) = 0 := by have := h.wait; omega
    have hz := sum_zero (fun l : LN => l.ps.length) C.ls hs l (List.mem_of_getElem? hl)
    obtain ⟨h1, h2, h3, h4, h5, h6, h7⟩ := h.ls i l hl
    have hps : l.ps = [] := List.eq_nil_of_length_eq_zero hz
    exact ⟨h1, h2, h3, h4, h5, h6, fun p hp => by rw [hps] at hp; cases hp⟩
  br := nilRw_ok 2
  ds := fun d hd => by cases hd
  dlen := by simp [CP.taken]
  nil := fun _ => rfl
  up := h.up
  down := fun e => ⟨(h.down e).1, rfl⟩
  wait := h.wait
  wlt := by simp only [CP.taken]; omega

set_option maxRecDepth 100000 in
set_option maxHeartbeats 800000 in
theorem Take_yes (F : FB) (hF : FbOk F) (k : Nat) (C : CP) (hk : F.cs[k]? = some C) (ha : C.alive = true) (hd : C.ds ≠ []) (hw : C.waiting = 0) (h : St base w0 w (fbH F ++ L)) (R : Ending → World → Prop)
    (hR : ∀ w', FbOk { F with cs := F.cs.set k C.taken } → St base w0 w' (fbH { F with cs := F.cs.set k C.taken } ++ (rowH C.br 94 (C.ds.flatMap dnC) ++ (C.ds.flatMap dnH ++ L))) → R (.returned (.tuple #[rowV C.br C.ds.length, .bool true])) w') :
    Calls Tryz.prog 55 #[fP F, .int .i64 k] w R := by
  have hkl : k < F.cs.length := (List.getElem?_eq_some_iff.1 hk).1
  have hC := hF.cs k C hk
  obtain ⟨b, hb⟩ := hF.cr.pos (by omega)
  obtain ⟨a0, a1, a2, a3, a4, a5, a6, fr⟩ := CpAt.of h hb (fbR_cr F) hk
  obtain ⟨b2, hb2⟩ := hC.br.pos (List.length_pos_iff.2 hd)
  have hbr : rowV C.br C.ds.length = .slice (some ⟨b2, 0, none⟩) C.ds.length (C.ds.length + C.br.k) := by simp [rowV, rowA, hb2]
  have hCl := client_calls F k hkl b hb hF.c1 h
  have h1 := fb_open hk h
  have h2 : St base w0 w (rowH F.cr 84 (F.cs.flatMap cpC) ++ ((F.fb, .cells (fbCells F) 76 (0, 0)) :: (cpH C ++ (fbX F k ++ L)))) := h1.ac (fun y => by simp only [cnt_append, cnt_cons, cnt_nil]; omega)
  have h3 := h2.setRec (enc := cpC) (s := 7) (fun _ => rfl) hb hk 3 (by decide) (.slice none 0 0) C.taken rfl
  have h4 := fb_close hk (C' := C.taken) (L := rowH C.br 94 (C.ds.flatMap dnC) ++ (C.ds.flatMap dnH ++ L)) (h3.ac (fun y => by
    have e : cnt y (cpH C.taken) = cnt y (rowH C.lr 87 (C.ls.flatMap lnC)) + cnt y (C.ls.flatMap lnH) := by
      have : cpH C.taken = rowH C.lr 87 (C.ls.flatMap lnC) ++ (C.ls.flatMap lnH ++ []) := rfl
      rw [this]; simp only [cnt_append, cnt_nil]; omega
    simp only [cpH, cnt_append, cnt_cons] at *; omega))
  have h5 := hR _ (hF.setCp hk (hC.take hw) rfl) h4
  rw [hbr] at h5 a3
  rw [ha] at a0
  rw [hw] at a4
  have H5 := Lib.hid h5
  have HC := Lib.hid hCl
  have q := eqnilDn
  clear h h1 h2 h3 h4 h5 hCl hR hb hb2 hk hF hC hbr ha hd hw
  go_enter Tryz.func55, Tryz.ntmps55
  go_wp2_with (first | (go_at_call 40; (refine Calls.mono HC.out ?_; intro e w' hh; rw [hh.1, hh.2]; clear hh w' e)))
  exact H5.out

set_option maxRecDepth 100000 in
set_option maxHeartbeats 800000 in
theorem Take_no (F : FB) (hF : FbOk F) (k : Nat) (C : CP) (hk : F.cs[k]? = some C) (ha : C.alive = true) (hd : C.ds = []) (h : St base w0 w (fbH F ++ L)) :
    Calls Tryz.prog 55 #[fP F, .int .i64 k] w fun e w' => e = .returned (.tuple #[.slice none 0 0, .bool false]) ∧ w' = w := by
  have hkl : k < F.cs.length := (List.getElem?_eq_some_iff.1 hk).1
  have hC := hF.cs k C hk
  obtain ⟨b, hb⟩ := hF.cr.pos (by omega)
  obtain ⟨a0, a1, a2, a3, a4, a5, a6, fr⟩ := CpAt.of h hb (fbR_cr F) hk
  have hn := hC.nil hd
  obtain ⟨_, hk0, _⟩ := hC.br.nil hn
  have hbr : rowV C.br C.ds.length = .slice none 0 0 := by simp [rowV, rowA, hn, hd, hk0]
  have hCl := client_calls F k hkl b hb hF.c1 h
  rw [hbr] at a3
  rw [ha] at a0
  have HC := Lib.hid hCl
  have q := eqnilDn
  clear h hCl hb hk hF hC hbr ha hd hn hk0
  go_enter Tryz.func55, Tryz.ntmps55
  go_wp2_with (first | (go_at_call 40; (refine Calls.mono HC.out ?_; intro e w' hh; rw [hh.1, hh.2]; clear hh w' e)))
  go_ret2
  exact ⟨rfl, rfl⟩
end Go.Proofs.YtaojipegpjolcaaGreat
set_option linter.unusedVariables false
set_option linter.unusedSimpArgs false
namespace Go.Proofs.YtaojipegpjolcaaGreat
open Go.RowKit Go.Sort Go.Proofs.BodegaHeap
variable {base : Nat} {w0 w : World} {L : List Blk}

abbrev Ch := Int × Int × Int
abbrev chC (c : Ch) : List Value := [.int .i64 c.1, .int .i64 c.2.1, .int .i64 c.2.2]
abbrev chV (c : Ch) : Value := .agg #[.int .i64 c.1, .int .i64 c.2.1, .int .i64 c.2.2]
def chL (i : Nat) : Nat → List PL → List Ch
  | _, [] => []
  | j, l :: tl => (if l.p.vs.isEmpty then [] else [(-1, (i : Int), (j : Int))]) ++ chL i (j + 1) tl
def chCs : Nat → List PC → List Ch
  | _, [] => []
  | i, c :: tl => chL i 0 c.ls ++ chCs (i + 1) tl
def chO : Nat → List PP → List Ch
  | _, [] => []
  | i, p :: tl => ((i : Int), p.cl, p.nd) :: chO (i + 1) tl
def pChoices (P : PF) : List Ch := chCs 0 P.cs ++ chO 0 P.os

theorem chL_len (i : Nat) (ls : List PL) : ∀ j, (chL i j ls).length ≤ ls.length := by
  induction ls with
  | nil => intro j; simp [chL]
  | cons l tl ih => intro j; simp only [chL, List.length_append, List.length_cons]; have := ih (j + 1); split <;> simp <;> omega
theorem chCs_len (n : Nat) (cs : List PC) : (∀ c ∈ cs, c.ls.length ≤ n) → ∀ i, (chCs i cs).length ≤ n * cs.length := by
  induction cs with
  | nil => intro _ i; simp [chCs]
  | cons c tl ih =>
    intro h i
    simp only [chCs, List.length_append, List.length_cons]
    have h1 := chL_len i c.ls 0
    have h2 := ih (fun d hd => h d (List.mem_cons_of_mem _ hd)) (i + 1)
    have h3 := h c List.mem_cons_self
    rw [Nat.mul_succ]; omega
theorem chO_len (os : List PP) : ∀ i, (chO i os).length = os.length := by
  induction os with
  | nil => intro i; rfl
  | cons p tl ih => intro i; simp [chO, ih]

theorem CpOk.lanes {lines : Int} {nodes k : Nat} {C : CP} (h : CpOk lines nodes k C) : C.ls.length ≤ nodes := by
  cases ha : C.alive with
  | true => rw [h.up ha]; exact Nat.le_refl _
  | false => rw [(h.down ha).1]; simp
theorem FbOk.choices {F : FB} (hF : FbOk F) : (pChoices F.pure).length ≤ 60 := by
  simp only [pChoices, List.length_append, chO_len]
  have h1 := chCs_len 5 F.pure.cs (by
    intro c hc
    simp only [FB.pure, List.mem_map] at hc
    obtain ⟨C, hC, rfl⟩ := hc
    obtain ⟨i, hi⟩ := List.getElem?_of_mem hC
    have := (hF.cs i C hi).lanes
    have := hF.n1
    simp only [CP.pure, List.length_map]; omega) 0
  have h2 := hF.olen
  have h3 := hF.c1
  simp only [FB.pure, List.length_map] at *
  omega

theorem gp_cells (g : GP) (h : St base w0 w L) (hm : ∀ p, p ∈ gpH g → p ∈ L) (k : Nat) : w.cell? ⟨g.bp, k, none⟩ = (gpCells g)[k]? :=
  h.cells (t := 111) (fr := (0, 0)) (hm _ List.mem_cons_self) k
theorem lane_mem {F : FB} {i : Nat} {C : CP} (hC : F.cs[i]? = some C) {l : LN} (hl : l ∈ C.ls) : ∀ p, p ∈ gpH l.g → p ∈ fbH F ++ L := by
  intro p hp
  have h1 : p ∈ F.cs.flatMap cpH := List.mem_flatMap.2 ⟨C, List.mem_of_getElem? hC, by
    simp only [cpH, List.mem_append]
    exact .inr (.inl (List.mem_flatMap.2 ⟨l, hl, List.mem_append_left _ hp⟩))⟩
  simp only [fbH, fbR, List.mem_append, List.mem_cons]; simp [h1]
theorem lanes_mem {F : FB} {i : Nat} {C : CP} (hC : F.cs[i]? = some C) : ∀ p, p ∈ rowH C.lr 87 (C.ls.flatMap lnC) → p ∈ fbH F ++ L := by
  intro p hp
  have h1 : p ∈ F.cs.flatMap cpH := List.mem_flatMap.2 ⟨C, List.mem_of_getElem? hC, by
    simp only [cpH, List.mem_append]; exact .inl hp⟩
  simp only [fbH, fbR, List.mem_append, List.mem_cons]; simp [h1]
theorem or_mem {F : FB} {g : GP} (hg : g ∈ F.os) : ∀ p, p ∈ gpH g → p ∈ fbH F ++ L := by
  intro p hp
  have h1 : p ∈ F.os.flatMap gpH := List.mem_flatMap.2 ⟨g, hg, hp⟩
  simp only [fbH, fbR, List.mem_append, List.mem_cons]; simp [h1]
theorem ors_mem {F : FB} : ∀ p, p ∈ rowH F.orr 85 (F.os.flatMap orC) → p ∈ fbH F ++ L := by
  intro p hp
  simp only [fbH, fbR, List.mem_append, List.mem_cons]; simp [hp]

theorem Pending_calls (g : GP) (h : ∀ k, w.cell? ⟨g.bp, k, none⟩ = (gpCells g)[k]?) :
    Calls Tryz.prog 36 #[pP g.bp] w fun e w' => e = .returned (.int .i64 (g.gs.length : Nat)) ∧ w' = w := by
  go_enter Tryz.func36, Tryz.ntmps36
  go_wp2
  go_ret
  exact ⟨rfl, rfl⟩
theorem Client_calls (g : GP) (h : ∀ k, w.cell? ⟨g.bp, k, none⟩ = (gpCells g)[k]?) :
    Calls Tryz.prog 37 #[pP g.bp] w fun e w' => e = .returned (.int .i64 g.cl) ∧ w' = w := by
  go_enter Tryz.func37, Tryz.ntmps37
  go_wp2
  go_ret
  exact ⟨rfl, rfl⟩
theorem PairNode_calls (g : GP) (h : ∀ k, w.cell? ⟨g.bp, k, none⟩ = (gpCells g)[k]?) :
    Calls Tryz.prog 38 #[pP g.bp] w fun e w' => e = .returned (.int .i64 g.nd) ∧ w' = w := by
  go_enter Tryz.func38, Tryz.ntmps38
  go_wp2
  go_ret
  exact ⟨rfl, rfl⟩

set_option maxRecDepth 100000 in
set_option maxHeartbeats 4000000 in
theorem Choices_calls (F : FB) (hF : FbOk F) (h : St base w0 w (fbH F ++ L)) (R : Ending → World → Prop)
    (hR : ∀ r w', RowOk r 3 (pChoices F.pure).length ((pChoices F.pure).flatMap chC) → St base w0 w' (rowH r 51 ((pChoices F.pure).flatMap chC) ++ (fbH F ++ L)) → R (.returned (rowV r (pChoices F.pure).length)) w') :
    Calls Tryz.prog 21 #[fP F] w R := by
  have htot := hF.choices
  obtain ⟨tot, htt⟩ : ∃ t, pChoices F.pure = t := ⟨_, rfl⟩
  rw [htt] at hR htot
  have h0 := hF.c0; have h1 := hF.c1; have h5 := hF.n1
  obtain ⟨b, hb⟩ := hF.cr.pos (by omega)
  have hrv : rowV F.cr F.cs.length = .slice (some ⟨b, 0, none⟩) F.cs.length (F.cs.length + F.cr.k) := by simp [rowV, rowA, hb]
  have hfc : ∀ W X, St base w0 W (fbH F ++ X) → ∀ k, W.cell? ⟨F.fb, k, none⟩ = (#[.int .i64 F.lines, rowV F.nr F.ns.length, .slice (some ⟨b, 0, none⟩) F.cs.length (F.cs.length + F.cr.k), rowV F.orr F.os.length] : Array Value)[k]? := by
    intro W X hW k
    rw [(fb_cells F hW).1 k]; unfold fbCells; rw [hrv]
  have c1 := hfc w L h
  have HFC := Lib.hid hfc
  have H := Lib.hid h
  have HF := Lib.hid hF
  have HB := Lib.hid hb
  have HT := Lib.hid htt
  have HR := Lib.hid hR
  clear h hF hb hrv hfc htt hR
  go_enter Tryz.func21, Tryz.ntmps21
  go_wp2_with fail
  clear c1
  go_loopw [3, 15] (fun o i wr => ∃ (n : Nat) (r : Rw) (out : List Ch), n ≤ F.cs.length ∧ i = .int .i64 n ∧ o = rowV r out.length ∧ out ++ (chCs n (F.pure.cs.drop n) ++ chO 0 F.pure.os) = tot ∧ RowOk r 3 out.length (out.flatMap chC) ∧ St base w0 wr (rowH r 51 (out.flatMap chC) ++ (fbH F ++ L)))
    (fun o i _ => F.cs.length - (intOf i).toNat)
  case atStart => exact ⟨0, nilRw, [], Nat.zero_le _, rfl, rfl, by rw [← HT.out]; rfl, nilRw_ok 3, H.out⟩
  case round =>
    clear H
    obtain ⟨n, r, out, hn, rfl, rfl, hout, hr, hst⟩ := hrel
    by_cases hlt : n < F.cs.length
    · obtain ⟨C, hC⟩ : ∃ x, F.cs[n]? = some x := ⟨F.cs[n], by simp [hlt]⟩
      have hCo := HF.out.cs n C hC
      obtain ⟨a0, a1, a2, a3, a4, a5, a6, fr⟩ := CpAt.of hst HB.out (fun p hp => List.mem_append_right _ (fbR_cr F p hp)) hC
      have hdrop : F.pure.cs.drop n = C.pure :: F.pure.cs.drop (n + 1) := by
        have : F.pure.cs[n]? = some C.pure := by simp [FB.pure, hC]
        rw [List.drop_eq_getElem_cons (List.getElem?_eq_some_iff.1 this).1, (List.getElem?_eq_some_iff.1 this).2]
      rw [hdrop, chCs] at hout
      obtain ⟨ao, hao⟩ : ∃ ao, rowA C.lr = ao := ⟨_, rfl⟩
      rw [show rowV C.lr C.ls.length = .slice ao C.ls.length (C.ls.length + C.lr.k) by rw [← hao]] at a2
      have HAO := Lib.hid hao
      have HOUT := Lib.hid hout
      have HST := Lib.hid hst
      have HR0 := Lib.hid hr
      have HC := Lib.hid hC
      have HCO := Lib.hid hCo
      have hltI : (n : Int) < (F.cs.length : Int) := by omega
      clear hout hst hr hC hCo hdrop hao
      go_wp2_with fail
      go_loopw [3, 23] (fun o i wr => ∃ (m : Nat) (r : Rw) (out : List Ch), m ≤ C.ls.length ∧ i = .int .i64 m ∧ o = rowV r out.length ∧ out ++ (chL n m (C.pure.ls.drop m) ++ chCs (n + 1) (F.pure.cs.drop (n + 1)) ++ chO 0 F.pure.os) = tot ∧ RowOk r 3 out.length (out.flatMap chC) ∧ St base w0 wr (rowH r 51 (out.flatMap chC) ++ (fbH F ++ L)))
        (fun o i _ => C.ls.length - (intOf i).toNat)
      case atStart => exact ⟨0, r, out, Nat.zero_le _, rfl, rfl, HOUT.out, HR0.out, HST.out.junk _⟩
      case round =>
        clear HOUT HST HR0 a0 a1 a2 a3 a4 a5 a6 fr
        obtain ⟨m, r, out, hm, rfl, rfl, hout, hr, hst⟩ := hrel
        by_cases hlt2 : m < C.ls.length
        · obtain ⟨l, hl⟩ : ∃ x, C.ls[m]? = some x := ⟨C.ls[m], by simp [hlt2]⟩
          obtain ⟨b2, hb2⟩ := HCO.out.lr.pos (by omega)
          have hra : ao = some ⟨b2, 0, none⟩ := by rw [← HAO.out]; simp [rowA, hb2]
          subst hra
          have l0 := hst.recCell (enc := lnC) (s := 2) (fun _ => rfl) hb2 (fun p hp => List.mem_append_right _ (lanes_mem HC.out p hp)) hl 0 (by decide)
          have l1 := hst.recCell (enc := lnC) (s := 2) (fun _ => rfl) hb2 (fun p hp => List.mem_append_right _ (lanes_mem HC.out p hp)) hl 1 (by decide)
          have g0 := gp_cells l.g hst (fun p hp => List.mem_append_right _ (lane_mem HC.out (List.mem_of_getElem? hl) p hp))
          simp only [Nat.add_zero, List.getElem?_cons_zero, List.getElem?_cons_succ] at l0 l1
          have hdrop : C.pure.ls.drop m = l.pure :: C.pure.ls.drop (m + 1) := by
            have : C.pure.ls[m]? = some l.pure := by simp [CP.pure, hl]
            rw [List.drop_eq_getElem_cons (List.getElem?_eq_some_iff.1 this).1, (List.getElem?_eq_some_iff.1 this).2]
          rw [hdrop, chL] at hout
          have hlt2I : (m : Int) < (C.ls.length : Int) := by omega
          have hlnI : (C.ls.length : Int) ≤ 5 := by have := HCO.out.lanes; omega
          by_cases hgs : l.g.gs = []
          · have he : l.pure.p.vs.isEmpty = true := by simp [LN.pure, GP.pure, hgs]
            rw [if_pos he, List.nil_append] at hout
            have hg2 : l.g.gs.length = 0 := by rw [hgs]; rfl
            obtain ⟨w2, hw2⟩ : ∃ W, W = wr.alloc (.cells #[pP l.g.bp, rowV l.pl l.ps.length] 87) := ⟨_, rfl⟩
            have hst2 : St base w0 w2 (rowH r 51 (out.flatMap chC) ++ (fbH F ++ L)) := by rw [hw2]; exact hst.junk _
            have hgc := gp_cells l.g hst2 (fun p hp => List.mem_append_right _ (lane_mem HC.out (List.mem_of_getElem? hl) p hp))
            have hpn := Pending_calls l.g hgc
            rw [hg2] at hpn
            have HPN := Lib.hid hpn
            have HW2 := Lib.hid hw2
            have HOUT := Lib.hid hout
            have HST := Lib.hid hst2
            have HR0 := Lib.hid hr
            clear hout hst hst2 hr hl hdrop he hb2 hgs hgc hpn hw2 g0
            go_wp2_with fail
            rw [← HW2.out]
            (refine Calls.mono HPN.out ?_; intro e w' hh; rw [hh.1, hh.2]; clear hh w' e)
            go_wp2
            go_roundw
            case rel => ((repeat apply Exists.intro (α := Value)); (first | refine ⟨?_, rfl⟩ | skip); (all_goals first | exact undef | skip)); exact ⟨m + 1, r, out, by omega, by go_num, rfl, HOUT.out, HR0.out, HST.out⟩
            case measure => simp [intOf]; omega
          · have he : l.pure.p.vs.isEmpty = false := by simp [LN.pure, GP.pure, hgs]
            rw [if_neg (by rw [he]; simp)] at hout
            have hg2 : 0 < l.g.gs.length := List.length_pos_iff.2 hgs
            have hg3 : (0 : Int) < (l.g.gs.length : Int) := by omega
            have hol : out.length ≤ 60 := by
              have := congrArg List.length hout
              simp only [List.length_append] at this
              omega
            obtain ⟨w2, hw2⟩ : ∃ W, W = wr.alloc (.cells #[pP l.g.bp, rowV l.pl l.ps.length] 87) := ⟨_, rfl⟩
            have hst2 : St base w0 w2 (rowH r 51 (out.flatMap chC) ++ (fbH F ++ L)) := by rw [hw2]; exact hst.junk _
            have hgc := gp_cells l.g hst2 (fun p hp => List.mem_append_right _ (lane_mem HC.out (List.mem_of_getElem? hl) p hp))
            have hpn := Pending_calls l.g hgc
            have HPN := Lib.hid hpn
            have HW2 := Lib.hid hw2
            have HOUT := Lib.hid hout
            have HST := Lib.hid hst2
            have HR0 := Lib.hid hr
            clear hout hst hst2 hr hl hdrop he hb2 hgs hgc hpn hw2 g0
            go_wp2_with fail
            rw [← HW2.out]
            (refine Calls.mono HPN.out ?_; intro e w' hh; rw [hh.1, hh.2]; clear hh w' e)
            go_wp2_with (at_builtin; refine wp_appendN elem_ch rfl _ _ rfl r out.length _ rfl HR0.out HST.out #[.int .i64 (-1), .int .i64 n, .int .i64 m] rfl rfl (by simp [Value.oneCell']) (by omega) ?_)
            intro r' w4 hr' h4 _ _
            have e1 : out.flatMap chC ++ #[Value.int .i64 (-1), .int .i64 n, .int .i64 m].toList = (out ++ [((-1 : Int), (n : Int), (m : Int))]).flatMap chC := by simp [List.flatMap_append]
            simp only [e1] at hr' h4
            have H4 := Lib.hid h4
            have HR' := Lib.hid hr'
            clear h4 hr' e1 HST
            go_wp2
            go_roundw
            case rel =>
              ((repeat apply Exists.intro (α := Value)); (first | refine ⟨?_, rfl⟩ | skip); (all_goals first | exact undef | skip))
              refine ⟨m + 1, r', out ++ [((-1 : Int), (n : Int), (m : Int))], by omega, by go_num, by simp [rowV], ?_, by simpa using HR'.out, H4.out.ac (fun y => by simp only [fbH, fbR, cnt_append, cnt_cons]; omega)⟩
              rw [← HOUT.out]; simp
            case measure => simp [intOf]; omega
        · obtain rfl : m = C.ls.length := by omega
          have hz : chL n C.ls.length (C.pure.ls.drop C.ls.length) = [] := by
            rw [List.drop_eq_nil_of_le (by simp [CP.pure])]; rfl
          rw [hz, List.nil_append] at hout
          have HOUT := Lib.hid hout
          have HST := Lib.hid hst
          have HR0 := Lib.hid hr
          clear hout hst hr hz
          go_wp2
          go_roundw
          case rel => ((repeat apply Exists.intro (α := Value)); (first | refine ⟨?_, rfl⟩ | skip); (all_goals first | exact undef | skip)); exact ⟨n + 1, r, out, by omega, by go_num, rfl, HOUT.out, HR0.out, HST.out⟩
          case measure => simp [intOf]; omega
    · obtain rfl : n = F.cs.length := by omega
      have hz : chCs F.cs.length (F.pure.cs.drop F.cs.length) = [] := by
        rw [List.drop_eq_nil_of_le (by simp [FB.pure])]; rfl
      rw [hz, List.nil_append] at hout
      have c1 := HFC.out wr (rowH r 51 (out.flatMap chC) ++ L) (hst.ac (fun y => by simp only [cnt_append, cnt_cons, cnt_nil]; omega))
      have HOUT := Lib.hid hout
      have HST := Lib.hid hst
      have HR0 := Lib.hid hr
      clear hout hst hr hz
      obtain ⟨ao, hao⟩ : ∃ ao, rowA F.orr = ao := ⟨_, rfl⟩
      rw [show rowV F.orr F.os.length = .slice ao F.os.length (F.os.length + F.orr.k) by rw [← hao]] at c1
      have HAO := Lib.hid hao
      clear hao
      have horl : F.os.length ≤ 30 := by have := HF.out.olen; omega
      go_wp2_with fail
      clear c1
      go_loopw [3, 45] (fun o i wr => ∃ (m : Nat) (r : Rw) (out : List Ch), m ≤ F.os.length ∧ i = .int .i64 m ∧ o = rowV r out.length ∧ out ++ chO m (F.pure.os.drop m) = tot ∧ RowOk r 3 out.length (out.flatMap chC) ∧ St base w0 wr (rowH r 51 (out.flatMap chC) ++ (fbH F ++ L)))
        (fun o i _ => F.os.length - (intOf i).toNat)
      case atStart => exact ⟨0, r, out, Nat.zero_le _, rfl, rfl, HOUT.out, HR0.out, HST.out⟩
      case round =>
        clear HOUT HST HR0
        obtain ⟨m, r, out, hm, rfl, rfl, hout, hr, hst⟩ := hrel
        by_cases hlt2 : m < F.os.length
        · obtain ⟨g, hg⟩ : ∃ x, F.os[m]? = some x := ⟨F.os[m], by simp [hlt2]⟩
          obtain ⟨b2, hb2⟩ := HF.out.orr.pos (by omega)
          have hra : ao = some ⟨b2, 0, none⟩ := by rw [← HAO.out]; simp [rowA, hb2]
          subst hra
          have l0 := hst.recCell (enc := orC) (s := 1) (fun _ => rfl) hb2 (fun p hp => List.mem_append_right _ (ors_mem p hp)) hg 0 (by decide)
          simp only [Nat.add_zero, List.getElem?_cons_zero, Nat.mul_one] at l0
          have hgc := gp_cells g hst (fun p hp => List.mem_append_right _ (or_mem (List.mem_of_getElem? hg) p hp))
          have hc1 := Client_calls g hgc
          have hc2 := PairNode_calls g hgc
          have hdrop : F.pure.os.drop m = g.pure :: F.pure.os.drop (m + 1) := by
            have : F.pure.os[m]? = some g.pure := by simp [FB.pure, hg]
            rw [List.drop_eq_getElem_cons (List.getElem?_eq_some_iff.1 this).1, (List.getElem?_eq_some_iff.1 this).2]
          rw [hdrop, chO] at hout
          have hol : out.length ≤ 60 := by
            have := congrArg List.length hout
            simp only [List.length_append] at this
            omega
          have hltI : (m : Int) < (F.os.length : Int) := by omega
          have HC1 := Lib.hid hc1
          have HC2 := Lib.hid hc2
          have HOUT := Lib.hid hout
          have HST := Lib.hid hst
          have HR0 := Lib.hid hr
          clear hout hst hr hg hdrop hb2 hgc hc1 hc2
          go_wp2_with (first | (go_at_call 37; (refine Calls.mono HC1.out ?_; intro e w' hh; rw [hh.1, hh.2]; clear hh w' e)) | (go_at_call 38; (refine Calls.mono HC2.out ?_; intro e w' hh; rw [hh.1, hh.2]; clear hh w' e)) | (at_builtin; refine wp_appendN elem_ch rfl _ _ rfl r out.length _ rfl HR0.out HST.out #[.int .i64 m, .int .i64 g.cl, .int .i64 g.nd] rfl rfl (by simp [Value.oneCell']) (by omega) ?_))
          intro r' w4 hr' h4 _ _
          have e1 : out.flatMap chC ++ #[Value.int .i64 m, .int .i64 g.cl, .int .i64 g.nd].toList = (out ++ [((m : Int), g.cl, g.nd)]).flatMap chC := by simp [List.flatMap_append]
          simp only [e1] at hr' h4
          have H4 := Lib.hid h4
          have HR' := Lib.hid hr'
          clear h4 hr' e1 HST
          go_wp2
          go_roundw
          case rel =>
            ((repeat apply Exists.intro (α := Value)); (first | refine ⟨?_, rfl⟩ | skip); (all_goals first | exact undef | skip))
            refine ⟨m + 1, r', out ++ [((m : Int), g.cl, g.nd)], by omega, by go_num, by simp [rowV], ?_, by simpa using HR'.out, H4.out.ac (fun y => by simp only [fbH, fbR, cnt_append, cnt_cons]; omega)⟩
            rw [← HOUT.out]; simp [GP.pure]
          case measure => simp [intOf]; omega
        · obtain rfl : m = F.os.length := by omega
          have hz : chO F.os.length (F.pure.os.drop F.os.length) = [] := by
            rw [List.drop_eq_nil_of_le (by simp [FB.pure])]; rfl
          rw [hz, List.append_nil] at hout
          subst hout
          have h9 := HR.out r wr hr hst
          have H9 := Lib.hid h9
          clear hst hr hz h9
          go_wp2
          exact H9.out
end Go.Proofs.YtaojipegpjolcaaGreat
set_option linter.unusedVariables false
set_option linter.unusedSimpArgs false
namespace Go.Proofs.YtaojipegpjolcaaGreat
open Go.RowKit Go.Sort Go.Proofs.BodegaHeap
variable {base : Nat} {w0 w : World} {L : List Blk}

def pDone (p : PP) : PP := { p with vs := p.vs.tail, ex := 0, ws := [] }
def pStepPair (p : PP) (N : Nd) : PP × Nd × Option Dn :=
  match p.vs with
  | [] => (p, N, none)
  | v :: _ =>
    if ndRefuses N v p.cl p.inc ≠ 0 then (pDone p, N, some ⟨ndRefuses N v p.cl p.inc, []⟩)
    else
      match (vPieces v)[p.ex.toNat]? with
      | none => (p, N, none)
      | some (pa, pn) =>
        if p.ex.toNat + 1 < (vPieces v).length then ({ p with ex := p.ex + 1, ws := p.ws ++ (ndExec N v pa pn).2 }, (ndExec N v pa pn).1, none)
        else (pDone p, (ndExec N v pa pn).1, some ⟨0, p.ws ++ (ndExec N v pa pn).2⟩)

theorem ndExec_words (N : Nd) (v : Vb) (pa pn : Int) (h0 : 0 ≤ pa) (h1 : 0 ≤ pn) (h2 : pa + pn ≤ N.words.length) : (ndExec N v pa pn).1.words.length = N.words.length := by
  unfold ndExec
  split
  · rfl
  · split
    · apply wOver_length
      have : ((v.words.drop (pa - v.at_).toNat).take pn.toNat).length ≤ pn.toNat := by simp; omega
      omega
    · simp only; split <;> simp

abbrev odC : Option DV → List Value
  | none => [.int .i64 0, .slice none 0 0]
  | some d => dnC d
abbrev odH : Option DV → List Blk
  | none => []
  | some d => dnH d

set_option maxHeartbeats 800000 in
theorem Step_pair (g : GP) (lines : Int) (nodes : Nat) (hg : PrOk lines nodes g) (hne : g.gs ≠ []) (bn bw : Nat) (N : Nd) (hl : (N.words.length : Int) = 8 * lines) (hl2 : 6 ≤ lines)
    (h : St base w0 w (gpH g ++ (ndH bn bw N ++ L))) (R : Ending → World → Prop)
    (hR : ∀ (g' : GP) (N' : Nd) (od : Option DV) w', g'.bp = g.bp → PrOk lines nodes g' → pStepPair g.pure N = (g'.pure, N', od.map (·.1)) → N'.words.length = N.words.length → (∀ d, od = some d → DvOk d) →
      g'.gs.length = (if od.isSome then g.gs.length - 1 else g.gs.length) →
      St base w0 w' (gpH g' ++ (odH od ++ (ndH bn bw N' ++ L))) → R (.returned (.tuple #[.agg (odC od).toArray, .bool od.isSome])) w') :
    Calls Tryz.prog 41 #[pP g.bp, nP bn] w R := by
  obtain ⟨x, rest, hgs⟩ : ∃ x rest, g.gs = x :: rest := by
    cases hx : g.gs with
    | nil => exact absurd hx hne
    | cons x rest => exact ⟨x, rest, rfl⟩
  obtain ⟨k, hk, hws, hkl, _⟩ := hg.ex
  have hkl := hkl x rest hgs
  obtain ⟨hv, hnd, hb0, hb1⟩ := hg.gs x (by rw [hgs]; exact List.mem_cons_self)
  obtain ⟨⟨pa, pn⟩, hp⟩ : ∃ q, (vPieces x.1)[k]? = some q := ⟨(vPieces x.1)[k], by simp [hkl]⟩
  have hp2 := pcs_mem _ _ _ _ hv.ok.at0 (List.mem_of_getElem? hp)
  have hpl : (vPieces x.1).length ≤ 2000 := pcs_len _ _ _
  have hl5 := hv.ok.l2
  have hfit := hv.ok.fits
  have hat0 := hv.ok.at0
  simp only at hp2
  have hxl := ndExec_len N x.1 pa pn
  have hnw := ndExec_words N x.1 pa pn (by omega) (by omega) (by omega)
  have hflat : g.gs.flatMap gvH = gvH x ++ rest.flatMap gvH := by rw [hgs]; rfl
  have hpure : g.pure.vs = x.1 :: rest.map (·.1) := by simp [GP.pure, hgs]
  have hkk : g.pure.ex.toNat = k := by simp [GP.pure, hk]
  have hdone : ∀ rv', RowOk rv' 9 rest.length (rest.flatMap gvC) → PrOk lines nodes { g with rv := rv', gs := rest, ex := 0, rw_ := nilRw, ws := [] } := fun rv' hrv =>
    ⟨hrv, nilRw_ok 1, fun y hy => hg.gs y (by rw [hgs]; exact List.mem_cons_of_mem _ hy), by have := hg.len; rw [hgs] at this; simp only [List.length_cons] at this; simp only; omega,
      ⟨0, rfl, by simp, fun y tl e => by
        have hy := (hg.gs y (by rw [hgs]; simp only at e; rw [e]; exact List.mem_cons_of_mem _ List.mem_cons_self)).1
        have := pcs_step 2000 y.1.at_ (vCount y.1) (by have := hy.ok.c0; omega) (by have := hy.ok.c1; omega)
        unfold vPieces; rw [this]; simp, fun _ => rfl⟩, hg.cl0, hg.cl1, hg.inc0, hg.inc1, hg.nd0, hg.nd1⟩
  have hpd : ∀ rv', GP.pure { g with rv := rv', gs := rest, ex := 0, rw_ := nilRw, ws := [] } = pDone g.pure := fun rv' => by simp [GP.pure, pDone, hgs]
  refine Step_calls g x rest hgs (by have := hg.len; omega) hg.rv hg.rw_ (by omega) lines hv hg.cl0 hg.cl1 hg.inc0 hg.inc1 hb0 hb1 bn bw N hl hl2 k hk pa pn hp (L := g.gs.flatMap gvH ++ L) (h.ac (fun y => by simp only [gpH, cnt_append, cnt_cons, cnt_nil]; omega))
    (fun p hp => by rw [hflat]; exact List.mem_append_left _ (List.mem_append_left _ hp)) R ?_ ?_ ?_
  · intro he rv' w' hrv hst
    refine hR { g with rv := rv', gs := rest, ex := 0, rw_ := nilRw, ws := [] } N (some (⟨ndRefuses N x.1 g.cl g.inc, []⟩, nilRw)) w' rfl (hdone rv' hrv) ?_ rfl (fun d hd => by cases hd; exact nilRw_ok 1) (by simp [hgs]) ?_
    · have : ndRefuses N x.1 g.pure.cl g.pure.inc ≠ 0 := he
      rw [hpd]
      unfold pStepPair
      rw [hpure]
      simp only
      rw [if_pos this]
      rfl
    · rw [hflat] at hst
      exact St.drop (L := gvH x) (hst.ac (fun y => by simp only [gpH, odH, dnH, rowH_nil, cnt_append, cnt_cons, cnt_nil]; omega))
  · intro he hlt r w' hr hst
    refine hR { g with ex := k + 1, rw_ := r, ws := g.ws ++ (ndExec N x.1 pa pn).2 } (ndExec N x.1 pa pn).1 none w' rfl ?_ ?_ hnw (fun d hd => by cases hd) (by simp) ?_
    · refine ⟨hg.rv, by simp only [List.length_append]; exact hr, hg.gs, hg.len, ⟨k + 1, by simp, by simp only [List.length_append]; omega, fun y tl e => ?_, fun e => absurd e hne⟩, hg.cl0, hg.cl1, hg.inc0, hg.inc1, hg.nd0, hg.nd1⟩
      simp only at e
      rw [hgs] at e
      cases e
      exact hlt
    · have : ¬ ndRefuses N x.1 g.pure.cl g.pure.inc ≠ 0 := fun h => h he
      unfold pStepPair
      rw [hpure]
      simp only
      rw [if_neg this, hkk, hp]
      simp only
      rw [if_pos hlt]
      simp [GP.pure, hk, hgs]
    · exact hst.ac (fun y => by simp only [gpH, odH, cnt_append, cnt_cons, cnt_nil]; omega)
  · intro he hlt r rv' w' hr hrv hst
    refine hR { g with rv := rv', gs := rest, ex := 0, rw_ := nilRw, ws := [] } (ndExec N x.1 pa pn).1 (some (⟨0, g.ws ++ (ndExec N x.1 pa pn).2⟩, r)) w' rfl (hdone rv' hrv) ?_ hnw (fun d hd => by cases hd; simp only [DvOk, List.length_append]; exact hr) (by simp [hgs]) ?_ |> fun h => by
        have e : (odC (some (⟨0, g.ws ++ (ndExec N x.1 pa pn).2⟩, r))).toArray = dCells ⟨0, g.ws ++ (ndExec N x.1 pa pn).2⟩ (rowA r) (g.ws.length + (ndExec N x.1 pa pn).2.length + r.k) := by simp [odC, dnC, rowV, dCells]
        rw [e] at h
        exact h
    · have : ¬ ndRefuses N x.1 g.pure.cl g.pure.inc ≠ 0 := fun h => h he
      rw [hpd]
      unfold pStepPair
      rw [hpure]
      simp only
      rw [if_neg this, hkk, hp]
      simp only
      rw [if_neg hlt]
      rfl
    · rw [hflat] at hst
      exact St.drop (L := gvH x) (hst.ac (fun y => by simp only [gpH, odH, dnH, rowH_nil, cnt_append, cnt_cons, cnt_nil]; omega))
end Go.Proofs.YtaojipegpjolcaaGreat
set_option linter.unusedVariables false
set_option linter.unusedSimpArgs false
namespace Go.Proofs.YtaojipegpjolcaaGreat
open Go.RowKit Go.Sort Go.Proofs.BodegaHeap
variable {base : Nat} {w0 w : World} {L : List Blk}

/-- All of a fabric but lane j of client i and node j. -/
abbrev fbY (F : FB) (C : CP) (i j : Nat) : List Blk :=
  rowH F.nr 45 (F.ns.flatMap nodeC) ++ ((F.ns.eraseIdx j).flatMap nodeH ++ ((F.cs.eraseIdx i).flatMap cpH ++ (rowH F.orr 85 (F.os.flatMap orC) ++ (F.os.flatMap gpH ++ ((C.ls.eraseIdx j).flatMap lnH)))))
theorem fb_open2 {F : FB} {i j : Nat} {C : CP} {l : LN} {x : ND} (hi : F.cs[i]? = some C) (hj : C.ls[j]? = some l) (hx : F.ns[j]? = some x) (h : St base w0 w (fbH F ++ L)) :
    St base w0 w (gpH l.g ++ (ndH x.bn x.bw x.N ++ (rowH l.pl 3 (ints l.ps) ++ ((F.fb, .cells (fbCells F) 76 (0, 0)) :: (rowH F.cr 84 (F.cs.flatMap cpC) ++ (rowH C.lr 87 (C.ls.flatMap lnC) ++ (rowH C.br 94 (C.ds.flatMap dnC) ++ (C.ds.flatMap dnH ++ (fbY F C i j ++ L))))))))) := by
  refine h.ac (fun y => ?_)
  have e1 := cnt_flat_get cpH y F.cs i C hi
  have e2 := cnt_flat_get lnH y C.ls j l hj
  have e3 := cnt_flat_get nodeH y F.ns j x hx
  have e4 : cnt y (ndH x.bn x.bw x.N) = cnt y (nodeH x) := rfl
  simp only [fbH, fbR, fbY, cpH, lnH, gpH, cnt_append, cnt_cons, cnt_nil] at *
  omega

theorem flatMap_set_same {α β : Type} (f : α → List β) (xs : List α) (k : Nat) (a b : α) (ha : xs[k]? = some a) (hf : f b = f a) : (xs.set k b).flatMap f = xs.flatMap f := by
  induction xs generalizing k with
  | nil => rfl
  | cons x tl ih =>
    cases k with
    | zero => simp at ha; subst ha; simp [hf]
    | succ k => simp at ha; simp [ih k ha]

/-- Behind a step of lane j of client i. -/
def FB.stepped (F : FB) (i j : Nat) (C' : CP) (x : ND) (N' : Nd) : FB := { F with ns := F.ns.set j { x with N := N' }, cs := F.cs.set i C' }

theorem fb_close2 {F : FB} {i j : Nat} {C C' : CP} {l l' : LN} {x : ND} {N' : Nd} (hi : F.cs[i]? = some C) (hj : C.ls[j]? = some l) (hx : F.ns[j]? = some x) (hls : C'.ls = C.ls.set j l')
    (h : St base w0 w (gpH l'.g ++ (ndH x.bn x.bw N' ++ (rowH l'.pl 3 (ints l'.ps) ++ ((F.fb, .cells (fbCells F) 76 (0, 0)) :: (rowH F.cr 84 ((F.cs.set i C').flatMap cpC) ++ (rowH C'.lr 87 (C'.ls.flatMap lnC) ++ (rowH C'.br 94 (C'.ds.flatMap dnC) ++ (C'.ds.flatMap dnH ++ (fbY F C i j ++ L)))))))))) :
    St base w0 w (fbH (F.stepped i j C' x N') ++ L) := by
  have hil : i < F.cs.length := (List.getElem?_eq_some_iff.1 hi).1
  have hjl : j < C.ls.length := (List.getElem?_eq_some_iff.1 hj).1
  have hxl : j < F.ns.length := (List.getElem?_eq_some_iff.1 hx).1
  have hc : fbCells (F.stepped i j C' x N') = fbCells F := by simp [fbCells, FB.stepped]
  have hn : (F.ns.set j { x with N := N' }).flatMap nodeC = F.ns.flatMap nodeC := flatMap_set_same nodeC F.ns j x _ hx rfl
  refine h.ac (fun y => ?_)
  have e1 := cnt_flat_set cpH y F.cs i C' hil
  have e2 := cnt_flat_set lnH y C.ls j l' hjl
  rw [← hls] at e2
  have e3 := cnt_flat_set nodeH y F.ns j { x with N := N' } hxl
  have e4 : cnt y (ndH x.bn x.bw N') = cnt y (nodeH { x with N := N' }) := rfl
  have e5 : fbH (F.stepped i j C' x N') = (F.fb, .cells (fbCells F) 76 (0, 0)) :: (rowH F.nr 45 (F.ns.flatMap nodeC) ++ ((F.ns.set j { x with N := N' }).flatMap nodeH ++ (rowH F.cr 84 ((F.cs.set i C').flatMap cpC) ++ ((F.cs.set i C').flatMap cpH ++ (rowH F.orr 85 (F.os.flatMap orC) ++ F.os.flatMap gpH))))) := by
    simp only [fbH, fbR, hc]
    simp only [FB.stepped, hn]
  rw [e5]
  simp only [fbY, cpH, lnH, gpH, cnt_append, cnt_cons, cnt_nil] at *
  omega

theorem pStepPair_keeps {p p' : PP} {N N' : Nd} {od : Option Dn} (h : pStepPair p N = (p', N', od)) : p'.cl = p.cl ∧ p'.inc = p.inc ∧ p'.nd = p.nd := by
  unfold pStepPair at h
  split at h
  · cases h; exact ⟨rfl, rfl, rfl⟩
  · split at h
    · cases h; exact ⟨rfl, rfl, rfl⟩
    · split at h
      · cases h; exact ⟨rfl, rfl, rfl⟩
      · split at h
        · cases h; exact ⟨rfl, rfl, rfl⟩
        · cases h; exact ⟨rfl, rfl, rfl⟩

theorem sum_set (xs : List LN) (j : Nat) (l l' : LN) (h : xs[j]? = some l) : ((xs.set j l').map (fun l => l.ps.length)).sum + l.ps.length = (xs.map (fun l => l.ps.length)).sum + l'.ps.length := by
  induction xs generalizing j with
  | nil => simp at h
  | cons x tl ih =>
    cases j with
    | zero => simp at h; subst h; simp; omega
    | succ j => simp at h; have := ih j h; simp only [List.set_cons_succ, List.map_cons, List.sum_cons]; omega

theorem FbOk.setNd {F : FB} (hF : FbOk F) {j : Nat} {x : ND} {N' : Nd} (hx : F.ns[j]? = some x) (hN : N'.words.length = x.N.words.length) : FbOk { F with ns := F.ns.set j { x with N := N' } } where
  l0 := hF.l0
  l1 := hF.l1
  n0 := by simp only [List.length_set]; exact hF.n0
  n1 := by simp only [List.length_set]; exact hF.n1
  c0 := hF.c0
  c1 := hF.c1
  nodes := by
    intro n hn
    obtain ⟨k, hk⟩ := List.getElem?_of_mem hn
    by_cases hkj : k = j
    · subst hkj
      rw [List.getElem?_set_self (List.getElem?_eq_some_iff.1 hx).1] at hk
      cases hk
      simp only [hN]; exact hF.nodes x (List.mem_of_getElem? hx)
    · rw [List.getElem?_set_ne (Ne.symm hkj)] at hk
      exact hF.nodes n (List.mem_of_getElem? hk)
  nr := by
    have e : (F.ns.set j { x with N := N' }).flatMap nodeC = F.ns.flatMap nodeC := flatMap_set_same nodeC F.ns j x _ hx rfl
    simp only [List.length_set, e]; exact hF.nr
  cr := hF.cr
  cs := by simp only [List.length_set]; exact hF.cs
  orr := hF.orr
  os := by simp only [List.length_set]; exact hF.os
  olen := hF.olen
theorem setNd_setCp {F : FB} (hF : FbOk F) {i j : Nat} {C C' : CP} {x : ND} {N' : Nd} (hi : F.cs[i]? = some C) (hx : F.ns[j]? = some x) (hN : N'.words.length = x.N.words.length) (hC : CpOk F.lines F.ns.length i C') (ha : C'.alive = C.alive) : FbOk (F.stepped i j C' x N') := by
  have h := (hF.setNd hx hN).setCp (k := i) (C := C) (C' := C') hi (by simp only [List.length_set]; exact hC) ha
  exact h

/-- A lane with another pair (of the same numbers) and as many places. -/
theorem CpOk.setLane {lines : Int} {nodes k j : Nat} {C C' : CP} {l l' : LN} (h : CpOk lines nodes k C) (hj : C.ls[j]? = some l) (ha : C'.alive = C.alive) (hinc : C'.inc = C.inc) (hlr : C'.lr = C.lr) (hls : C'.ls = C.ls.set j l')
    (hbr : C'.br = C.br) (hds : C'.ds.length = C.ds.length) (hdo : ∀ d ∈ C'.ds, DvOk d) (hw : C'.waiting + l.ps.length = C.waiting + l'.ps.length) (hw2 : C'.waiting ≤ C'.ds.length) (hl : LnOk lines nodes k C.inc C.ds.length j l') : CpOk lines nodes k C' where
  lr := by
    have e : (C.ls.set j l').length = C.ls.length := by simp
    rw [hlr, hls, e]
    exact RowOk.setRec (enc := lnC) (s := 2) (fun _ => rfl) h.lr j l'
  ls := by
    intro i m hm
    rw [hinc, hds]
    rw [hls] at hm
    by_cases hi : i = j
    · subst hi
      rw [List.getElem?_set_self (List.getElem?_eq_some_iff.1 hj).1] at hm
      cases hm
      exact hl
    · rw [List.getElem?_set_ne (Ne.symm hi)] at hm
      exact h.ls i m hm
  br := by
    rw [hbr, hds]
    refine ⟨?_, h.br.nil, h.br.sp, h.br.le⟩
    rw [flat_length dnC 2 (fun _ => rfl), hds]; omega
  ds := hdo
  dlen := by rw [hds]; exact h.dlen
  nil := by
    intro e
    rw [hbr]
    refine h.nil (List.eq_nil_of_length_eq_zero ?_)
    rw [← hds, e]; rfl
  up := by intro e; rw [hls, List.length_set]; exact h.up (by rw [← ha]; exact e)
  down := by
    intro e
    have hd := h.down (by rw [← ha]; exact e)
    rw [hd.1] at hj
    simp at hj
  wait := by
    have e := sum_set C.ls j l l' hj
    have := h.wait
    rw [hls]
    omega
  wlt := hw2

theorem LnOk.step {lines : Int} {nodes c : Nat} {inc : Int} {nds j : Nat} {l : LN} (h : LnOk lines nodes c inc nds j l) {g' : GP} {N N' : Nd} {od : Option Dn} (hp : PrOk lines nodes g') (hps : pStepPair l.g.pure N = (g'.pure, N', od)) {pl : Rw} {ps : List Int}
    (hpl : RowOk pl 1 ps.length (ints ps)) (hlen : ps.length = g'.gs.length) (hsub : ∀ p ∈ ps, p ∈ l.ps) : LnOk lines nodes c inc nds j ⟨g', pl, ps⟩ := by
  obtain ⟨k1, k2, k3⟩ := pStepPair_keeps hps
  exact ⟨hp, by have := h.cl; simp only [GP.pure] at k1; simp only; omega, by have := h.inc; simp only [GP.pure] at k2; simp only; omega, by have := h.nd; simp only [GP.pure] at k3; simp only; omega, hpl, hlen, fun p hp => h.lt p (hsub p hp)⟩

/-- One piece of a live pair. -/
def pStepLive (P : PF) (i j : Nat) : PF :=
  match P.cs[i]?, P.ns[j]? with
  | some c, some N =>
    match c.ls[j]? with
    | some l =>
      match pStepPair l.p N with
      | (p', N', none) => { P with ns := P.ns.set j N', cs := P.cs.set i { c with ls := c.ls.set j { l with p := p' } } }
      | (p', N', some d) => { P with ns := P.ns.set j N', cs := P.cs.set i { c with ls := c.ls.set j ⟨p', l.ps.tail⟩, ds := c.ds.set (l.ps.headD 0).toNat d, waiting := c.waiting - 1 } }
    | none => P
  | _, _ => P

theorem stepped_pure {F : FB} {i j : Nat} {C' : CP} {x : ND} {N' : Nd} : (F.stepped i j C' x N').pure = { F.pure with ns := F.pure.ns.set j N', cs := F.pure.cs.set i C'.pure } := by
  simp only [FB.pure, FB.stepped, List.map_set]
theorem pStepLive_none {F : FB} {i j : Nat} {C : CP} {l : LN} {x : ND} (hi : F.cs[i]? = some C) (hj : C.ls[j]? = some l) (hx : F.ns[j]? = some x) {g' : GP} {N' : Nd} (hps : pStepPair l.g.pure x.N = (g'.pure, N', none)) :
    (F.stepped i j { C with ls := C.ls.set j ⟨g', l.pl, l.ps⟩ } x N').pure = pStepLive F.pure i j := by
  have e1 : F.pure.cs[i]? = some C.pure := by simp [FB.pure, hi]
  have e2 : F.pure.ns[j]? = some x.N := by simp [FB.pure, hx]
  have e3 : C.pure.ls[j]? = some l.pure := by simp [CP.pure, hj]
  have e4 : l.pure.p = l.g.pure := rfl
  rw [stepped_pure]
  unfold pStepLive
  rw [e1, e2]
  simp only
  rw [e3]
  simp only
  rw [e4, hps]
  simp [CP.pure, List.map_set, LN.pure]
theorem pStepLive_some {F : FB} {i j : Nat} {C : CP} {l : LN} {x : ND} (hi : F.cs[i]? = some C) (hj : C.ls[j]? = some l) (hx : F.ns[j]? = some x) {g' : GP} {N' : Nd} {d : DV} (hps : pStepPair l.g.pure x.N = (g'.pure, N', some d.1)) {k : Int} {ps : List Int} (hp : l.ps = k :: ps) (pl : Rw) :
    (F.stepped i j { C with ls := C.ls.set j ⟨g', pl, ps⟩, ds := C.ds.set k.toNat d, waiting := C.waiting - 1 } x N').pure = pStepLive F.pure i j := by
  have e1 : F.pure.cs[i]? = some C.pure := by simp [FB.pure, hi]
  have e2 : F.pure.ns[j]? = some x.N := by simp [FB.pure, hx]
  have e3 : C.pure.ls[j]? = some l.pure := by simp [CP.pure, hj]
  have e4 : l.pure.p = l.g.pure := rfl
  rw [stepped_pure]
  unfold pStepLive
  rw [e1, e2]
  simp only
  rw [e3]
  simp only
  rw [e4, hps]
  simp [CP.pure, List.map_set, LN.pure, hp]
end Go.Proofs.YtaojipegpjolcaaGreat
