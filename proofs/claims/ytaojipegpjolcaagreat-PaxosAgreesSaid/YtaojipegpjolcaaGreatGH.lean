/- Replies in memory; verb.Fit, talk.Word. Package talk: a conversation in memory. Package paxos: the small functions. talk.Batch in one contract; paxos: value, the second swap's function. paxos: proposer.read. -/
import Derived.Test.YtaojipegpjolcaaGreatGF
set_option linter.unusedVariables false
set_option linter.unusedSimpArgs false
namespace Go.Proofs.YtaojipegpjolcaaGreat
open Go.RowKit Go.Sort Go.Proofs.BodegaHeap
variable {base : Nat} {w0 w : World} {L : List Blk}

def fitB (vs : List Vb) (ds : List Dn) : Bool := decide (vs.length = ds.length) && (List.zipWith dFits vs ds).all id
/-- Replies of one batch, and where they lie. -/
structure GT where
  r : Rw
  ds : List DV
abbrev gtC (g : GT) : List Value := [rowV g.r g.ds.length]
abbrev gtH (g : GT) : List Blk := rowH g.r 94 (g.ds.flatMap dnC) ++ g.ds.flatMap dnH
structure GtOk (g : GT) : Prop where
  r : RowOk g.r 2 g.ds.length (g.ds.flatMap dnC)
  len : g.ds.length ≤ 1000
  ds : ∀ d ∈ g.ds, DvOk d
abbrev GT.pure (g : GT) : List Dn := g.ds.map (·.1)
theorem gt_cell {g : GT} {b : Nat} (hb : g.r.blk = some b) (hm : ∀ p, p ∈ gtH g → p ∈ L) (h : St base w0 w L) {k : Nat} {d : DV} (hd : g.ds[k]? = some d) (j : Nat) (hj : j < 2) : w.cell? ⟨b, k * 2 + j, none⟩ = (dnC d)[j]? :=
  h.recCell (enc := dnC) (s := 2) (fun _ => rfl) hb (fun p hp => hm p (List.mem_append_left _ hp)) hd j hj
theorem gt_words {g : GT} (hm : ∀ p, p ∈ gtH g → p ∈ L) {d : DV} (hd : d ∈ g.ds) : ∀ p, p ∈ dnH d → p ∈ L :=
  fun p hp => hm p (List.mem_append_right _ (List.mem_flatMap.2 ⟨d, hd, hp⟩))

theorem fitB_bad {vs : List Vb} {ds : List Dn} {k : Nat} {v : Vb} {d : Dn} (hv : vs[k]? = some v) (hd : ds[k]? = some d) (h : dFits v d = false) : fitB vs ds = false := by
  unfold fitB
  rw [Bool.and_eq_false_iff]
  right
  rw [List.all_eq_false]
  refine ⟨dFits v d, ?_, by simp [h]⟩
  refine List.mem_of_getElem? (i := k) ?_
  rw [List.getElem?_zipWith, hv, hd]
theorem fitB_len {vs : List Vb} {ds : List Dn} (h : vs.length ≠ ds.length) : fitB vs ds = false := by simp [fitB, h]
theorem fitB_good {vs : List Vb} {ds : List Dn} (hl : vs.length = ds.length) (h : ∀ (k : Nat) v d, k < vs.length → vs[k]? = some v → ds[k]? = some d → dFits v d = true) : fitB vs ds = true := by
  unfold fitB
  rw [Bool.and_eq_true]
  refine ⟨by simpa using hl, ?_⟩
  rw [List.all_eq_true]
  intro x hx
  obtain ⟨k, hk⟩ := List.getElem?_of_mem hx
  rw [List.getElem?_zipWith] at hk
  cases hv : vs[k]? with
  | none => rw [hv] at hk; simp at hk
  | some v =>
    cases hd : ds[k]? with
    | none => rw [hv, hd] at hk; simp at hk
    | some d =>
      rw [hv, hd] at hk
      simp only [Option.some.injEq] at hk
      rw [← hk]
      exact h k v d (List.getElem?_eq_some_iff.1 hv).1 hv hd

set_option maxRecDepth 100000 in
set_option maxHeartbeats 2000000 in
theorem Fit_calls (ra : Rw) (qs : List GV) (ha : RowOk ra 9 qs.length (qs.flatMap gvC)) (hal : qs.length ≤ 1000) (g : GT) (hg : GtOk g) (h : St base w0 w L) (hma : ∀ p, p ∈ batchH ra qs → p ∈ L) (hmg : ∀ p, p ∈ gtH g → p ∈ L) :
    Calls Tryz.prog 112 #[rowV ra qs.length, rowV g.r g.ds.length] w fun e w' => e = .returned (.bool (fitB (qs.map (·.1)) g.pure)) ∧ Below w.heap.size w w' := by
  obtain ⟨A, hA⟩ : ∃ A, rowA ra = A := ⟨_, rfl⟩
  obtain ⟨B, hB⟩ : ∃ B, rowA g.r = B := ⟨_, rfl⟩
  have eA : rowV ra qs.length = .slice A qs.length (qs.length + ra.k) := by rw [← hA]
  have eB : rowV g.r g.ds.length = .slice B g.ds.length (g.ds.length + g.r.k) := by rw [← hB]
  rw [eA, eB]
  have hgl := hg.len
  by_cases hne : qs.length = g.ds.length
  · have hneI : ((qs.length : Int) != (g.ds.length : Int)) = false := by rw [bne_eq_false_iff_eq]; omega
    have hwz : w.heap.size ≤ w.heap.size := Nat.le_refl _
    have HA := Lib.hid hA
    have HB := Lib.hid hB
    have HH := Lib.hid h
    have HRA := Lib.hid ha
    have HG := Lib.hid hg
    have HMA := Lib.hid hma
    have HMG := Lib.hid hmg
    have HNE := Lib.hid hne
    clear hA hB h ha hg hma hmg eA eB hne
    go_enter Tryz.func112, Tryz.ntmps112
    go_wp2_with fail
    go_loopw [14] (fun i wr => ∃ k : Nat, k ≤ qs.length ∧ i = .int .i64 k ∧ Below w.heap.size w wr ∧ (∀ (j : Nat) v d, j < k → (qs.map (·.1))[j]? = some v → g.pure[j]? = some d → dFits v d = true)) (fun i wr => qs.length - (intOf i).toNat)
    case atStart => exact ⟨0, Nat.zero_le _, rfl, Below.refl _ _, fun j v d hj => by omega⟩
    case round =>
      obtain ⟨k, hk, rfl, hb, hall⟩ := hrel
      by_cases hlt : k < qs.length
      · obtain ⟨x, hx⟩ : ∃ x, qs[k]? = some x := ⟨qs[k], by simp [hlt]⟩
        have hklt : k < g.ds.length := by have := HNE.out; omega
        obtain ⟨d, hd⟩ : ∃ d, g.ds[k]? = some d := ⟨g.ds[k], by simp [hklt]⟩
        obtain ⟨ba, hba⟩ := HRA.out.pos (by omega)
        obtain ⟨bg, hbg⟩ := HG.out.r.pos (by omega)
        obtain rfl : A = some ⟨ba, 0, none⟩ := by rw [← HA.out]; simp [rowA, hba]
        obtain rfl : B = some ⟨bg, 0, none⟩ := by rw [← HB.out]; simp [rowA, hbg]
        have hst := HH.out.grow hb
        have bc := fun (j : Nat) (hj : j < 9) => batch_cell hba HMA.out hst hx j hj
        have d0 := bc 0 (by decide)
        have d1 := bc 1 (by decide)
        have d2 := bc 2 (by decide)
        have d3 := bc 3 (by decide)
        have d4 := bc 4 (by decide)
        have d5 := bc 5 (by decide)
        have d6 := bc 6 (by decide)
        have d7 := bc 7 (by decide)
        have d8 := bc 8 (by decide)
        simp only [Nat.add_zero, List.getElem?_toArray, List.getElem?_cons_zero, List.getElem?_cons_succ] at d0 d1 d2 d3 d4 d5 d6 d7 d8
        obtain ⟨W, hW⟩ : ∃ W, W = wr.alloc (.cells (vCells x.1 (rowA x.2) (x.1.words.length + x.2.k)) 113) := ⟨_, rfl⟩
        have h1 : St base w0 W ((wr.heap.size, .cells (vCells x.1 (rowA x.2) (x.1.words.length + x.2.k)) 113 (0, 0)) :: L) := by rw [hW]; exact hst.alloc _
        have hbW : Below w.heap.size w W := by rw [hW]; exact hb.alloc hb.size _
        have hw : ∀ d os, St base w0 (grow (redrawn W d) os) ((wr.heap.size, .cells (vCells x.1 (rowA x.2) (x.1.words.length + x.2.k)) 113 (0, 0)) :: L) := fun d os => h1.grow (below_regrown W d os)
        have hcb : ∀ d os k, (grow (redrawn W d) os).cell? ⟨wr.heap.size, k, none⟩ = (vCells x.1 (rowA x.2) (x.1.words.length + x.2.k))[k]? := fun d os k => (hw d os).cells List.mem_cons_self k
        have hc0 : ∀ d' os, (grow (redrawn W d') os).cell? ⟨bg, k * 2, none⟩ = some (.int .i64 d.1.code) := fun d' os => gt_cell hbg (fun p hp => List.mem_cons_of_mem _ (HMG.out p hp)) (hw d' os) hd 0 (by decide)
        have hc1 : ∀ d' os, (grow (redrawn W d') os).cell? ⟨bg, k * 2 + 1, none⟩ = some (.slice (rowA d.2) d.1.words.length (d.1.words.length + d.2.k)) := fun d' os => gt_cell hbg (fun p hp => List.mem_cons_of_mem _ (HMG.out p hp)) (hw d' os) hd 1 (by decide)
        have hltI : (k : Int) < (qs.length : Int) := by omega
        have hltI2 : (k : Int) < (g.ds.length : Int) := by omega
        have hxm : (qs.map (·.1))[k]? = some x.1 := by simp [hx]
        have hdm : g.pure[k]? = some d.1 := by simp [GT.pure, hd]
        have HXM := Lib.hid hxm
        have HDM := Lib.hid hdm
        have HALL := Lib.hid hall
        have HBW := Lib.hid hbW
        have HWW := Lib.hid hW
        have HC := Lib.hid (And.intro hcb (And.intro hc0 hc1))
        cases hfit : dFits x.1 d.1 with
        | true =>
          have hQ : ∀ d' os, Calls Tryz.prog 113 #[vVal x.1 (rowA x.2) (x.1.words.length + x.2.k), dVal d.1 (rowA d.2) (d.1.words.length + d.2.k)] (grow (redrawn W d') os) fun e w'' => e = .returned (.bool true) ∧ ∃ p : Regrown, w'' = grow (redrawn W p.d) p.os := fun d' os => by
            have e := fits_calls (grow (redrawn W d') os) x.1 d.1 (rowA x.2) (rowA d.2) (x.1.words.length + x.2.k) (d.1.words.length + d.2.k); rw [hfit] at e; exact Calls.regrown_of e
          have HQ := Lib.hid hQ
          have HF := Lib.hid hfit
          clear hQ hcb hc0 hc1 hw h1 hW hbW hst bc hx hd hba hbg hxm hdm hall hb HH hfit
          go_wp2_with fail
          rw [← HWW.out]
          have hQ := HQ.out
          obtain ⟨hcb, hc0, hc1⟩ := HC.out
          refine wp_region_quiet_below (by kernel_rfl) (by kernel_rfl) ?_
          repeat (quiet_step (exact hQ _ _))
          refine wpQuiet_nil ?_
          intro w1 hw1
          have hb := quiet_out hw1
          have HB2 := Lib.hid (HBW.out.trans (hb.mono HBW.out.size))
          clear hw1 hQ hcb hc0 hc1 hb HC HQ
          go_wp2
          go_roundw
          case rel =>
            ((repeat apply Exists.intro (α := Value)); (first | refine ⟨?_, rfl⟩ | skip); (all_goals first | exact undef | skip))
            refine ⟨k + 1, by omega, by go_num, HB2.out, fun j v d' hj hv hd => ?_⟩
            by_cases hjk : j < k
            · exact HALL.out j v d' hjk hv hd
            · obtain rfl : j = k := by omega
              rw [HXM.out] at hv
              rw [HDM.out] at hd
              cases hv; cases hd
              exact HF.out
          case measure => simp [intOf]; omega
        | false =>
          have hQ : ∀ d' os, Calls Tryz.prog 113 #[vVal x.1 (rowA x.2) (x.1.words.length + x.2.k), dVal d.1 (rowA d.2) (d.1.words.length + d.2.k)] (grow (redrawn W d') os) fun e w'' => e = .returned (.bool false) ∧ ∃ p : Regrown, w'' = grow (redrawn W p.d) p.os := fun d' os => by
            have e := fits_calls (grow (redrawn W d') os) x.1 d.1 (rowA x.2) (rowA d.2) (x.1.words.length + x.2.k) (d.1.words.length + d.2.k); rw [hfit] at e; exact Calls.regrown_of e
          have HQ := Lib.hid hQ
          have HF := Lib.hid (fitB_bad hxm hdm hfit)
          clear hQ hcb hc0 hc1 hw h1 hW hbW hst bc hx hd hba hbg hxm hdm hall hb HH hfit
          go_wp2_with fail
          rw [← HWW.out]
          have hQ := HQ.out
          obtain ⟨hcb, hc0, hc1⟩ := HC.out
          refine wp_region_quiet_below (by kernel_rfl) (by kernel_rfl) ?_
          repeat (quiet_step (exact hQ _ _))
          refine wpQuiet_nil ?_
          intro w1 hw1
          have hb := quiet_out hw1
          have HB2 := Lib.hid (HBW.out.trans (hb.mono HBW.out.size))
          clear hw1 hQ hcb hc0 hc1 hb HC HQ
          go_wp2
          go_ret
          exact ⟨ret_bool HF.out.symm, HB2.out⟩
      · obtain rfl : k = qs.length := by omega
        have HF := Lib.hid (fitB_good (by simp only [List.length_map, GT.pure]; exact HNE.out) (fun j v d hj => hall j v d (by simpa using hj)))
        have HB2 := Lib.hid hb
        clear hall hb HH
        go_wp2
        go_ret
        exact ⟨ret_bool HF.out.symm, HB2.out⟩
  · have hneI : ((qs.length : Int) != (g.ds.length : Int)) = true := by rw [bne_iff_ne]; omega
    have HF := Lib.hid (fitB_len (vs := qs.map (·.1)) (ds := g.pure) (by simp only [List.length_map, GT.pure]; exact hne))
    clear hA hB h ha hg hma hmg eA eB hne
    go_enter Tryz.func112, Tryz.ntmps112
    go_wp2
    go_ret
    exact ⟨ret_bool HF.out.symm, Below.refl _ _⟩

/-- The first word of a reply. -/
def dWord (d : Dn) : Int := d.words.headD 0
set_option maxHeartbeats 800000 in
theorem Word_calls (d : DV) (hd : DvOk d) (h : St base w0 w L) (hm : ∀ p, p ∈ dnH d → p ∈ L) :
    Calls Tryz.prog 108 #[dVal d.1 (rowA d.2) (d.1.words.length + d.2.k)] w fun e w' => e = .returned (.int .u64 (dWord d.1)) ∧ Below w.heap.size w w' := by
  have hl : d.1.words.length ≤ 9223372036854775807 := by have := hd.le; unfold maxLen at this; omega
  obtain ⟨n, hn⟩ : ∃ n, n = d.1.words.length := ⟨_, rfl⟩
  have eV : ∀ A c, dVal d.1 A c = .agg #[.int .i64 d.1.code, .slice A n c] := fun A c => by rw [hn]
  rw [eV, ← hn]
  rw [← hn] at hl
  by_cases h0 : n = 0
  · have e1 : dWord d.1 = 0 := by
      have : d.1.words = [] := List.eq_nil_of_length_eq_zero (by omega)
      simp [dWord, this]
    have HE := Lib.hid e1
    clear hd h hm e1 eV hn
    subst h0
    go_enter Tryz.func108, Tryz.ntmps108
    go_wp2
    go_ret
    exact ⟨ret_int HE.out.symm, (Below.refl _ _).alloc (Nat.le_refl _) _⟩
  · obtain ⟨b, hb⟩ := hd.pos (by omega)
    have c2 : w.cell? ⟨b, 0, none⟩ = some (.int .u64 (dWord d.1)) := by
      have e := h.row_cell (r := d.2) (t := 22) (cs := u64s d.1.words) hb (fun p hp => hm p hp) 0 (by simp; omega)
      rw [e]
      cases hw : d.1.words with
      | nil => rw [hw] at hn; simp at hn; omega
      | cons x xs => simp [dWord, hw]
    have c3 : ∀ o, (w.alloc o).cell? ⟨b, 0, none⟩ = some (.int .u64 (dWord d.1)) := fun o => Lib.cell?_alloc_some _ c2
    have hra : rowA d.2 = some ⟨b, 0, none⟩ := by simp [rowA, hb]
    rw [hra]
    have hn0 : (0 : Int) < (n : Int) := by omega
    have hnI : ((n : Int) == 0) = false := by rw [beq_eq_false_iff_ne]; omega
    clear hd h hm hb hra eV hn h0
    go_enter Tryz.func108, Tryz.ntmps108
    go_wp2
    go_ret
    exact ⟨rfl, (Below.refl _ _).alloc (Nat.le_refl _) _⟩
end Go.Proofs.YtaojipegpjolcaaGreat
set_option linter.unusedVariables false
set_option linter.unusedSimpArgs false
namespace Go.Proofs.YtaojipegpjolcaaGreat
open Go.RowKit Go.Sort Go.Proofs.BodegaHeap
variable {base : Nat} {w0 w : World} {L : List Blk}

/-- All replies, and where they lie. -/
structure GotOk (ro : Rw) (gts : List GT) : Prop where
  ro : RowOk ro 1 gts.length (gts.flatMap gtC)
  each : ∀ g ∈ gts, GtOk g
  len : gts.length ≤ 1000
abbrev gotH (ro : Rw) (gts : List GT) : List Blk := rowH ro 82 (gts.flatMap gtC) ++ gts.flatMap gtH
/-- The replies from number k on. -/
def TGot (ro : Rw) (gts : List GT) (k : Nat) (v : Value) : Prop :=
  (k < gts.length ∧ ∃ b, ro.blk = some b ∧ v = .slice (some ⟨b, k, none⟩) (gts.length - k) (gts.length - k + ro.k)) ∨ (k = gts.length ∧ ∃ a c, v = .slice a 0 c)
theorem TGot.start {ro : Rw} {gts : List GT} (h : GotOk ro gts) : TGot ro gts 0 (rowV ro gts.length) := by
  by_cases hn : gts.length = 0
  · exact .inr ⟨hn.symm, _, _, by rw [hn]⟩
  · obtain ⟨b, hb⟩ := h.ro.pos (by omega)
    exact .inl ⟨by omega, b, hb, by simp [rowV, rowA, hb]⟩
theorem got_cell {ro : Rw} {gts : List GT} {b : Nat} (hb : ro.blk = some b) (hm : ∀ p, p ∈ gotH ro gts → p ∈ L) (h : St base w0 w L) {k : Nat} {g : GT} (hg : gts[k]? = some g) : w.cell? ⟨b, k, none⟩ = some (rowV g.r g.ds.length) := by
  have e := h.recCell (enc := gtC) (s := 1) (fun _ => rfl) hb (fun p hp => hm p (List.mem_append_left _ hp)) hg 0 (by decide)
  simpa using e
theorem got_mem {ro : Rw} {gts : List GT} (hm : ∀ p, p ∈ gotH ro gts → p ∈ L) {g : GT} (hg : g ∈ gts) : ∀ p, p ∈ gtH g → p ∈ L :=
  fun p hp => hm p (List.mem_append_right _ (List.mem_flatMap.2 ⟨g, hg, hp⟩))

abbrev tkC (gv av : Value) (wr : Bool) : Array Value := #[gv, av, .bool wr]
abbrev tkB (bt : Nat) (gv av : Value) (wr : Bool) : Blk := (bt, .cells (tkC gv av wr) 161 (0, 0))
abbrev tP (bt : Nat) : Value := .pointer (some ⟨bt, 0, none⟩)

set_option maxHeartbeats 400000 in
theorem NewTalk_calls (A : Option Addr) (n c : Nat) (h : St base w0 w L) (R : Ending → World → Prop)
    (hR : ∀ bt w', St base w0 w' (tkB bt (.slice A n c) (.slice none 0 0) false :: L) → R (.returned (tP bt)) w') :
    Calls Tryz.prog 88 #[.slice A n c] w R := by
  have H := Lib.hid (hR _ _ (h.alloc (.cells (tkC (.slice A n c) (.slice none 0 0) false) 161)))
  clear h hR
  go_enter Tryz.func88, Tryz.ntmps88
  go_wp2
  exact H.out

set_option maxHeartbeats 400000 in
theorem Batch_empty (bt : Nat) (A : Option Addr) (c : Nat) (R : Ending → World → Prop) (hR : R (.returned (.tuple #[.slice none 0 0, .bool true])) w) :
    Calls Tryz.prog 107 #[tP bt, .slice A 0 c] w R := by
  have H := Lib.hid hR
  clear hR
  go_enter Tryz.func107, Tryz.ntmps107
  go_wp2
  exact H.out

set_option maxHeartbeats 800000 in
theorem Batch_ask (bt : Nat) (gv av : Value) (wr : Bool) (a : Option Addr) (c : Nat) (hgv : gv = .slice a 0 c) (A : Option Addr) (n cc : Nat) (hn : 0 < n) (hn1 : n ≤ 1000) (h : St base w0 w (tkB bt gv av wr :: L)) (R : Ending → World → Prop)
    (hR : ∀ w', St base w0 w' (tkB bt gv (.slice A n cc) wr :: L) → R (.returned (.tuple #[.slice none 0 0, .bool false])) w') :
    Calls Tryz.prog 107 #[tP bt, .slice A n cc] w R := by
  subst hgv
  have H := Lib.hid (hR _ (h.set 1 (.slice A n cc)))
  have c1 := fun k => h.cells (t := 161) (fr := (0, 0)) List.mem_cons_self k
  have f1 := fun k => h.frozen (t := 161) List.mem_cons_self k
  have hnI : ((n : Int) == 0) = false := by rw [beq_eq_false_iff_ne]; omega
  have hnN : (n == 0) = false := by rw [beq_eq_false_iff_ne]; omega
  clear h hR hn
  go_enter Tryz.func107, Tryz.ntmps107
  go_wp2
  exact H.out

set_option maxHeartbeats 1600000 in
theorem Batch_wrong (bt : Nat) (av : Value) (wr : Bool) (ro : Rw) (gts : List GT) (hgo : GotOk ro gts) (k : Nat) (gv : Value) (hk : TGot ro gts k gv) (g : GT) (hg : gts[k]? = some g) (ra : Rw) (qs : List GV) (hq : RowOk ra 9 qs.length (qs.flatMap gvC)) (hq0 : 0 < qs.length) (hq1 : qs.length ≤ 1000)
    (hf : fitB (qs.map (·.1)) g.pure = false) (hmo : ∀ p, p ∈ gotH ro gts → p ∈ L) (hmq : ∀ p, p ∈ batchH ra qs → p ∈ L) (h : St base w0 w (tkB bt gv av wr :: L)) (R : Ending → World → Prop)
    (hR : ∀ w', St base w0 w' (tkB bt gv av true :: L) → R (.returned (.tuple #[.slice none 0 0, .bool false])) w') :
    Calls Tryz.prog 107 #[tP bt, rowV ra qs.length] w R := by
  have hkl := (List.getElem?_eq_some_iff.1 hg).1
  rcases hk with ⟨_, b, hb, rfl⟩ | ⟨hk, _⟩
  · have hF := Fit_calls ra qs hq hq1 g (hgo.each g (List.mem_of_getElem? hg)) h (fun p hp => List.mem_cons_of_mem _ (hmq p hp)) (fun p hp => List.mem_cons_of_mem _ (got_mem hmo (List.mem_of_getElem? hg) p hp))
    rw [hf] at hF
    have c2 := got_cell hb (fun p hp => List.mem_cons_of_mem _ (hmo p hp)) h hg
    have c1 := fun k => h.cells (t := 161) (fr := (0, 0)) List.mem_cons_self k
    have hfin : ∀ w', Below w.heap.size w w' → (∀ q, w'.cell? ⟨bt, q, none⟩ = (tkC (.slice (some ⟨b, k, none⟩) (gts.length - k) (gts.length - k + ro.k)) av wr)[q]?) ∧ (∀ q, w'.frozen? ⟨bt, q, none⟩ = false) ∧ R (.returned (.tuple #[.slice none 0 0, .bool false])) (w'.setCell ⟨bt, 2, none⟩ (.bool true)) := fun w' hb' => by
      have h2 := h.grow hb'
      exact ⟨fun k => h2.cells (t := 161) (fr := (0, 0)) List.mem_cons_self k, fun k => h2.frozen (t := 161) List.mem_cons_self k, hR _ (h2.set 2 (.bool true))⟩
    obtain ⟨n, hn⟩ : ∃ n, n = gts.length - k := ⟨_, rfl⟩
    rw [← hn] at c1 hfin
    have hn0 : 0 < n := by omega
    have hn1 : n ≤ 1000 := by have := hgo.len; omega
    obtain ⟨A, hA⟩ : ∃ A, rowA ra = A := ⟨_, rfl⟩
    rw [show rowV ra qs.length = .slice A qs.length (qs.length + ra.k) by rw [← hA]] at hF ⊢
    obtain ⟨B, hB⟩ : ∃ B, rowA g.r = B := ⟨_, rfl⟩
    rw [show rowV g.r g.ds.length = .slice B g.ds.length (g.ds.length + g.r.k) by rw [← hB]] at hF c2
    have hnI : ((n : Int) == 0) = false := by rw [beq_eq_false_iff_ne]; omega
    have hnN : (n == 0) = false := by rw [beq_eq_false_iff_ne]; omega
    have hqI : ((qs.length : Int) == 0) = false := by rw [beq_eq_false_iff_ne]; omega
    have hqN : (qs.length == 0) = false := by rw [beq_eq_false_iff_ne]; omega
    have hnI2 : (0 : Int) < (n : Int) := by omega
    have HF := Lib.hid hF
    have HN := Lib.hid hfin
    clear h hR hF hfin hn hA hB hb hg hgo hq hf hmo hmq hkl hq0 hn0
    go_enter Tryz.func107, Tryz.ntmps107
    go_wp2_with fail
    refine HF.out.mono ?_
    rintro e w' ⟨rfl, hb'⟩
    obtain ⟨c3, f3, q⟩ := HN.out w' hb'
    have Q := Lib.hid q
    clear hb' HF HN q c1 c2
    go_wp2
    exact Q.out
  · omega

structure TkS (bt : Nat) (gv av : Value) (wr : Bool) (b k : Nat) (v : Value) (w : World) : Prop where
  c : ∀ q, w.cell? ⟨bt, q, none⟩ = (tkC gv av wr)[q]?
  f : ∀ q, w.frozen? ⟨bt, q, none⟩ = false
  g : w.cell? ⟨b, k, none⟩ = some v

set_option maxRecDepth 100000 in
set_option maxHeartbeats 1600000 in
theorem Batch_take (bt : Nat) (av : Value) (wr : Bool) (ro : Rw) (gts : List GT) (hgo : GotOk ro gts) (k : Nat) (gv : Value) (hk : TGot ro gts k gv) (g : GT) (hg : gts[k]? = some g) (ra : Rw) (qs : List GV) (hq : RowOk ra 9 qs.length (qs.flatMap gvC)) (hq0 : 0 < qs.length) (hq1 : qs.length ≤ 1000)
    (hf : fitB (qs.map (·.1)) g.pure = true) (hmo : ∀ p, p ∈ gotH ro gts → p ∈ L) (hmq : ∀ p, p ∈ batchH ra qs → p ∈ L) (h : St base w0 w (tkB bt gv av wr :: L)) (R : Ending → World → Prop)
    (hR : ∀ gv' w', TGot ro gts (k + 1) gv' → St base w0 w' (tkB bt gv' av wr :: L) → R (.returned (.tuple #[rowV g.r g.ds.length, .bool true])) w') :
    Calls Tryz.prog 107 #[tP bt, rowV ra qs.length] w R := by
  have hkl := (List.getElem?_eq_some_iff.1 hg).1
  rcases hk with ⟨_, b, hb, rfl⟩ | ⟨hk, _⟩
  · have hF := Fit_calls ra qs hq hq1 g (hgo.each g (List.mem_of_getElem? hg)) h (fun p hp => List.mem_cons_of_mem _ (hmq p hp)) (fun p hp => List.mem_cons_of_mem _ (got_mem hmo (List.mem_of_getElem? hg) p hp))
    rw [hf] at hF
    have c2 := got_cell hb (fun p hp => List.mem_cons_of_mem _ (hmo p hp)) h hg
    have c1 := fun k => h.cells (t := 161) (fr := (0, 0)) List.mem_cons_self k
    obtain ⟨m, hn⟩ : ∃ m, m + 1 = gts.length - k := ⟨gts.length - k - 1, by omega⟩
    have hfin : ∀ w', Below w.heap.size w w' → (∀ q, w'.cell? ⟨bt, q, none⟩ = (tkC (.slice (some ⟨b, k, none⟩) (m + 1) (m + 1 + ro.k)) av wr)[q]?) ∧ (∀ q, w'.frozen? ⟨bt, q, none⟩ = false) ∧ w'.cell? ⟨b, k, none⟩ = some (rowV g.r g.ds.length) ∧
        (∀ gv' w'', TGot ro gts (k + 1) gv' → w'' = w'.drew.setCell ⟨bt, 0, none⟩ gv' → R (.returned (.tuple #[rowV g.r g.ds.length, .bool true])) w'') := fun w' hb' => by
      have h2 := h.grow hb'
      rw [hn]
      exact ⟨fun k => h2.cells (t := 161) (fr := (0, 0)) List.mem_cons_self k, fun k => h2.frozen (t := 161) List.mem_cons_self k, got_cell hb (fun p hp => List.mem_cons_of_mem _ (hmo p hp)) h2 hg, fun gv' w'' ht hw => hR gv' w'' ht (by rw [hw]; exact (h2.drew).set 0 gv')⟩
    have ht1 : ¬ (m + 1 + ro.k = 1) → TGot ro gts (k + 1) (.slice (some ⟨b, k + 1, none⟩) m (m + ro.k)) := fun _ => by
      by_cases hlast : k + 1 < gts.length
      · exact .inl ⟨hlast, b, hb, by rw [show m = gts.length - (k + 1) by omega]⟩
      · exact .inr ⟨by omega, some ⟨b, k + 1, none⟩, _, by rw [show m = 0 by omega]⟩
    have ht2 : m + 1 + ro.k = 1 → TGot ro gts (k + 1) (.slice (some ⟨b, k, none⟩) m 0) := fun e => .inr ⟨by omega, some ⟨b, k, none⟩, _, by rw [show m = 0 by omega]⟩
    rw [← hn] at c1
    have hn1 : m ≤ 1000 := by have := hgo.len; omega
    have hro : m + 1 + ro.k ≤ 9223372036854775807 := by have := hgo.ro.le; unfold maxLen at this; omega
    obtain ⟨A, hA⟩ : ∃ A, rowA ra = A := ⟨_, rfl⟩
    rw [show rowV ra qs.length = .slice A qs.length (qs.length + ra.k) by rw [← hA]] at hF ⊢
    obtain ⟨B, hB⟩ : ∃ B, rowA g.r = B := ⟨_, rfl⟩
    rw [show rowV g.r g.ds.length = .slice B g.ds.length (g.ds.length + g.r.k) by rw [← hB]] at hF c2 hfin
    have hqI : ((qs.length : Int) == 0) = false := by rw [beq_eq_false_iff_ne]; omega
    have hqN : (qs.length == 0) = false := by rw [beq_eq_false_iff_ne]; omega
    have HF := Lib.hid hF
    have HN := Lib.hid hfin
    have HT1 := Lib.hid ht1
    have HT2 := Lib.hid ht2
    clear h hR hF hfin hn hA hB hb hg hgo hq hf hmo hmq hkl hq0 ht1 ht2
    go_enter Tryz.func107, Tryz.ntmps107
    go_wp2_with fail
    refine HF.out.mono ?_
    rintro e w' ⟨rfl, hb'⟩
    obtain ⟨c3, f3, c4, q⟩ := HN.out w' hb'
    have Q := Lib.hid q
    clear hb' HF HN q c1 c2
    by_cases hcap : m + 1 + ro.k = 1
    · have HT := Lib.hid (HT2.out hcap)
      clear HT1 HT2
      go_wp2_with fail
      have Q2 := Lib.hid (Q.out _ _ HT.out rfl)
      have hS : TkS bt (.slice (some ⟨b, k, none⟩) (m + 1) (m + 1 + ro.k)) av wr b k (.slice B g.ds.length (g.ds.length + g.r.k)) w'.drew := ⟨c3, f3, c4⟩
      have HG := Lib.hid (fun W (h : TkS bt (.slice (some ⟨b, k, none⟩) (m + 1) (m + 1 + ro.k)) av wr b k (.slice B g.ds.length (g.ds.length + g.r.k)) W) => And.intro h.c (And.intro h.f h.g))
      clear Q HT
      refine wp_region_T (S := TkS bt (.slice (some ⟨b, k, none⟩) (m + 1) (m + 1 + ro.k)) av wr b k (.slice B g.ds.length (g.ds.length + g.r.k))) [15] (by kernel_rfl) hS ?_
      refine wpAnyT_takeL (i := 0) (v := ?_) rfl (by kernel_rfl) (by kernel_rfl) (by kernel_rfl) (by kernel_rfl) (fun _ _ _ h => h) (Or.inl ⟨by rfl, ?_⟩) hS ?_
      rotate_left
      · intro wS hSw; have hGot := HG.out _ hSw; clear hSw; go_split_ands; go_simp; try with_reducible rfl
      try simp only [Act.put, List.setIfInBounds_toArray, List.set_cons_zero, List.set_cons_succ]
      refine wpAnyT_takeL (i := 1) (v := ?_) rfl (by kernel_rfl) (by kernel_rfl) (by kernel_rfl) (by kernel_rfl) (fun _ _ _ h => h) (Or.inl ⟨by rfl, ?_⟩) hS ?_
      rotate_left
      · intro wS hSw; have hGot := HG.out _ hSw; clear hSw; go_split_ands; go_simp; try with_reducible rfl
      try simp only [Act.put, List.setIfInBounds_toArray, List.set_cons_zero, List.set_cons_succ]
      refine wpAnyT_takeL (i := 2) (v := ?_) rfl (by kernel_rfl) (by kernel_rfl) (by kernel_rfl) (by kernel_rfl) (fun _ _ _ h => h) (Or.inl ⟨by rfl, ?_⟩) hS ?_
      rotate_left
      · intro wS hSw; have hGot := HG.out _ hSw; clear hSw; go_split_ands; go_simp; try with_reducible rfl
      try simp only [Act.put, List.setIfInBounds_toArray, List.set_cons_zero, List.set_cons_succ]
      refine wpAnyT_takeL (i := 3) (v := ?_) rfl (by kernel_rfl) (by kernel_rfl) (by kernel_rfl) (by kernel_rfl) (fun _ _ _ h => h) (Or.inl ⟨by rfl, ?_⟩) hS ?_
      rotate_left
      · intro wS hSw; have hGot := HG.out _ hSw; clear hSw; go_split_ands; go_simp; try with_reducible rfl
      try simp only [Act.put, List.setIfInBounds_toArray, List.set_cons_zero, List.set_cons_succ]
      refine wpAnyT_takeL (i := 4) (v := ?_) rfl (by kernel_rfl) (by kernel_rfl) (by kernel_rfl) (by kernel_rfl) (fun _ _ _ h => h) (Or.inl ⟨by rfl, ?_⟩) hS ?_
      rotate_left
      · intro wS hSw; have hGot := HG.out _ hSw; clear hSw; go_split_ands; go_simp; try with_reducible rfl
      try simp only [Act.put, List.setIfInBounds_toArray, List.set_cons_zero, List.set_cons_succ]
      refine wpAnyT_takeL (i := 5) (v := ?_) rfl (by kernel_rfl) (by kernel_rfl) (by kernel_rfl) (by kernel_rfl) (fun _ _ _ h => h) (Or.inl ⟨by rfl, ?_⟩) hS ?_
      rotate_left
      · intro wS hSw; have hGot := HG.out _ hSw; clear hSw; go_split_ands; go_simp; try with_reducible rfl
      try simp only [Act.put, List.setIfInBounds_toArray, List.set_cons_zero, List.set_cons_succ]
      refine wpAnyT_takeL (i := 6) (v := ?_) rfl (by kernel_rfl) (by kernel_rfl) (by kernel_rfl) (by kernel_rfl) (fun _ _ _ h => h) (Or.inl ⟨by rfl, ?_⟩) hS ?_
      rotate_left
      · intro wS hSw; have hGot := HG.out _ hSw; clear hSw; go_split_ands; go_simp; try with_reducible rfl
      try simp only [Act.put, List.setIfInBounds_toArray, List.set_cons_zero, List.set_cons_succ]
      refine wpAnyT_takeL (i := 7) (v := ?_) rfl (by kernel_rfl) (by kernel_rfl) (by kernel_rfl) (by kernel_rfl) (fun _ _ _ h => h) (Or.inl ⟨by rfl, ?_⟩) hS ?_
      rotate_left
      · intro wS hSw; have hGot := HG.out _ hSw; clear hSw; go_split_ands; go_simp; try with_reducible rfl
      try simp only [Act.put, List.setIfInBounds_toArray, List.set_cons_zero, List.set_cons_succ]
      refine wpAnyT_takeL (i := 8) (v := ?_) rfl (by kernel_rfl) (by kernel_rfl) (by kernel_rfl) (by kernel_rfl) (fun _ _ _ h => h) (Or.inl ⟨by rfl, ?_⟩) hS ?_
      rotate_left
      · intro wS hSw; have hGot := HG.out _ hSw; clear hSw; go_split_ands; go_simp; try with_reducible rfl
      try simp only [Act.put, List.setIfInBounds_toArray, List.set_cons_zero, List.set_cons_succ]
      refine wpAnyT_takeL (i := 9) (v := ?_) rfl (by kernel_rfl) (by kernel_rfl) (by kernel_rfl) (by kernel_rfl) (fun _ _ _ h => h) (Or.inl ⟨by rfl, ?_⟩) hS ?_
      rotate_left
      · intro wS hSw; have hGot := HG.out _ hSw; clear hSw; go_split_ands; go_simp; try with_reducible rfl
      try simp only [Act.put, List.setIfInBounds_toArray, List.set_cons_zero, List.set_cons_succ]
      refine wpAnyT_takeL (i := 10) (v := ?_) rfl (by kernel_rfl) (by kernel_rfl) (by kernel_rfl) (by kernel_rfl) (fun _ _ _ h => h) (Or.inl ⟨by rfl, ?_⟩) hS ?_
      rotate_left
      · intro wS hSw; have hGot := HG.out _ hSw; clear hSw; go_split_ands; go_simp; try with_reducible rfl
      try simp only [Act.put, List.setIfInBounds_toArray, List.set_cons_zero, List.set_cons_succ]
      refine wpAnyT_takeL (i := 12) (v := ?_) rfl (by kernel_rfl) (by kernel_rfl) (by kernel_rfl) (by kernel_rfl) (fun _ _ _ h => h) (Or.inl ⟨by rfl, ?_⟩) hS ?_
      rotate_left
      · intro wS hSw; have hGot := HG.out _ hSw; clear hSw; go_split_ands; go_simp; try with_reducible rfl
      try simp only [Act.put, List.setIfInBounds_toArray, List.set_cons_zero, List.set_cons_succ]
      refine wpAnyT_oneL (i := 11) (by kernel_rfl) rfl (fun K hK => ?_)
      rw [if_pos (by rfl)]
      go_wp2_with fail
      refine (hK).out _ _ (fun _ => hS) (fun _ => ?_)
      clear hK
      refine wpAnyT_oneL (i := 13) (by kernel_rfl) rfl (fun K hK => ?_)
      rw [if_pos (by rfl)]
      go_wp2_with fail
      refine (hK).out _ _ (fun _ => hS) (fun _ => ?_)
      clear hK
      refine wpAnyT_takeL (i := 14) (v := ?_) rfl (by kernel_rfl) (by kernel_rfl) (by kernel_rfl) (by kernel_rfl) (fun _ _ _ h => h) (Or.inl ⟨by rfl, ?_⟩) hS ?_
      rotate_left
      · intro wS hSw; have hGot := HG.out _ hSw; clear hSw; go_split_ands; go_simp; try with_reducible rfl
      try simp only [Act.put, List.setIfInBounds_toArray, List.set_cons_zero, List.set_cons_succ]
      refine wpAnyT_oneL (i := 15) (by kernel_rfl) rfl (fun K hK => ?_)
      rw [if_pos (by rfl)]
      go_wp2_with fail
      refine (hK).out _ _ (fun h => by cases h) (fun _ => ?_)
      clear hK
      refine wpAnyT_done (by kernel_rfl) ?_ _
      go_wp2
      exact Q2.out
    · have HT := Lib.hid (HT1.out hcap)
      clear HT1 HT2
      go_wp2_with fail
      have Q2 := Lib.hid (Q.out _ _ HT.out rfl)
      have hS : TkS bt (.slice (some ⟨b, k, none⟩) (m + 1) (m + 1 + ro.k)) av wr b k (.slice B g.ds.length (g.ds.length + g.r.k)) w'.drew := ⟨c3, f3, c4⟩
      have HG := Lib.hid (fun W (h : TkS bt (.slice (some ⟨b, k, none⟩) (m + 1) (m + 1 + ro.k)) av wr b k (.slice B g.ds.length (g.ds.length + g.r.k)) W) => And.intro h.c (And.intro h.f h.g))
      clear Q HT
      refine wp_region_T (S := TkS bt (.slice (some ⟨b, k, none⟩) (m + 1) (m + 1 + ro.k)) av wr b k (.slice B g.ds.length (g.ds.length + g.r.k))) [15] (by kernel_rfl) hS ?_
      refine wpAnyT_takeL (i := 0) (v := ?_) rfl (by kernel_rfl) (by kernel_rfl) (by kernel_rfl) (by kernel_rfl) (fun _ _ _ h => h) (Or.inl ⟨by rfl, ?_⟩) hS ?_
      rotate_left
      · intro wS hSw; have hGot := HG.out _ hSw; clear hSw; go_split_ands; go_simp; try with_reducible rfl
      try simp only [Act.put, List.setIfInBounds_toArray, List.set_cons_zero, List.set_cons_succ]
      refine wpAnyT_takeL (i := 1) (v := ?_) rfl (by kernel_rfl) (by kernel_rfl) (by kernel_rfl) (by kernel_rfl) (fun _ _ _ h => h) (Or.inl ⟨by rfl, ?_⟩) hS ?_
      rotate_left
      · intro wS hSw; have hGot := HG.out _ hSw; clear hSw; go_split_ands; go_simp; try with_reducible rfl
      try simp only [Act.put, List.setIfInBounds_toArray, List.set_cons_zero, List.set_cons_succ]
      refine wpAnyT_takeL (i := 2) (v := ?_) rfl (by kernel_rfl) (by kernel_rfl) (by kernel_rfl) (by kernel_rfl) (fun _ _ _ h => h) (Or.inl ⟨by rfl, ?_⟩) hS ?_
      rotate_left
      · intro wS hSw; have hGot := HG.out _ hSw; clear hSw; go_split_ands; go_simp; try with_reducible rfl
      try simp only [Act.put, List.setIfInBounds_toArray, List.set_cons_zero, List.set_cons_succ]
      refine wpAnyT_takeL (i := 3) (v := ?_) rfl (by kernel_rfl) (by kernel_rfl) (by kernel_rfl) (by kernel_rfl) (fun _ _ _ h => h) (Or.inl ⟨by rfl, ?_⟩) hS ?_
      rotate_left
      · intro wS hSw; have hGot := HG.out _ hSw; clear hSw; go_split_ands; go_simp; try with_reducible rfl
      try simp only [Act.put, List.setIfInBounds_toArray, List.set_cons_zero, List.set_cons_succ]
      refine wpAnyT_takeL (i := 4) (v := ?_) rfl (by kernel_rfl) (by kernel_rfl) (by kernel_rfl) (by kernel_rfl) (fun _ _ _ h => h) (Or.inl ⟨by rfl, ?_⟩) hS ?_
      rotate_left
      · intro wS hSw; have hGot := HG.out _ hSw; clear hSw; go_split_ands; go_simp; try with_reducible rfl
      try simp only [Act.put, List.setIfInBounds_toArray, List.set_cons_zero, List.set_cons_succ]
      refine wpAnyT_takeL (i := 5) (v := ?_) rfl (by kernel_rfl) (by kernel_rfl) (by kernel_rfl) (by kernel_rfl) (fun _ _ _ h => h) (Or.inl ⟨by rfl, ?_⟩) hS ?_
      rotate_left
      · intro wS hSw; have hGot := HG.out _ hSw; clear hSw; go_split_ands; go_simp; try with_reducible rfl
      try simp only [Act.put, List.setIfInBounds_toArray, List.set_cons_zero, List.set_cons_succ]
      refine wpAnyT_takeL (i := 6) (v := ?_) rfl (by kernel_rfl) (by kernel_rfl) (by kernel_rfl) (by kernel_rfl) (fun _ _ _ h => h) (Or.inl ⟨by rfl, ?_⟩) hS ?_
      rotate_left
      · intro wS hSw; have hGot := HG.out _ hSw; clear hSw; go_split_ands; go_simp; try with_reducible rfl
      try simp only [Act.put, List.setIfInBounds_toArray, List.set_cons_zero, List.set_cons_succ]
      refine wpAnyT_takeL (i := 7) (v := ?_) rfl (by kernel_rfl) (by kernel_rfl) (by kernel_rfl) (by kernel_rfl) (fun _ _ _ h => h) (Or.inl ⟨by rfl, ?_⟩) hS ?_
      rotate_left
      · intro wS hSw; have hGot := HG.out _ hSw; clear hSw; go_split_ands; go_simp; try with_reducible rfl
      try simp only [Act.put, List.setIfInBounds_toArray, List.set_cons_zero, List.set_cons_succ]
      refine wpAnyT_takeL (i := 8) (v := ?_) rfl (by kernel_rfl) (by kernel_rfl) (by kernel_rfl) (by kernel_rfl) (fun _ _ _ h => h) (Or.inl ⟨by rfl, ?_⟩) hS ?_
      rotate_left
      · intro wS hSw; have hGot := HG.out _ hSw; clear hSw; go_split_ands; go_simp; try with_reducible rfl
      try simp only [Act.put, List.setIfInBounds_toArray, List.set_cons_zero, List.set_cons_succ]
      refine wpAnyT_takeL (i := 9) (v := ?_) rfl (by kernel_rfl) (by kernel_rfl) (by kernel_rfl) (by kernel_rfl) (fun _ _ _ h => h) (Or.inl ⟨by rfl, ?_⟩) hS ?_
      rotate_left
      · intro wS hSw; have hGot := HG.out _ hSw; clear hSw; go_split_ands; go_simp; try with_reducible rfl
      try simp only [Act.put, List.setIfInBounds_toArray, List.set_cons_zero, List.set_cons_succ]
      refine wpAnyT_takeL (i := 10) (v := ?_) rfl (by kernel_rfl) (by kernel_rfl) (by kernel_rfl) (by kernel_rfl) (fun _ _ _ h => h) (Or.inl ⟨by rfl, ?_⟩) hS ?_
      rotate_left
      · intro wS hSw; have hGot := HG.out _ hSw; clear hSw; go_split_ands; go_simp; try with_reducible rfl
      try simp only [Act.put, List.setIfInBounds_toArray, List.set_cons_zero, List.set_cons_succ]
      refine wpAnyT_takeL (i := 12) (v := ?_) rfl (by kernel_rfl) (by kernel_rfl) (by kernel_rfl) (by kernel_rfl) (fun _ _ _ h => h) (Or.inl ⟨by rfl, ?_⟩) hS ?_
      rotate_left
      · intro wS hSw; have hGot := HG.out _ hSw; clear hSw; go_split_ands; go_simp; try with_reducible rfl
      try simp only [Act.put, List.setIfInBounds_toArray, List.set_cons_zero, List.set_cons_succ]
      refine wpAnyT_oneL (i := 11) (by kernel_rfl) rfl (fun K hK => ?_)
      rw [if_pos (by rfl)]
      go_wp2_with fail
      refine (hK).out _ _ (fun _ => hS) (fun _ => ?_)
      clear hK
      refine wpAnyT_oneL (i := 13) (by kernel_rfl) rfl (fun K hK => ?_)
      rw [if_pos (by rfl)]
      go_wp2_with fail
      refine (hK).out _ _ (fun _ => hS) (fun _ => ?_)
      clear hK
      refine wpAnyT_takeL (i := 14) (v := ?_) rfl (by kernel_rfl) (by kernel_rfl) (by kernel_rfl) (by kernel_rfl) (fun _ _ _ h => h) (Or.inl ⟨by rfl, ?_⟩) hS ?_
      rotate_left
      · intro wS hSw; have hGot := HG.out _ hSw; clear hSw; go_split_ands; go_simp; try with_reducible rfl
      try simp only [Act.put, List.setIfInBounds_toArray, List.set_cons_zero, List.set_cons_succ]
      refine wpAnyT_oneL (i := 15) (by kernel_rfl) rfl (fun K hK => ?_)
      rw [if_pos (by rfl)]
      go_wp2_with fail
      refine (hK).out _ _ (fun h => by cases h) (fun _ => ?_)
      clear hK
      refine wpAnyT_done (by kernel_rfl) ?_ _
      go_wp2
      exact Q2.out
  · omega

set_option maxHeartbeats 400000 in
theorem Mismatch_calls (bt : Nat) (av : Value) (wr : Bool) (a : Option Addr) (n c : Nat) (hn : n ≤ 1000) (h : St base w0 w (tkB bt (.slice a n c) av wr :: L)) :
    Calls Tryz.prog 91 #[tP bt] w fun e w' => e = .returned (.bool (wr || decide (0 < n))) ∧ w' = w := by
  have c1 := fun k => h.cells (t := 161) (fr := (0, 0)) List.mem_cons_self k
  clear h
  cases wr with
  | true =>
    go_enter Tryz.func91, Tryz.ntmps91
    go_wp2
    go_ret
    exact ⟨rfl, rfl⟩
  | false =>
    go_enter Tryz.func91, Tryz.ntmps91
    go_wp2
    go_ret
    exact ⟨ret_bool (by simp), rfl⟩

set_option maxHeartbeats 400000 in
theorem Asking_calls (bt : Nat) (gv : Value) (wr : Bool) (a : Option Addr) (n c : Nat) (hn : n ≤ 1000) (h : St base w0 w (tkB bt gv (.slice a n c) wr :: L)) (R : Ending → World → Prop)
    (hR : ∀ w', St base w0 w' (tkB bt gv (.slice a n c) wr :: L) → R (.returned (.tuple #[.slice a n c, .bool (decide (0 < n))])) w') :
    Calls Tryz.prog 90 #[tP bt] w R := by
  have c1 := fun k => h.cells (t := 161) (fr := (0, 0)) List.mem_cons_self k
  have H := Lib.hid (fun q => hR _ (h.drewN q))
  clear h hR
  go_enter Tryz.func90, Tryz.ntmps90
  go_wp2_with fail
  go_quiet (fail)
  go_wp2
  exact H.out _
end Go.Proofs.YtaojipegpjolcaaGreat
set_option linter.unusedVariables false
set_option linter.unusedSimpArgs false
namespace Go.Proofs.YtaojipegpjolcaaGreat
open Go.RowKit Go.Sort Go.Proofs.BodegaHeap
variable {base : Nat} {w0 w : World} {L : List Blk}

structure PJ where
  nodes : Int
  number : Int
  client : Int
  round : Int
  value : Int
abbrev pjC (j : PJ) : Array Value := #[.int .i64 j.nodes, .int .i64 j.number, .int .i64 j.client, .int .i64 j.round, .int .u64 j.value]
abbrev pjV (j : PJ) : Value := .agg (pjC j)
abbrev prC (j : PJ) (bt : Nat) (ballot gr : Int) : Array Value := #[.int .i64 j.nodes, .int .i64 j.number, .int .i64 j.client, .int .i64 j.round, .int .u64 j.value, tP bt, .int .u64 ballot, .int .u64 gr]
abbrev prB (bp : Nat) (j : PJ) (bt : Nat) (ballot gr : Int) : Blk := (bp, .cells (prC j bt ballot gr) 150 (0, 0))
abbrev rP (bp : Nat) : Value := .pointer (some ⟨bp, 0, none⟩)
/-- An outcome. -/
structure Oc where
  code : Int
  value : Int
  round : Int
abbrev ocV (o : Oc) : Value := .agg #[.int .i64 o.code, .int .u64 o.value, .int .i64 o.round]
def pMaj (n : Int) : Int := if n < 1 then 0 else n / 2 + 1
def pMet (gr x : Int) : Int := max gr (x / 4503599627370496)
def pLost (gr : Int) : Oc := ⟨8, 0, gr / 8⟩
def pJudge (nodes : Int) (answers agreed : Int) (gr : Int) : Oc := if answers < pMaj nodes then ⟨9, 0, 0⟩ else if agreed < pMaj nodes then pLost gr else ⟨0, 0, 0⟩

set_option maxHeartbeats 400000 in
theorem Majority_calls (w : World) (n : Int) (h1 : n ≤ 9223372036854775807) :
    Calls Tryz.prog 12 #[.int .i64 n] w fun e w' => e = .returned (.int .i64 (pMaj n)) ∧ w' = w := by
  go_enter Tryz.func12, Tryz.ntmps12
  go_wp2
  all_goals
    go_ret
    refine ⟨ret_int ?_, rfl⟩
    go_tidy
    grind [pMaj]

theorem pr_cells {bp bt : Nat} {j : PJ} {ballot gr : Int} (h : St base w0 w L) (hm : prB bp j bt ballot gr ∈ L) : (∀ k, w.cell? ⟨bp, k, none⟩ = (prC j bt ballot gr)[k]?) ∧ (∀ k, w.frozen? ⟨bp, k, none⟩ = false) :=
  ⟨fun k => h.cells (t := 150) (fr := (0, 0)) hm k, fun k => h.frozen (t := 150) hm k⟩

set_option maxHeartbeats 800000 in
theorem met_calls (bp bt : Nat) (j : PJ) (ballot gr x : Int) (h0 : 0 ≤ x) (h1 : x < 18446744073709551616) (h : St base w0 w (prB bp j bt ballot gr :: L)) (R : Ending → World → Prop)
    (hR : ∀ w', St base w0 w' (prB bp j bt ballot (pMet gr x) :: L) → R (.returned (.tuple #[])) w') :
    Calls Tryz.prog 109 #[rP bp, .int .u64 x] w R := by
  have H := Lib.hid (hR _ (h.set 7 (.int .u64 (pMet gr x))))
  obtain ⟨c1, f1⟩ := pr_cells h List.mem_cons_self
  have HS := Lib.hid (Split_calls w x h0 h1)
  have em : (if gr < x / 4503599627370496 then x / 4503599627370496 else gr) = pMet gr x := by unfold pMet; rw [Int.max_def]; split <;> split <;> omega
  clear h hR h0 h1
  go_enter Tryz.func109, Tryz.ntmps109
  go_wp2_with fail
  (refine Calls.mono HS.out ?_; intro e w' hh; rw [hh.1, hh.2]; clear hh w' e)
  go_wp2
  go_end0
  exact H.out

set_option maxHeartbeats 800000 in
theorem lost_calls (bp bt : Nat) (j : PJ) (ballot gr : Int) (h0 : 0 ≤ gr) (h1 : gr < 18446744073709551616) (h : St base w0 w (prB bp j bt ballot gr :: L)) :
    Calls Tryz.prog 111 #[rP bp] w fun e w' => e = .returned (ocV (pLost gr)) ∧ Below w.heap.size w w' := by
  have ca := fun o => (pr_cells (h.junk o) List.mem_cons_self).1
  clear h
  go_enter Tryz.func111, Tryz.ntmps111
  go_wp2
  exact bodyPost_ret (v := ocV (pLost gr)) (by simp [results, Tryz.results111, go_sem, pLost]) rfl ⟨rfl, by repeat (first | exact Below.refl _ _ | refine Below.setCell ?_ (by simp) _ | refine Below.alloc ?_ (by simp) _)⟩
set_option maxHeartbeats 800000 in
theorem judge_calls (bp bt : Nat) (j : PJ) (ballot gr : Int) (h0 : 0 ≤ gr) (h1 : gr < 18446744073709551616) (hn : j.nodes ≤ 5) (a b : Int) (h : St base w0 w (prB bp j bt ballot gr :: L)) :
    Calls Tryz.prog 102 #[rP bp, .int .i64 a, .int .i64 b] w fun e w' => e = .returned (ocV (pJudge j.nodes a b gr)) ∧ Below w.heap.size w w' := by
  have ca := fun o => (pr_cells (h.junk o) List.mem_cons_self).1
  have hM := fun o => Majority_calls (w.alloc o) j.nodes (by omega)
  have hL := fun o => lost_calls (w := w.alloc o) bp bt j ballot gr h0 h1 (h.junk o)
  have HM := Lib.hid hM
  have HL := Lib.hid hL
  obtain ⟨m, hm⟩ : ∃ m, m = pMaj j.nodes := ⟨_, rfl⟩
  rw [← hm] at hM
  have e1 : pJudge j.nodes a b gr = if a < m then ⟨9, 0, 0⟩ else if b < m then pLost gr else ⟨0, 0, 0⟩ := by rw [hm]; rfl
  rw [e1]
  clear h hL
  by_cases ha : a < m
  · rw [if_pos ha]
    have HM := Lib.hid hM
    clear hM e1 hm
    go_enter Tryz.func102, Tryz.ntmps102
    go_wp2_with fail
    (refine Calls.mono (HM.out _) ?_; intro e w' hh; rw [hh.1, hh.2]; clear hh w' e)
    go_wp2
    exact bodyPost_ret (v := ocV ⟨9, 0, 0⟩) (by simp [results, Tryz.results102, go_sem]) rfl ⟨rfl, by repeat (first | exact Below.refl _ _ | refine Below.setCell ?_ (by simp) _ | refine Below.alloc ?_ (by simp) _)⟩
  · rw [if_neg ha]
    by_cases hb : b < m
    · rw [if_pos hb]
      have HM := Lib.hid hM
      clear hM e1 hm
      go_enter Tryz.func102, Tryz.ntmps102
      go_wp2_with fail
      (refine Calls.mono (HM.out _) ?_; intro e w' hh; rw [hh.1, hh.2]; clear hh w' e)
      go_wp2_with fail
      refine (HL.out _).mono ?_
      rintro e w' ⟨rfl, hb'⟩
      have hst : St 0 w w' [(w.heap.size, .cells #[.int .i64 0, .int .u64 0, .int .i64 0] 131 (0, 0))] := by
        have q := (St.start w).alloc (.cells #[.int .i64 0, .int .u64 0, .int .i64 0] 131)
        have q2 := q.grow hb'
        exact ⟨q2.below.mono (Nat.zero_le _), Nat.zero_le _, q2.nodup, fun p hp => ⟨Nat.zero_le _, (q2.holds p hp).2⟩⟩
      have c2 := fun k => hst.cells (t := 131) (fr := (0, 0)) List.mem_cons_self k
      have f2 := fun k => hst.frozen (t := 131) List.mem_cons_self k
      have hz : w.heap.size ≤ w'.heap.size := by have := hb'.size; simp at this; omega
      have HB := Lib.hid (((Below.refl w.heap.size w).alloc (Nat.le_refl _) (.cells #[.int .i64 0, .int .u64 0, .int .i64 0] 131)).trans (hb'.mono (by simp)))
      clear hst hb' HL
      go_wp2
      exact bodyPost_ret (v := ocV (pLost gr)) (by simp [results, Tryz.results102, go_sem, c2]) rfl ⟨rfl, ((HB.out.setCell (p := ⟨w.heap.size, 0, none⟩) (Nat.le_refl _) _).setCell (p := ⟨w.heap.size, 1, none⟩) (Nat.le_refl _) _).setCell (p := ⟨w.heap.size, 2, none⟩) (Nat.le_refl _) _⟩
    · rw [if_neg hb]
      have HM := Lib.hid hM
      clear hM e1 hm
      go_enter Tryz.func102, Tryz.ntmps102
      go_wp2_with fail
      (refine Calls.mono (HM.out _) ?_; intro e w' hh; rw [hh.1, hh.2]; clear hh w' e)
      go_wp2
      exact bodyPost_ret (v := ocV ⟨0, 0, 0⟩) (by simp [results, Tryz.results102, go_sem]) rfl ⟨rfl, by repeat (first | exact Below.refl _ _ | refine Below.setCell ?_ (by simp) _ | refine Below.alloc ?_ (by simp) _)⟩

def bal (j : PJ) : Int := j.round * 8 + j.client + 1
/-- The word of a promise. -/
def pPromise (ballot x : Int) : Int := ballot * 4503599627370496 + x / 1099511627776 % 4096 * 1099511627776 + x % 1099511627776
set_option maxHeartbeats 800000 in
theorem promise_calls (bp bt : Nat) (j : PJ) (ballot gr x : Int) (hb0 : 0 ≤ ballot) (hb1 : ballot ≤ 4095) (h0 : 0 ≤ x) (h1 : x < 18446744073709551616) (h : St base w0 w (prB bp j bt ballot gr :: L)) :
    Calls Tryz.prog 104 #[rP bp, .int .u64 x] w fun e w' => e = .returned (.int .u64 (pPromise ballot x)) ∧ w' = w := by
  obtain ⟨c1, f1⟩ := pr_cells h List.mem_cons_self
  have HS := Lib.hid (Split_calls w x h0 h1)
  have HC := Lib.hid (Consensus_calls w ballot (x / 1099511627776 % 4096) (x % 1099511627776) hb0 hb1 (by omega) (by omega) (by omega) (by omega))
  clear h h0 h1 hb0 hb1
  go_enter Tryz.func104, Tryz.ntmps104
  go_wp2_with fail
  (refine Calls.mono HS.out ?_; intro e w' hh; rw [hh.1, hh.2]; clear hh w' e)
  go_wp2_with fail
  (refine Calls.mono HC.out ?_; intro e w' hh; rw [hh.1, hh.2]; clear hh w' e)
  go_wp2
  go_ret
  exact ⟨rfl, rfl⟩
end Go.Proofs.YtaojipegpjolcaaGreat
set_option linter.unusedVariables false
set_option linter.unusedSimpArgs false
namespace Go.Proofs.YtaojipegpjolcaaGreat
open Go.RowKit Go.Sort Go.Proofs.BodegaHeap
variable {base : Nat} {w0 w : World} {L : List Blk}

/-- What becomes of a batch that is asked for: it is answered, it must be asked, or its replies misfit. -/
inductive Res where
  | done (k : Nat)
  | ask (l : List Vb)
  | wrong
def tBatch (gots : List (List Dn)) (k : Nat) (l : List Vb) : Res × List Dn :=
  if l.isEmpty then (.done k, [])
  else match gots[k]? with
    | none => (.ask l, [])
    | some d => if fitB l d then (.done (k + 1), d) else (.wrong, [])
/-- Verbs without words. -/
abbrev nv (l : List Vb) : List GV := l.map (fun v => (v, nilRw))
abbrev nvC (l : List Vb) : List Value := (nv l).flatMap gvC
theorem nv_len (l : List Vb) : (nv l).length = l.length := by simp
theorem nv_fst (l : List Vb) : (nv l).map (·.1) = l := by simp [nv, Function.comp_def]
theorem nv_words (l : List Vb) : (nv l).flatMap gvH = [] := by
  rw [List.flatMap_eq_nil_iff]
  intro x hx
  obtain ⟨v, _, rfl⟩ := List.mem_map.1 hx
  rfl
theorem nv_mem {ra : Rw} {l : List Vb} (h : ∀ p, p ∈ rowH ra 113 (nvC l) → p ∈ L) : ∀ p, p ∈ batchH ra (nv l) → p ∈ L := by
  intro p hp
  rw [batchH, nv_words, List.append_nil] at hp
  exact h p hp

/-- A conversation in memory. -/
def TkIs (base : Nat) (w0 w : World) (bt : Nat) (ro : Rw) (gts : List GT) : Res → List Blk → Prop
  | .done k, M => ∃ gv, TGot ro gts k gv ∧ St base w0 w (tkB bt gv (.slice none 0 0) false :: M)
  | .ask l, M => ∃ a c ra, RowOk ra 9 l.length (nvC l) ∧ 0 < l.length ∧ l.length ≤ 1000 ∧ St base w0 w (tkB bt (.slice a 0 c) (rowV ra l.length) false :: (rowH ra 113 (nvC l) ++ M))
  | .wrong, M => ∃ a n c, n ≤ 1000 ∧ St base w0 w (tkB bt (.slice a n c) (.slice none 0 0) true :: M)
abbrev gots (gts : List GT) : List (List Dn) := gts.map GT.pure
/-- The replies to a batch. -/
structure Ans (ro : Rw) (gts : List GT) (d : List Dn) (g : GT) : Prop where
  eq : g.pure = d
  ok : GtOk g
  mem : ∀ p, p ∈ gtH g → p ∈ gotH ro gts
theorem Ans.nil {ro : Rw} {gts : List GT} : Ans ro gts [] ⟨nilRw, []⟩ := ⟨rfl, ⟨nilRw_ok 2, by simp, fun d hd => by cases hd⟩, fun p hp => by simp [gtH, rowH_nil] at hp⟩
def BOut (base : Nat) (w0 : World) (bt : Nat) (ro : Rw) (gts : List GT) (ra : Rw) (l : List Vb) (M : List Blk) (v : Value) (w' : World) : Res × List Dn → Prop
  | (.done k, d) => ∃ g, v = .tuple #[rowV g.r g.ds.length, .bool true] ∧ Ans ro gts d g ∧ TkIs base w0 w' bt ro gts (.done k) (rowH ra 113 (nvC l) ++ M)
  | (.ask q, _) => v = .tuple #[.slice none 0 0, .bool false] ∧ TkIs base w0 w' bt ro gts (.ask q) M
  | (.wrong, _) => v = .tuple #[.slice none 0 0, .bool false] ∧ TkIs base w0 w' bt ro gts .wrong M
theorem Batch_calls (bt : Nat) (ro : Rw) (gts : List GT) (hgo : GotOk ro gts) (k : Nat) (ra : Rw) (l : List Vb) (hl : l.length ≤ 1000) (hra : RowOk ra 9 l.length (nvC l)) (M : List Blk) (hmo : ∀ p, p ∈ gotH ro gts → p ∈ M)
    (h : TkIs base w0 w bt ro gts (.done k) (rowH ra 113 (nvC l) ++ M)) (R : Ending → World → Prop)
    (hR : ∀ v w', BOut base w0 bt ro gts ra l M v w' (tBatch (gots gts) k l) → R (.returned v) w') :
    Calls Tryz.prog 107 #[tP bt, rowV ra l.length] w R := by
  obtain ⟨gv, hgv, hst⟩ := h
  by_cases h0 : l = []
  · subst h0
    refine Batch_empty bt _ _ R (hR _ _ ?_)
    exact ⟨⟨nilRw, []⟩, rfl, Ans.nil, gv, hgv, hst⟩
  · have hl0 : 0 < l.length := List.length_pos_iff.2 h0
    have he : l.isEmpty = false := by cases l <;> simp at h0 ⊢
    unfold tBatch at hR
    rw [if_neg (by rw [he]; simp)] at hR
    have hmo2 : ∀ p, p ∈ gotH ro gts → p ∈ rowH ra 113 (nvC l) ++ M := fun p hp => List.mem_append_right _ (hmo p hp)
    have hmq : ∀ p, p ∈ batchH ra (nv l) → p ∈ rowH ra 113 (nvC l) ++ M := nv_mem (fun p hp => List.mem_append_left _ hp)
    cases hg : gts[k]? with
    | none =>
      have e : (gots gts)[k]? = none := by simp [hg]
      rw [e] at hR
      simp only at hR
      have hk : ∃ a c, gv = .slice a 0 c := by
        rcases hgv with ⟨hk, _⟩ | ⟨_, a, c, e⟩
        · have := List.getElem?_eq_none_iff.1 hg; omega
        · exact ⟨a, c, e⟩
      obtain ⟨a, c, hgv2⟩ := hk
      refine Batch_ask bt gv (.slice none 0 0) false a c hgv2 _ _ _ hl0 hl hst R (fun w' h' => hR _ w' ⟨rfl, a, c, ra, hra, hl0, hl, ?_⟩)
      rw [← hgv2]
      exact h'
    | some g =>
      have e : (gots gts)[k]? = some g.pure := by simp [hg]
      rw [e] at hR
      simp only at hR
      have hq : RowOk ra 9 (nv l).length ((nv l).flatMap gvC) := by rw [nv_len]; exact hra
      have hkl := (List.getElem?_eq_some_iff.1 hg).1
      cases hf : fitB l g.pure with
      | false =>
        rw [hf] at hR
        simp only [Bool.false_eq_true, if_false] at hR
        have q := Batch_wrong bt (.slice none 0 0) false ro gts hgo k gv hgv g hg ra (nv l) hq (by rw [nv_len]; exact hl0) (by rw [nv_len]; exact hl) (by rw [nv_fst]; exact hf) hmo2 hmq hst R
        rw [nv_len] at q
        refine q (fun w' h' => hR _ w' ⟨rfl, ?_⟩)
        rcases hgv with ⟨_, b, _, rfl⟩ | ⟨hk, _⟩
        · exact ⟨some ⟨b, k, none⟩, gts.length - k, gts.length - k + ro.k, by have := hgo.len; omega, (h'.ac (M := rowH ra 113 (nvC l) ++ (tkB bt (.slice (some ⟨b, k, none⟩) (gts.length - k) (gts.length - k + ro.k)) (.slice none 0 0) true :: M)) (fun y => by simp only [cnt_append, cnt_cons]; omega)).drop⟩
        · omega
      | true =>
        rw [hf] at hR
        simp only [if_true] at hR
        have q := Batch_take bt (.slice none 0 0) false ro gts hgo k gv hgv g hg ra (nv l) hq (by rw [nv_len]; exact hl0) (by rw [nv_len]; exact hl) (by rw [nv_fst]; exact hf) hmo2 hmq hst R
        rw [nv_len] at q
        exact q (fun gv' w' h1 h' => hR _ w' ⟨g, rfl, ⟨rfl, hgo.each g (List.mem_of_getElem? hg), got_mem (fun p hp => hp) (List.mem_of_getElem? hg)⟩, gv', h1, h'⟩)

abbrev Ac := Int × Int
abbrev acC (a : Ac) : List Value := [.int .i64 a.1, .int .u64 a.2]
abbrev W64 (x : Int) : Prop := 0 ≤ x ∧ x < 18446744073709551616
theorem elem_ac : ElemOk Tryz.prog 162 166 2 16 where
  ut := Tryz.underlying162
  info := by
    have h : (Tryz.prog.info? 166).map (fun i => (i.zero, i.size, i.bytes)) = some (some (.agg #[.int .i64 0, .int .u64 0]), 2, 16) := by kernel_rfl
    obtain ⟨i, hi, hz0, hz1, hz2⟩ := info_parts h
    exact ⟨i, _, hi, hz0, hz1, hz2, rfl⟩
  pos := by decide
  small := by decide

/-- The value of the greatest accepted ballot so far, and that ballot. -/
def pVal1 (s : Int × Int) (a : Ac) : Int × Int := if s.2 < a.2 / 1099511627776 % 4096 then (a.2 % 1099511627776, a.2 / 1099511627776 % 4096) else s
def pVal (own : Int) (l : List Ac) : Int × Int := l.foldl pVal1 (own, 0)

set_option maxHeartbeats 1600000 in
theorem value_calls (bp bt : Nat) (j : PJ) (ballot gr : Int) (r : Rw) (l : List Ac) (hr : RowOk r 2 l.length (l.flatMap acC)) (hl : l.length ≤ 1000) (hx : ∀ a ∈ l, W64 a.2) (h : St base w0 w L) (hp : prB bp j bt ballot gr ∈ L) (hm : ∀ p, p ∈ rowH r 166 (l.flatMap acC) → p ∈ L) :
    Calls Tryz.prog 105 #[rP bp, rowV r l.length] w fun e w' => e = .returned (.int .u64 (pVal j.value l).1) ∧ Below w.heap.size w w' := by
  obtain ⟨c1, f1⟩ := pr_cells h hp
  obtain ⟨A, hA⟩ : ∃ A, rowA r = A := ⟨_, rfl⟩
  rw [show rowV r l.length = .slice A l.length (l.length + r.k) by rw [← hA]]
  have HA := Lib.hid hA
  have HH := Lib.hid h
  have HR := Lib.hid hr
  have HM := Lib.hid hm
  have HX := Lib.hid hx
  clear h hr hm hA hx hp
  go_enter Tryz.func105, Tryz.ntmps105
  go_wp2_with fail
  clear c1 f1
  go_loopw [5, 6, 19] (fun v g i wr => ∃ k : Nat, k ≤ l.length ∧ i = .int .i64 k ∧ v = .int .u64 ((l.take k).foldl pVal1 (j.value, 0)).1 ∧ g = .int .u64 ((l.take k).foldl pVal1 (j.value, 0)).2 ∧ Below w.heap.size w wr) (fun v g i wr => l.length - (intOf i).toNat)
  case atStart => exact ⟨0, Nat.zero_le _, rfl, rfl, rfl, Below.refl _ _⟩
  case round =>
    obtain ⟨k, hk, rfl, rfl, rfl, hb⟩ := hrel
    by_cases hlt : k < l.length
    · obtain ⟨a, ha⟩ : ∃ a, l[k]? = some a := ⟨l[k], by simp [hlt]⟩
      obtain ⟨b, hbk⟩ := HR.out.pos (by omega)
      obtain rfl : A = some ⟨b, 0, none⟩ := by rw [← HA.out]; simp [rowA, hbk]
      have hst := HH.out.grow hb
      have d0 := hst.recCell (enc := acC) (s := 2) (fun _ => rfl) hbk HM.out ha 0 (by decide)
      have d1 := hst.recCell (enc := acC) (s := 2) (fun _ => rfl) hbk HM.out ha 1 (by decide)
      simp only [Nat.add_zero, List.getElem?_cons_zero, List.getElem?_cons_succ] at d0 d1
      obtain ⟨s, hs⟩ : ∃ s, s = (l.take k).foldl pVal1 (j.value, 0) := ⟨_, rfl⟩
      have hsn : (l.take (k + 1)).foldl pVal1 (j.value, 0) = pVal1 s a := by
        have hkl := List.getElem?_eq_some_iff.1 ha
        rw [List.take_succ_eq_append_getElem hkl.1, hkl.2, List.foldl_append, ← hs]; rfl
      rw [← hs]
      have hxa := HX.out a (List.mem_of_getElem? ha)
      have HS := Lib.hid (fun W => Split_calls W a.2 hxa.1 hxa.2)
      have HSN := Lib.hid hsn
      have HB2 := Lib.hid (hb.alloc hb.size (.cells #[.int .i64 a.1, .int .u64 a.2] 166))
      have hltI : (k : Int) < (l.length : Int) := by omega
      clear hs hsn hst ha hbk hb hxa
      by_cases hg : s.2 < a.2 / 1099511627776 % 4096
      · have e1 : pVal1 s a = (a.2 % 1099511627776, a.2 / 1099511627776 % 4096) := by unfold pVal1; rw [if_pos hg]
        have HE := Lib.hid e1
        clear e1
        go_wp2_with fail
        (refine Calls.mono (HS.out _) ?_; intro e w' hh; rw [hh.1, hh.2]; clear hh w' e)
        go_wp2
        go_roundw
        case rel => ((repeat apply Exists.intro (α := Value)); (first | refine ⟨?_, rfl⟩ | skip); (all_goals first | exact undef | skip)); exact ⟨k + 1, by omega, by go_num, by rw [HSN.out, HE.out], by rw [HSN.out, HE.out], HB2.out⟩
        case measure => simp [intOf]; omega
      · have e1 : pVal1 s a = s := by unfold pVal1; rw [if_neg hg]
        have HE := Lib.hid e1
        clear e1
        go_wp2_with fail
        (refine Calls.mono (HS.out _) ?_; intro e w' hh; rw [hh.1, hh.2]; clear hh w' e)
        go_wp2
        go_roundw
        case rel => ((repeat apply Exists.intro (α := Value)); (first | refine ⟨?_, rfl⟩ | skip); (all_goals first | exact undef | skip)); exact ⟨k + 1, by omega, by go_num, by rw [HSN.out, HE.out], by rw [HSN.out, HE.out], HB2.out⟩
        case measure => simp [intOf]; omega
    · obtain rfl : k = l.length := by omega
      rw [List.take_length]
      have HB2 := Lib.hid hb
      clear hb HH
      go_wp2
      go_ret
      exact ⟨rfl, HB2.out⟩

set_option maxHeartbeats 800000 in
theorem accept_calls (bp bt bx bv : Nat) (j : PJ) (ballot gr value x : Int) (hb0 : 0 ≤ ballot) (hb1 : ballot ≤ 4095) (hv0 : 0 ≤ value) (hv1 : value ≤ 1099511627775) (h : St base w0 w L) (hp : prB bp j bt ballot gr ∈ L)
    (hx : (bx, Obj.cells #[rP bp] 146 (0, 0)) ∈ L) (hv : (bv, Obj.cells #[.int .u64 value] 22 (0, 0)) ∈ L) :
    Calls Tryz.prog 106 #[.int .u64 x, .pointer (some ⟨bx, 0, none⟩), .pointer (some ⟨bv, 0, none⟩)] w fun e w' => e = .returned (.int .u64 (ballot * 4503599627370496 + ballot * 1099511627776 + value)) ∧ Below w.heap.size w w' := by
  obtain ⟨c1, f1⟩ := pr_cells h hp
  have c2 : w.cell? ⟨bx, 0, none⟩ = some (rP bp) := h.cells (t := 146) (fr := (0, 0)) hx 0
  have c3 : w.cell? ⟨bv, 0, none⟩ = some (.int .u64 value) := h.cells (t := 22) (fr := (0, 0)) hv 0
  have HC := Lib.hid (fun W => Consensus_calls W ballot ballot value hb0 hb1 hb0 hb1 hv0 hv1)
  clear h hx hv hp f1
  go_enter Tryz.func106, Tryz.ntmps106
  go_wp2_with fail
  go_quiet ((go_at_call 70; exact Calls.quiet_of_same (HC.out _)))
  go_wp2
  go_ret
  exact ⟨rfl, ((St.start w).drewN nq).below⟩
end Go.Proofs.YtaojipegpjolcaaGreat
set_option linter.unusedVariables false
set_option linter.unusedSimpArgs false
namespace Go.Proofs.YtaojipegpjolcaaGreat
open Go.RowKit Go.Sort Go.Proofs.BodegaHeap
variable {base : Nat} {w0 w : World} {L : List Blk}

def rdVerb (j : PJ) (i : Nat) : Vb := ⟨1, i, 8 + j.number, 1, 0, 0, [], 0, 0⟩
def rdAsk (j : PJ) : List Vb := (List.range j.nodes.toNat).map (rdVerb j)
theorem rdAsk_len (j : PJ) : (rdAsk j).length = j.nodes.toNat := by simp [rdAsk]
theorem rdAsk_take (j : PJ) (k : Nat) (h : k < j.nodes.toNat) : (rdAsk j).take (k + 1) = (rdAsk j).take k ++ [rdVerb j k] := by
  have : (rdAsk j)[k]? = some (rdVerb j k) := by simp [rdAsk, h]
  have h2 := List.getElem?_eq_some_iff.1 this
  rw [List.take_succ_eq_append_getElem h2.1, h2.2]
def rdStep (s : List Ac × Int × Nat) (d : Dn) : List Ac × Int × Nat := if d.code = 0 then (s.1 ++ [((s.2.2 : Int), dWord d)], pMet s.2.1 (dWord d), s.2.2 + 1) else (s.1, s.2.1, s.2.2 + 1)
def rdFold (gr : Int) (ds : List Dn) : List Ac × Int × Nat := ds.foldl rdStep ([], gr, 0)
theorem rdFold_snoc (gr : Int) (ds : List Dn) (k : Nat) (d : Dn) (h : ds[k]? = some d) : rdFold gr (ds.take (k + 1)) = rdStep (rdFold gr (ds.take k)) d := by
  have h2 := List.getElem?_eq_some_iff.1 h
  unfold rdFold
  rw [List.take_succ_eq_append_getElem h2.1, h2.2, List.foldl_append]; rfl
theorem rdFold_idx (gr : Int) (ds : List Dn) : ∀ s : List Ac × Int × Nat, (ds.foldl rdStep s).2.2 = s.2.2 + ds.length ∧ (ds.foldl rdStep s).1.length ≤ s.1.length + ds.length := by
  induction ds with
  | nil => intro s; simp
  | cons d tl ih =>
    intro s
    rw [List.foldl_cons]
    have := ih (rdStep s d)
    have e : (rdStep s d).2.2 = s.2.2 + 1 ∧ (rdStep s d).1.length ≤ s.1.length + 1 := by unfold rdStep; split <;> simp
    simp only [List.length_cons]
    omega
/-- All words are words. -/
def Rng (gots : List (List Dn)) : Prop := ∀ ds ∈ gots, ∀ d ∈ ds, ∀ x ∈ d.words, W64 x
theorem dWord_rng {d : Dn} (h : ∀ x ∈ d.words, W64 x) : W64 (dWord d) := by
  unfold dWord
  cases hw : d.words with
  | nil => exact ⟨by simp, by simp⟩
  | cons x xs => exact h x (by rw [hw]; exact List.mem_cons_self)

/-- What read hands back. -/
def RdOut (base : Nat) (w0 : World) (bt bp : Nat) (ro : Rw) (gts : List GT) (j : PJ) (ballot gr : Int) (M : List Blk) (v : Value) (w' : World) : Res × List Dn → Prop
  | (.done k, d) => ∃ r, v = .tuple #[rowV r (rdFold gr d).1.length, .bool true] ∧ RowOk r 2 (rdFold gr d).1.length ((rdFold gr d).1.flatMap acC) ∧ TkIs base w0 w' bt ro gts (.done k) (rowH r 166 ((rdFold gr d).1.flatMap acC) ++ (prB bp j bt ballot (rdFold gr d).2.1 :: M))
  | (.ask q, _) => v = .tuple #[.slice none 0 0, .bool false] ∧ TkIs base w0 w' bt ro gts (.ask q) (prB bp j bt ballot gr :: M)
  | (.wrong, _) => v = .tuple #[.slice none 0 0, .bool false] ∧ TkIs base w0 w' bt ro gts .wrong (prB bp j bt ballot gr :: M)

theorem nvC_snoc (l : List Vb) (v : Vb) (hv : v.words = []) : nvC (l ++ [v]) = nvC l ++ (vCells v none 0).toList := by
  simp [nvC, nv, gvC, rowA, nilRw, hv]
/-- A row of replies in one's own loop. -/
theorem ans_cell {ro : Rw} {gts : List GT} {d : List Dn} {g : GT} (ha : Ans ro gts d g) {b : Nat} (hb : g.r.blk = some b) (hm : ∀ p, p ∈ gotH ro gts → p ∈ L) (h : St base w0 w L) {k : Nat} {x : DV} (hx : g.ds[k]? = some x) :
    w.cell? ⟨b, k * 2, none⟩ = some (.int .i64 x.1.code) ∧ w.cell? ⟨b, k * 2 + 1, none⟩ = some (.slice (rowA x.2) x.1.words.length (x.1.words.length + x.2.k)) :=
  ⟨gt_cell hb (fun p hp => hm p (ha.mem p hp)) h hx 0 (by decide), gt_cell hb (fun p hp => hm p (ha.mem p hp)) h hx 1 (by decide)⟩

set_option maxRecDepth 100000 in
set_option maxHeartbeats 4000000 in
theorem read_calls (bp bt : Nat) (j : PJ) (ballot gr : Int) (hn0 : 1 ≤ j.nodes) (hn1 : j.nodes ≤ 5) (hv0 : 0 ≤ j.number) (hv1 : j.number ≤ 15) (ro : Rw) (gts : List GT) (hgo : GotOk ro gts) (hrg : Rng (gots gts)) (k : Nat) (M : List Blk) (hmo : ∀ p, p ∈ gotH ro gts → p ∈ M)
    (h : TkIs base w0 w bt ro gts (.done k) (prB bp j bt ballot gr :: M)) (R : Ending → World → Prop)
    (hR : ∀ v w', RdOut base w0 bt bp ro gts j ballot gr M v w' (tBatch (gots gts) k (rdAsk j)) → R (.returned v) w') :
    Calls Tryz.prog 100 #[rP bp] w R := by
  obtain ⟨n, hn⟩ := Int.eq_ofNat_of_zero_le (show 0 ≤ j.nodes by omega)
  have hnn : j.nodes.toNat = n := by omega
  obtain ⟨gv, hgv, hst⟩ := h
  have hc : ∀ W X, St base w0 W (X ++ (tkB bt gv (.slice none 0 0) false :: prB bp j bt ballot gr :: M)) → ∀ k, W.cell? ⟨bp, k, none⟩ = (prC j bt ballot gr)[k]? := fun W X hW => (pr_cells hW (List.mem_append_right _ (List.mem_cons_of_mem _ List.mem_cons_self))).1
  have c1 := hc w [] hst
  have hnI : j.nodes = (n : Int) := hn
  have HGV := Lib.hid hgv
  have HST := Lib.hid hst
  have HC := Lib.hid hc
  have HGO := Lib.hid hgo
  have HRG := Lib.hid hrg
  have HMO := Lib.hid hmo
  have HR := Lib.hid hR
  have HNN := Lib.hid hnn
  have hn5 : n ≤ 5 := by omega
  clear hgv hst hc hgo hrg hmo hR hn hnn
  go_enter Tryz.func100, Tryz.ntmps100
  go_wp2_with fail
  clear c1
  go_loopw [4, 14] (fun a i wr => ∃ (m : Nat) (r : Rw), m ≤ n ∧ i = .int .i64 m ∧ a = rowV r m ∧ RowOk r 9 m (nvC ((rdAsk j).take m)) ∧ St base w0 wr (rowH r 113 (nvC ((rdAsk j).take m)) ++ (tkB bt gv (.slice none 0 0) false :: prB bp j bt ballot gr :: M))) (fun a i wr => n - (intOf i).toNat)
  case atStart => exact ⟨0, nilRw, Nat.zero_le _, rfl, rfl, nilRw_ok 9, HST.out⟩
  case round =>
    clear HST
    obtain ⟨m, r, hm, rfl, rfl, hr, hst⟩ := hrel
    by_cases hlt : m < n
    · have c1 := HC.out _ _ hst
      have hCons := Cons_calls wr j.number hv0 hv1
      have hsn := rdAsk_take j m (by rw [HNN.out]; exact hlt)
      have hltI : (m : Int) < (n : Int) := by omega
      have HCO := Lib.hid hCons
      have HSN := Lib.hid hsn
      have HS := Lib.hid hst
      have HRW := Lib.hid hr
      clear hCons hsn hst hr
      go_wp2_with fail
      refine HCO.out.mono ?_
      rintro e w2 ⟨rfl, hb2⟩
      have H2 := Lib.hid (HS.out.grow hb2)
      clear hb2 HCO HS c1
      go_wp2_with (at_builtin; refine wp_appendN elem_vb rfl _ _ rfl r m _ rfl HRW.out H2.out (vCells (rdVerb j m) none 0) rfl rfl (by simp [Value.oneCell']) (by omega) ?_)
      intro r' w4 hr' h4 _ _
      have e1 : nvC ((rdAsk j).take m) ++ (vCells (rdVerb j m) none 0).toList = nvC ((rdAsk j).take (m + 1)) := by rw [HSN.out, nvC_snoc _ _ rfl]
      have e2 : nvC ((rdAsk j).take m) ++ #[Value.int .i64 1, .int .i64 m, .int .i64 (8 + j.number), .int .i64 1, .int .u64 0, .int .u64 0, .slice none 0 0, .int .u64 0, .int .i64 0].toList = nvC ((rdAsk j).take (m + 1)) := e1
      have hr2 : RowOk r' 9 (m + 1) (nvC ((rdAsk j).take (m + 1))) := by rw [← e2]; exact hr'
      have h5 : St base w0 w4 (rowH r' 113 (nvC ((rdAsk j).take (m + 1))) ++ (tkB bt gv (.slice none 0 0) false :: prB bp j bt ballot gr :: M)) := by rw [← e2]; exact h4
      have H5 := Lib.hid h5
      have HR' := Lib.hid hr2
      clear h4 hr' hr2 h5 e1 e2 H2
      go_wp2
      go_roundw
      case rel => ((repeat apply Exists.intro (α := Value)); (first | refine ⟨?_, rfl⟩ | skip); (all_goals first | exact undef | skip)); exact ⟨m + 1, r', by omega, by go_num, by simp [rowV], HR'.out, H5.out⟩
      case measure => simp [intOf]; omega
    · obtain rfl : m = n := by omega
      have htk : (rdAsk j).take m = rdAsk j := by rw [List.take_of_length_le (by rw [rdAsk_len, HNN.out]; exact Nat.le_refl _)]
      rw [htk] at hr hst
      have hlen : (rdAsk j).length = m := by rw [rdAsk_len, HNN.out]
      have c1 := HC.out _ _ hst
      have hB := fun R hR => Batch_calls (base := base) (w0 := w0) (w := wr) bt ro gts HGO.out k r (rdAsk j) (by omega) (by rw [hlen]; exact hr) (prB bp j bt ballot gr :: M) (fun p hp => List.mem_cons_of_mem _ (HMO.out p hp)) ⟨gv, HGV.out, hst.ac (fun y => by simp only [cnt_append, cnt_cons]; omega)⟩ R hR
      rw [hlen] at hB
      have HB := Lib.hid hB
      clear hr hst htk hB HGV HC
      go_wp2_with fail
      refine HB.out _ ?_
      intro v w2 hout
      obtain ⟨res, hres⟩ : ∃ res, tBatch (gots gts) k (rdAsk j) = res := ⟨_, rfl⟩
      have HR2 := HR.out
      rw [hres] at hout HR2
      have HR := Lib.hid HR2
      clear HR2 HB hlen c1
      rcases res with ⟨kk | q | _, d⟩
      · have hdm : d ≠ [] → d ∈ gots gts := fun hd => by
          unfold tBatch at hres
          split at hres
          · simp only [Prod.mk.injEq] at hres; exact absurd hres.2.symm hd
          · split at hres
            · simp only [Prod.mk.injEq] at hres; exact absurd hres.2.symm hd
            · rename_i dd hdd
              split at hres
              · simp only [Prod.mk.injEq] at hres; rw [← hres.2]; exact List.mem_of_getElem? hdd
              · simp only [Prod.mk.injEq] at hres; exact absurd hres.2.symm hd
        have HDM := Lib.hid hdm
        clear hdm hres
        obtain ⟨g, rfl, hans, gv', hgv', h3⟩ := hout
        have HANS := Lib.hid hans
        have HGV := Lib.hid hgv'
        have h4 : St base w0 w2 (rowH nilRw 166 ((rdFold gr (d.take 0)).1.flatMap acC) ++ (tkB bt gv' (.slice none 0 0) false :: prB bp j bt ballot (rdFold gr (d.take 0)).2.1 :: M)) := by
          have q : St base w0 w2 (rowH r 113 (nvC (rdAsk j)) ++ (tkB bt gv' (.slice none 0 0) false :: prB bp j bt ballot gr :: M)) := h3.ac (fun y => by simp only [cnt_append, cnt_cons]; omega)
          exact q.drop
        have H4 := Lib.hid h4
        obtain ⟨B, hB⟩ : ∃ B, rowA g.r = B := ⟨_, rfl⟩
        rw [show rowV g.r g.ds.length = .slice B g.ds.length (g.ds.length + g.r.k) by rw [← hB]]
        have HBB := Lib.hid hB
        have hgl := hans.ok.len
        clear hans hgv' h3 h4 hB
        go_wp2_with fail
        go_loopw [2, 40] (fun a i wr => ∃ (q : Nat) (r : Rw), q ≤ g.ds.length ∧ i = .int .i64 q ∧ a = rowV r (rdFold gr (d.take q)).1.length ∧ RowOk r 2 (rdFold gr (d.take q)).1.length ((rdFold gr (d.take q)).1.flatMap acC) ∧
          St base w0 wr (rowH r 166 ((rdFold gr (d.take q)).1.flatMap acC) ++ (tkB bt gv' (.slice none 0 0) false :: prB bp j bt ballot (rdFold gr (d.take q)).2.1 :: M))) (fun a i wr => g.ds.length - (intOf i).toNat)
        case atStart => exact ⟨0, nilRw, Nat.zero_le _, rfl, rfl, nilRw_ok 2, H4.out⟩
        case round =>
          clear H4
          obtain ⟨q, r2, hq, rfl, rfl, hr2, hst2⟩ := hrel
          by_cases hlt2 : q < g.ds.length
          · obtain ⟨x, hx⟩ : ∃ x, g.ds[q]? = some x := ⟨g.ds[q], by simp [hlt2]⟩
            obtain ⟨b, hb⟩ := HANS.out.ok.r.pos (by omega)
            obtain rfl : B = some ⟨b, 0, none⟩ := by rw [← HBB.out]; simp [rowA, hb]
            have hmo2 : ∀ (X : List Blk) p, p ∈ gotH ro gts → p ∈ X ++ (tkB bt gv' (.slice none 0 0) false :: prB bp j bt ballot (rdFold gr (d.take q)).2.1 :: M) := fun X p hp => List.mem_append_right _ (List.mem_cons_of_mem _ (List.mem_cons_of_mem _ (HMO.out p hp)))
            obtain ⟨d0, d1⟩ := ans_cell HANS.out hb (hmo2 _) hst2 hx
            have hxd : d[q]? = some x.1 := by rw [← HANS.out.eq]; simp [GT.pure, hx]
            have hsn := rdFold_snoc gr d q x.1 hxd
            have hdq : q ≤ d.length := by have := congrArg List.length HANS.out.eq; simp [GT.pure] at this; omega
            have hidx : (rdFold gr (d.take q)).2.2 = q ∧ (rdFold gr (d.take q)).1.length ≤ q := by
              have := rdFold_idx gr (d.take q) ([], gr, 0)
              simp only [List.length_take, List.length_nil] at this
              have e : min q d.length = q := by omega
              rw [e] at this
              exact ⟨by have := this.1; simp only [rdFold]; omega, by have := this.2; simp only [rdFold]; omega⟩
            obtain ⟨s, hs⟩ : ∃ s, s = rdFold gr (d.take q) := ⟨_, rfl⟩
            rw [← hs] at hr2 hst2 hsn hidx hmo2 ⊢
            obtain ⟨W, hW⟩ : ∃ W, W = wr.alloc (.cells #[.int .i64 x.1.code, .slice (rowA x.2) x.1.words.length (x.1.words.length + x.2.k)] 94) := ⟨_, rfl⟩
            have h1 : St base w0 W (rowH r2 166 (s.1.flatMap acC) ++ (tkB bt gv' (.slice none 0 0) false :: prB bp j bt ballot s.2.1 :: ((wr.heap.size, .cells #[.int .i64 x.1.code, .slice (rowA x.2) x.1.words.length (x.1.words.length + x.2.k)] 94 (0, 0)) :: M))) := by
              rw [hW]; exact (hst2.alloc _).ac (fun y => by simp only [cnt_append, cnt_cons]; omega)
            have hxw := HANS.out.ok.ds x (List.mem_of_getElem? hx)
            have hxm : ∀ p, p ∈ dnH x → p ∈ M := fun p hp => HMO.out p (HANS.out.mem p (gt_words (L := gtH g) (fun p hp => hp) (List.mem_of_getElem? hx) p hp))
            have hw64 : W64 (dWord x.1) := by
              refine dWord_rng (HRG.out d ?_ x.1 (List.mem_of_getElem? hxd))
              exact HDM.out (by intro e; rw [e] at hxd; simp at hxd)
            have hWd := fun (W : World) (X : List Blk) (h : St base w0 W (X ++ M)) => Word_calls x hxw h (fun p hp => List.mem_append_right _ (hxm p hp))
            have hbox : ∀ (W : World) (X : List Blk) g3, St base w0 W (X ++ (tkB bt gv' (.slice none 0 0) false :: prB bp j bt ballot g3 :: ((wr.heap.size, .cells #[.int .i64 x.1.code, .slice (rowA x.2) x.1.words.length (x.1.words.length + x.2.k)] 94 (0, 0)) :: M))) → (∀ k, W.cell? ⟨wr.heap.size, k, none⟩ = (#[.int .i64 x.1.code, .slice (rowA x.2) x.1.words.length (x.1.words.length + x.2.k)] : Array Value)[k]?) :=
              fun W X g3 h k => h.cells (t := 94) (fr := (0, 0)) (by simp) k
            have cb := hbox W _ _ h1
            have hltI : (q : Int) < (g.ds.length : Int) := by omega
            have hsl : s.1.length ≤ 1000 := by omega
            have hsi := hidx.1
            have HSI := Lib.hid hsi
            have HSN := Lib.hid hsn
            have HW := Lib.hid hW
            have H1 := Lib.hid h1
            have HBX := Lib.hid hbox
            have HWD := Lib.hid hWd
            have HR2 := Lib.hid hr2
            have HW64 := Lib.hid hw64
            clear hsi hsn hW h1 hbox hWd hr2 hst2 hs hx hb hmo2 hxd hidx hxw hxm hdq hw64
            by_cases hcode : x.1.code = 0
            · have hcb : (x.1.code == 0) = true := by simp [hcode]
              have e1 : rdStep s x.1 = (s.1 ++ [((q : Int), dWord x.1)], pMet s.2.1 (dWord x.1), q + 1) := by unfold rdStep; rw [if_pos hcode, HSI.out]
              have HE := Lib.hid e1
              clear e1 hcode
              go_wp2_with fail
              rw [← HW.out]
              refine (HWD.out W _ (H1.out.ac (M := (rowH r2 166 (s.1.flatMap acC) ++ [tkB bt gv' (.slice none 0 0) false, prB bp j bt ballot s.2.1, (wr.heap.size, .cells #[.int .i64 x.1.code, .slice (rowA x.2) x.1.words.length (x.1.words.length + x.2.k)] 94 (0, 0))]) ++ M) (fun y => by simp only [cnt_append, cnt_cons, cnt_nil]; omega))).mono ?_
              rintro e w3 ⟨rfl, hb3⟩
              have H3 := Lib.hid (H1.out.grow hb3)
              clear hb3 cb H1 HW
              go_wp2_with (at_builtin; refine wp_appendN elem_ac rfl _ _ rfl r2 s.1.length _ rfl HR2.out H3.out #[.int .i64 q, .int .u64 (dWord x.1)] rfl rfl (by simp [Value.oneCell']) (by omega) ?_)
              intro r' w4 hr' h4 _ _
              have e1 : s.1.flatMap acC ++ #[Value.int .i64 q, .int .u64 (dWord x.1)].toList = (s.1 ++ [((q : Int), dWord x.1)]).flatMap acC := by simp [List.flatMap_append]
              rw [e1] at hr' h4
              have cb := HBX.out w4 _ _ h4
              have H4 := Lib.hid h4
              have HR' := Lib.hid hr'
              clear h4 hr' e1 H3
              go_wp2_with fail
              refine (HWD.out w4 _ (H4.out.ac (M := (rowH r' 166 ((s.1 ++ [((q : Int), dWord x.1)]).flatMap acC) ++ [tkB bt gv' (.slice none 0 0) false, prB bp j bt ballot s.2.1, (wr.heap.size, .cells #[.int .i64 x.1.code, .slice (rowA x.2) x.1.words.length (x.1.words.length + x.2.k)] 94 (0, 0))]) ++ M) (fun y => by simp only [cnt_append, cnt_cons, cnt_nil]; omega))).mono ?_
              rintro e w5 ⟨rfl, hb5⟩
              have H5 := Lib.hid (H4.out.grow hb5)
              clear hb5 cb H4
              go_wp2_with fail
              refine met_calls bp bt j ballot s.2.1 (dWord x.1) HW64.out.1 HW64.out.2 (L := rowH r' 166 ((s.1 ++ [((q : Int), dWord x.1)]).flatMap acC) ++ (tkB bt gv' (.slice none 0 0) false :: ((wr.heap.size, .cells #[.int .i64 x.1.code, .slice (rowA x.2) x.1.words.length (x.1.words.length + x.2.k)] 94 (0, 0)) :: M))) (H5.out.ac (fun y => by simp only [cnt_append, cnt_cons]; omega)) _ ?_
              intro w6 h6
              have H6 := Lib.hid h6
              clear h6 H5
              go_wp2
              go_roundw
              case rel =>
                ((repeat apply Exists.intro (α := Value)); (first | refine ⟨?_, rfl⟩ | skip); (all_goals first | exact undef | skip))
                refine ⟨q + 1, r', by omega, by go_num, by rw [HSN.out, HE.out]; simp [rowV], by rw [HSN.out, HE.out]; simpa using HR'.out, ?_⟩
                rw [HSN.out, HE.out]
                exact St.drop (L := [(wr.heap.size, .cells #[.int .i64 x.1.code, .slice (rowA x.2) x.1.words.length (x.1.words.length + x.2.k)] 94 (0, 0))]) (H6.out.ac (fun y => by simp only [cnt_append, cnt_cons, cnt_nil]; omega))
              case measure => simp [intOf]; omega
            · have hcb : (x.1.code == 0) = false := by simp [hcode]
              have e1 : rdStep s x.1 = (s.1, s.2.1, q + 1) := by unfold rdStep; rw [if_neg hcode, HSI.out]
              have HE := Lib.hid e1
              clear e1 hcode
              go_wp2
              rw [← HW.out]
              go_roundw
              case rel =>
                ((repeat apply Exists.intro (α := Value)); (first | refine ⟨?_, rfl⟩ | skip); (all_goals first | exact undef | skip))
                refine ⟨q + 1, r2, by omega, by go_num, by rw [HSN.out, HE.out], by rw [HSN.out, HE.out]; exact HR2.out, ?_⟩
                rw [HSN.out, HE.out]
                exact St.drop (L := [(wr.heap.size, .cells #[.int .i64 x.1.code, .slice (rowA x.2) x.1.words.length (x.1.words.length + x.2.k)] 94 (0, 0))]) (H1.out.ac (fun y => by simp only [cnt_append, cnt_cons, cnt_nil]; omega))
              case measure => simp [intOf]; omega
          · obtain rfl : q = g.ds.length := by omega
            have hdl : d.take g.ds.length = d := by rw [List.take_of_length_le]; have := congrArg List.length HANS.out.eq; simp [GT.pure] at this; omega
            rw [hdl] at hr2 hst2 ⊢
            have H9 := Lib.hid (HR.out _ wr ⟨r2, rfl, hr2, gv', HGV.out, hst2.ac (fun y => by simp only [cnt_append, cnt_cons]; omega)⟩)
            clear hr2 hst2 hdl HR
            go_wp2
            exact H9.out
      · clear hres
        obtain ⟨rfl, h3⟩ := hout
        have H9 := Lib.hid (HR.out _ w2 ⟨rfl, h3⟩)
        clear h3 HR
        go_wp2_with fail
        go_loopw [2, 40] (fun a i wr => a = .slice none 0 0 ∧ i = .int .i64 0 ∧ wr = w2) (fun _ _ _ => 0)
        case atStart => exact ⟨rfl, rfl, rfl⟩
        case round =>
          obtain ⟨rfl, rfl, rfl⟩ := hrel
          go_wp2
          exact H9.out
      · clear hres
        obtain ⟨rfl, h3⟩ := hout
        have H9 := Lib.hid (HR.out _ w2 ⟨rfl, h3⟩)
        clear h3 HR
        go_wp2_with fail
        go_loopw [2, 40] (fun a i wr => a = .slice none 0 0 ∧ i = .int .i64 0 ∧ wr = w2) (fun _ _ _ => 0)
        case atStart => exact ⟨rfl, rfl, rfl⟩
        case round =>
          obtain ⟨rfl, rfl, rfl⟩ := hrel
          go_wp2
          exact H9.out
end Go.Proofs.YtaojipegpjolcaaGreat
