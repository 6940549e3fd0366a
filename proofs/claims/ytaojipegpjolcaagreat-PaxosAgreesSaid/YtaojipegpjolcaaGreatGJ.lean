/- paxos: proposer.run. paxos: proposer.run, its walk. Which jobs are valid: word.Ballot, paxos.Valid, the reference's. paxos.Next. -/
import Derived.Test.YtaojipegpjolcaaGreatGH
import Derived.Test.YtaojipegpjolcaaGreatGI
set_option linter.unusedVariables false
set_option linter.unusedSimpArgs false
namespace Go.Proofs.YtaojipegpjolcaaGreat
open Go.RowKit Go.Sort Go.Proofs.BodegaHeap
variable {base : Nat} {w0 w : World} {L : List Blk}

theorem TkIs.map {w w' : World} {bt : Nat} {ro : Rw} {gts : List GT} {res : Res} {M M' : List Blk} (h : TkIs base w0 w bt ro gts res M) (f : ∀ X, St base w0 w (X ++ M) → St base w0 w' (X ++ M')) : TkIs base w0 w' bt ro gts res M' := by
  rcases res with k | l | _
  · obtain ⟨gv, h1, h2⟩ := h
    exact ⟨gv, h1, f [tkB bt gv (.slice none 0 0) false] h2⟩
  · obtain ⟨a, c, ra, h1, h2, h3, h4⟩ := h
    exact ⟨a, c, ra, h1, h2, h3, f (tkB bt (.slice a 0 c) (rowV ra l.length) false :: rowH ra 113 (nvC l)) h4⟩
  · obtain ⟨a, n, c, h1, h2⟩ := h
    exact ⟨a, n, c, h1, f [tkB bt (.slice a n c) (.slice none 0 0) true] h2⟩
theorem TkIs.st {bt : Nat} {ro : Rw} {gts : List GT} {res : Res} {M : List Blk} (h : TkIs base w0 w bt ro gts res M) : ∃ X, St base w0 w (X ++ M) := by
  rcases res with k | l | _
  · obtain ⟨gv, h1, h2⟩ := h
    exact ⟨[tkB bt gv (.slice none 0 0) false], h2⟩
  · obtain ⟨a, c, ra, h1, h2, h3, h4⟩ := h
    exact ⟨tkB bt (.slice a 0 c) (rowV ra l.length) false :: rowH ra 113 (nvC l), h4⟩
  · obtain ⟨a, n, c, h1, h2⟩ := h
    exact ⟨[tkB bt (.slice a n c) (.slice none 0 0) true], h2⟩
theorem TkIs.ac {bt : Nat} {ro : Rw} {gts : List GT} {res : Res} {M M' : List Blk} (h : TkIs base w0 w bt ro gts res M) (hc : ∀ y, cnt y M = cnt y M') : TkIs base w0 w bt ro gts res M' :=
  h.map (fun X hX => hX.ac (fun y => by simp only [cnt_append, hc y]))
theorem TkIs.tail {bt : Nat} {ro : Rw} {gts : List GT} {res : Res} {M : List Blk} {x : Blk} (h : TkIs base w0 w bt ro gts res (x :: M)) : TkIs base w0 w bt ro gts res M :=
  h.map (fun X hX => (hX.ac (M := x :: (X ++ M)) (fun y => by simp only [cnt_append, cnt_cons]; omega)).tail)
theorem TkIs.grow {bt : Nat} {ro : Rw} {gts : List GT} {res : Res} {M : List Blk} (h : TkIs base w0 w bt ro gts res M) {w' : World} (hb : Below w.heap.size w w') : TkIs base w0 w' bt ro gts res M := h.map (fun X hX => hX.grow hb)
theorem TkIs.alloc {bt : Nat} {ro : Rw} {gts : List GT} {res : Res} {M : List Blk} (h : TkIs base w0 w bt ro gts res M) (o : Obj) : TkIs base w0 (w.alloc o) bt ro gts res ((w.heap.size, o) :: M) :=
  h.map (fun X hX => (hX.alloc o).ac (fun y => by simp only [cnt_append, cnt_cons]; omega))
theorem TkIs.set {bt : Nat} {ro : Rw} {gts : List GT} {res : Res} {M : List Blk} {b : Nat} {cs : Array Value} {t : TypeId} {fr : Nat × Nat} (h : TkIs base w0 w bt ro gts res ((b, .cells cs t fr) :: M)) (off : Nat) (v : Value) :
    TkIs base w0 (w.setCell ⟨b, off, none⟩ v) bt ro gts res ((b, .cells (cs.setIfInBounds off v) t fr) :: M) :=
  h.map (fun X hX => ((hX.ac (M := (b, .cells cs t fr) :: (X ++ M)) (fun y => by simp only [cnt_append, cnt_cons]; omega)).set off v).ac (fun y => by simp only [cnt_append, cnt_cons]; omega))
theorem TkIs.drop {bt : Nat} {ro : Rw} {gts : List GT} {res : Res} {K M : List Blk} (h : TkIs base w0 w bt ro gts res (K ++ M)) : TkIs base w0 w bt ro gts res M :=
  h.map (fun X hX => (hX.ac (M := K ++ (X ++ M)) (fun y => by simp only [cnt_append]; omega)).drop)
theorem TkIs.cells {bt : Nat} {ro : Rw} {gts : List GT} {res : Res} {M : List Blk} (h : TkIs base w0 w bt ro gts res M) {b : Nat} {cs : Array Value} {t : TypeId} (hm : (b, Obj.cells cs t (0, 0)) ∈ M) : (∀ k, w.cell? ⟨b, k, none⟩ = cs[k]?) ∧ (∀ k, w.frozen? ⟨b, k, none⟩ = false) := by
  obtain ⟨X, hX⟩ := h.st
  exact ⟨fun k => hX.cells (t := t) (fr := (0, 0)) (List.mem_append_right _ hm) k, fun k => hX.frozen (t := t) (cs := cs) (List.mem_append_right _ hm) k⟩

def pAccept (ballot value : Int) : Int → Int := fun _ => ballot * 4503599627370496 + ballot * 1099511627776 + value
def pCands (ballot : Int) (l : List Ac) : List Ac := l.filter (fun a => decide (a.2 / 4503599627370496 < ballot))
def pRun3 (j : PJ) (ballot : Int) (gs : List (List Dn)) (k : Nat) (sw : List Ac) (gr : Int) : Oc × Res :=
  match tBatch gs k (swAsk j (pAccept ballot (pVal j.value sw).1) sw) with
  | (.done k3, d3) =>
    if (pJudge j.nodes (swFold (pAccept ballot (pVal j.value sw).1) sw gr d3).ans (swFold (pAccept ballot (pVal j.value sw).1) sw gr d3).sw.length (swFold (pAccept ballot (pVal j.value sw).1) sw gr d3).gr).code ≠ 0 then
      (pJudge j.nodes (swFold (pAccept ballot (pVal j.value sw).1) sw gr d3).ans (swFold (pAccept ballot (pVal j.value sw).1) sw gr d3).sw.length (swFold (pAccept ballot (pVal j.value sw).1) sw gr d3).gr, .done k3)
    else (⟨0, (pVal j.value sw).1, 0⟩, .done k3)
  | (r, _) => (⟨0, 0, 0⟩, r)
def pRun2 (j : PJ) (ballot : Int) (gs : List (List Dn)) (k : Nat) (cands : List Ac) (gr : Int) : Oc × Res :=
  match tBatch gs k (swAsk j (pPromise ballot) cands) with
  | (.done k2, d2) =>
    if (pJudge j.nodes (swFold (pPromise ballot) cands gr d2).ans (swFold (pPromise ballot) cands gr d2).sw.length (swFold (pPromise ballot) cands gr d2).gr).code ≠ 0 then
      (pJudge j.nodes (swFold (pPromise ballot) cands gr d2).ans (swFold (pPromise ballot) cands gr d2).sw.length (swFold (pPromise ballot) cands gr d2).gr, .done k2)
    else pRun3 j ballot gs k2 (swFold (pPromise ballot) cands gr d2).sw (swFold (pPromise ballot) cands gr d2).gr
  | (r, _) => (⟨0, 0, 0⟩, r)
def pRun (j : PJ) (ballot : Int) (gs : List (List Dn)) : Oc × Res :=
  match tBatch gs 0 (rdAsk j) with
  | (.done k1, d1) =>
    if (pJudge j.nodes (rdFold 0 d1).1.length (pCands ballot (rdFold 0 d1).1).length (rdFold 0 d1).2.1).code ≠ 0 then
      (pJudge j.nodes (rdFold 0 d1).1.length (pCands ballot (rdFold 0 d1).1).length (rdFold 0 d1).2.1, .done k1)
    else pRun2 j ballot gs k1 (pCands ballot (rdFold 0 d1).1) (rdFold 0 d1).2.1
  | (r, _) => (⟨0, 0, 0⟩, r)

theorem pMet_rng {g x : Int} (hg : W64 g) (hx : W64 x) : W64 (pMet g x) := by
  unfold pMet W64 at *
  have : 0 ≤ x / 4503599627370496 := Int.ediv_nonneg hx.1 (by decide)
  have : x / 4503599627370496 ≤ x := Int.ediv_le_self _ hx.1
  rw [Int.max_def]; split <;> omega
theorem rdFold_rng {ds : List Dn} (h : ∀ d ∈ ds, W64 (dWord d)) : ∀ s : List Ac × Int × Nat, W64 s.2.1 → (∀ a ∈ s.1, W64 a.2) → W64 (ds.foldl rdStep s).2.1 ∧ ∀ a ∈ (ds.foldl rdStep s).1, W64 a.2 := by
  induction ds with
  | nil => intro s h1 h2; exact ⟨h1, h2⟩
  | cons d tl ih =>
    intro s h1 h2
    have hd := h d List.mem_cons_self
    rw [List.foldl_cons]
    refine ih (fun x hx => h x (List.mem_cons_of_mem _ hx)) _ ?_ ?_
    · unfold rdStep; split
      · exact pMet_rng h1 hd
      · exact h1
    · unfold rdStep; split
      · intro a ha
        rcases List.mem_append.1 ha with ha | ha
        · exact h2 a ha
        · rw [List.mem_singleton] at ha; rw [ha]; exact hd
      · exact h2
theorem swFold_rng {nx : Int → Int} {l : List Ac} {ds : List Dn} (hnx : ∀ x, W64 x → W64 (nx x)) (h : ∀ d ∈ ds, W64 (dWord d)) : ∀ s : Sw, W64 s.gr → (∀ a ∈ s.sw, W64 a.2) → W64 (ds.foldl (swStep nx l) s).gr ∧ ∀ a ∈ (ds.foldl (swStep nx l) s).sw, W64 a.2 := by
  induction ds with
  | nil => intro s h1 h2; exact ⟨h1, h2⟩
  | cons d tl ih =>
    intro s h1 h2
    have hd := h d List.mem_cons_self
    rw [List.foldl_cons]
    refine ih (fun x hx => h x (List.mem_cons_of_mem _ hx)) _ ?_ ?_
    · unfold swStep; split
      · exact h1
      · split
        · exact pMet_rng h1 hd
        · exact h1
    · unfold swStep; split
      · exact h2
      · split
        · exact h2
        · intro a ha
          rcases List.mem_append.1 ha with ha | ha
          · exact h2 a ha
          · rw [List.mem_singleton] at ha; rw [ha]; exact hnx _ hd
theorem pPromise_rng {ballot x : Int} (h0 : 0 ≤ ballot) (h1 : ballot ≤ 4095) (hx : W64 x) : W64 (pPromise ballot x) := by
  unfold pPromise W64 at *; omega
theorem pVal_rng (own : Int) (l : List Ac) (h0 : 0 ≤ own) (h1 : own ≤ 1099511627775) (hx : ∀ a ∈ l, W64 a.2) : 0 ≤ (pVal own l).1 ∧ (pVal own l).1 ≤ 1099511627775 := by
  have : ∀ s : Int × Int, 0 ≤ s.1 → s.1 ≤ 1099511627775 → 0 ≤ (l.foldl pVal1 s).1 ∧ (l.foldl pVal1 s).1 ≤ 1099511627775 := by
    induction l with
    | nil => intro s h0 h1; exact ⟨h0, h1⟩
    | cons a tl ih =>
      intro s h0 h1
      rw [List.foldl_cons]
      refine ih (fun x hx' => hx x (List.mem_cons_of_mem _ hx')) _ ?_ ?_
      · unfold pVal1; split
        · simp only; omega
        · exact h0
      · unfold pVal1; split
        · simp only; omega
        · exact h1
  exact this (own, 0) h0 h1
theorem rng_d {gs : List (List Dn)} (h : Rng gs) {d : List Dn} (hd : d ≠ [] → d ∈ gs) : ∀ x ∈ d, W64 (dWord x) := fun x hx => dWord_rng (h d (hd (fun e => by rw [e] at hx; cases hx)) x hx)
theorem cands_snoc (ballot : Int) (l : List Ac) (q : Nat) (a : Ac) (h : l[q]? = some a) : pCands ballot (l.take (q + 1)) = pCands ballot (l.take q) ++ (if a.2 / 4503599627370496 < ballot then [a] else []) := by
  have h2 := List.getElem?_eq_some_iff.1 h
  unfold pCands
  rw [List.take_succ_eq_append_getElem h2.1, h2.2, List.filter_append]
  congr 1
  by_cases hc : a.2 / 4503599627370496 < ballot <;> simp [hc]
end Go.Proofs.YtaojipegpjolcaaGreat
set_option linter.unusedVariables false
set_option linter.unusedSimpArgs false
namespace Go.Proofs.YtaojipegpjolcaaGreat
open Go.RowKit Go.Sort Go.Proofs.BodegaHeap
variable {base : Nat} {w0 w : World} {L : List Blk}

abbrev ocB (nr : Nat) (o : Oc) : Blk := (nr, .cells #[.int .i64 o.code, .int .u64 o.value, .int .i64 o.round] 131 (0, 0))
abbrev bxB (b1 bp : Nat) : Blk := (b1, .cells #[rP bp] 146 (0, 0))
theorem oc_put {bt : Nat} {ro : Rw} {gts : List GT} {res : Res} {M : List Blk} {nr : Nat} {o o' : Oc} (h : TkIs base w0 w bt ro gts res (ocB nr o :: M)) :
    TkIs base w0 (((w.setCell ⟨nr, 0, none⟩ (.int .i64 o'.code)).setCell ⟨nr, 1, none⟩ (.int .u64 o'.value)).setCell ⟨nr, 2, none⟩ (.int .i64 o'.round)) bt ro gts res (ocB nr o' :: M) := by
  have h1 := ((h.set 0 (.int .i64 o'.code)).set 1 (.int .u64 o'.value)).set 2 (.int .i64 o'.round)
  exact h1

theorem judge_tk {bt : Nat} {ro : Rw} {gts : List GT} {res : Res} (bp : Nat) (j : PJ) (ballot gr : Int) (X K : List Blk) (hg : W64 gr) (hn : j.nodes ≤ 5) (a b : Int) (h : TkIs base w0 w bt ro gts res (X ++ (prB bp j bt ballot gr :: K))) :
    Calls Tryz.prog 102 #[rP bp, .int .i64 a, .int .i64 b] w fun e w' => e = .returned (ocV (pJudge j.nodes a b gr)) ∧ Below w.heap.size w w' := by
  obtain ⟨Y, hY⟩ := h.st
  exact judge_calls bp bt j ballot gr hg.1 hg.2 hn a b (hY.ac (M := prB bp j bt ballot gr :: (Y ++ (X ++ K))) (fun y => by simp only [cnt_append, cnt_cons]; omega))

set_option maxRecDepth 100000 in
set_option maxHeartbeats 16000000 in
theorem run_calls (bp bt : Nat) (j : PJ) (ballot : Int) (hb0 : 0 ≤ ballot) (hb1 : ballot ≤ 4095) (hn0 : 1 ≤ j.nodes) (hn1 : j.nodes ≤ 5) (hv0 : 0 ≤ j.number) (hv1 : j.number ≤ 15) (hw0 : 0 ≤ j.value) (hw1 : j.value ≤ 1099511627775)
    (ro : Rw) (gts : List GT) (hgo : GotOk ro gts) (hrg : Rng (gots gts)) (M : List Blk) (hmo : ∀ p, p ∈ gotH ro gts → p ∈ M)
    (h : TkIs base w0 w bt ro gts (.done 0) (prB bp j bt ballot 0 :: M)) (R : Ending → World → Prop)
    (hR : ∀ g' w', TkIs base w0 w' bt ro gts (pRun j ballot (gots gts)).2 (prB bp j bt ballot g' :: M) → R (.returned (ocV (pRun j ballot (gots gts)).1)) w') :
    Calls Tryz.prog 89 #[rP bp] w R := by
  obtain ⟨W2, hW2⟩ : ∃ W, W = (w.alloc (.cells #[rP bp] 146)).alloc (.cells #[.int .i64 0, .int .u64 0, .int .i64 0] 131) := ⟨_, rfl⟩
  obtain ⟨b1, hb1'⟩ : ∃ n, n = w.heap.size := ⟨_, rfl⟩
  obtain ⟨nr, hnr⟩ : ∃ n, n = w.heap.size + 1 := ⟨_, rfl⟩
  have h2 : TkIs base w0 W2 bt ro gts (.done 0) (prB bp j bt ballot 0 :: (ocB nr ⟨0, 0, 0⟩ :: bxB b1 bp :: M)) := by
    have q := (h.alloc (.cells #[rP bp] 146)).alloc (.cells #[.int .i64 0, .int .u64 0, .int .i64 0] 131)
    rw [World.size_alloc, ← hb1', ← hW2] at q
    have e : b1 + 1 = nr := by omega
    rw [e] at q
    exact (show TkIs base w0 W2 bt ro gts (.done 0) (ocB nr ⟨0, 0, 0⟩ :: bxB b1 bp :: prB bp j bt ballot 0 :: M) from q).ac (fun y => by simp only [cnt_cons]; omega)
  have hx : ∀ (res : Res) (W : World) (X : List Blk), TkIs base w0 W bt ro gts res (X ++ (ocB nr ⟨0, 0, 0⟩ :: bxB b1 bp :: M)) → (∀ k, W.cell? ⟨b1, k, none⟩ = (#[rP bp] : Array Value)[k]?) ∧ (∀ k, W.cell? ⟨nr, k, none⟩ = (#[.int .i64 0, .int .u64 0, .int .i64 0] : Array Value)[k]?) ∧ (∀ k, W.frozen? ⟨nr, k, none⟩ = false) := fun res W X hX =>
    ⟨(hX.cells (cs := #[rP bp]) (t := 146) (by simp)).1, hX.cells (cs := #[.int .i64 0, .int .u64 0, .int .i64 0]) (t := 131) (by simp)⟩
  have hmo2 : ∀ p, p ∈ gotH ro gts → p ∈ ocB nr ⟨0, 0, 0⟩ :: bxB b1 bp :: M := fun p hp => List.mem_cons_of_mem _ (List.mem_cons_of_mem _ (hmo p hp))
  have hread := fun R hR => read_calls (base := base) (w0 := w0) (w := W2) bp bt j ballot 0 hn0 hn1 hv0 hv1 ro gts hgo hrg 0 _ hmo2 h2 R hR
  -- every end
  have hend : ∀ (o : Oc) (g' : Int) (W : World) (X : List Blk), TkIs base w0 W bt ro gts (pRun j ballot (gots gts)).2 (X ++ (prB bp j bt ballot g' :: (ocB nr ⟨0, 0, 0⟩ :: bxB b1 bp :: M))) → (pRun j ballot (gots gts)).1 = o →
      R (.returned (ocV o)) (((W.setCell ⟨nr, 0, none⟩ (.int .i64 o.code)).setCell ⟨nr, 1, none⟩ (.int .u64 o.value)).setCell ⟨nr, 2, none⟩ (.int .i64 o.round)) := by
    intro o g' W X hX ho
    rw [← ho]
    refine hR g' _ ?_
    have q := oc_put (o' := (pRun j ballot (gots gts)).1) (hX.ac (M' := ocB nr ⟨0, 0, 0⟩ :: (X ++ (prB bp j bt ballot g' :: bxB b1 bp :: M))) (fun y => by simp only [cnt_append, cnt_cons]; omega))
    have q2 := q.tail
    exact (q2.drop.ac (M' := bxB b1 bp :: (prB bp j bt ballot g' :: M)) (fun y => by simp only [cnt_cons]; omega)).tail
  obtain ⟨c1, c2, f2⟩ := hx _ _ [prB bp j bt ballot 0] h2
  have HX := Lib.hid hx
  have HW2 := Lib.hid hW2
  have HRD := Lib.hid hread
  have HE := Lib.hid hend
  have HMO := Lib.hid hmo2
  have HGO := Lib.hid hgo
  have HRG := Lib.hid hrg
  clear h h2 hx hW2 hread hend hmo2 hmo hgo hrg hR f2 c2
  subst hb1'
  subst hnr
  go_enter Tryz.func89, Tryz.ntmps89
  go_wp2_with fail
  rw [← HW2.out]
  refine HRD.out _ ?_
  intro v w3 hout
  obtain ⟨res, hres⟩ : ∃ res, tBatch (gots gts) 0 (rdAsk j) = res := ⟨_, rfl⟩
  rw [hres] at hout
  have HRES := Lib.hid hres
  clear hres HRD HW2 c1
  rcases res with ⟨kk | q | _, d⟩
  · obtain ⟨r, rfl, hr, h3⟩ := hout
    obtain ⟨hdl, hdm⟩ := tBatch_len HRES.out
    have hdr := rng_d HRG.out hdm
    obtain ⟨hgr, har⟩ := rdFold_rng hdr ([], 0, 0) ⟨by decide, by decide⟩ (fun a ha => by cases ha)
    have hal := (rdFold_idx 0 d ([], 0, 0)).2
    rw [rdAsk_len] at hdl
    simp only [List.length_nil] at hal
    have hrun : pRun j ballot (gots gts) = if (pJudge j.nodes (rdFold 0 d).1.length (pCands ballot (rdFold 0 d).1).length (rdFold 0 d).2.1).code ≠ 0 then
        (pJudge j.nodes (rdFold 0 d).1.length (pCands ballot (rdFold 0 d).1).length (rdFold 0 d).2.1, .done kk) else pRun2 j ballot (gots gts) kk (pCands ballot (rdFold 0 d).1) (rdFold 0 d).2.1 := by
      unfold pRun; rw [HRES.out]
    change W64 (rdFold 0 d).2.1 at hgr
    change ∀ a ∈ (rdFold 0 d).1, W64 a.2 at har
    change (rdFold 0 d).1.length ≤ 0 + d.length at hal
    obtain ⟨as', has⟩ : ∃ x, x = (rdFold 0 d).1 := ⟨_, rfl⟩
    obtain ⟨gr, hgrE⟩ : ∃ x, x = (rdFold 0 d).2.1 := ⟨_, rfl⟩
    rw [← has, ← hgrE] at hrun
    rw [← has] at hr h3 har hal ⊢
    rw [← hgrE] at h3 hgr
    have hal5 : as'.length ≤ 5 := by omega
    obtain ⟨c1, c2, f2⟩ := HX.out _ _ (rowH r 166 (as'.flatMap acC) ++ [prB bp j bt ballot gr]) (h3.ac (fun y => by simp only [cnt_append, cnt_cons, cnt_nil]; omega))
    obtain ⟨A, hA⟩ : ∃ A, rowA r = A := ⟨_, rfl⟩
    rw [show rowV r as'.length = .slice A as'.length (as'.length + r.k) by rw [← hA]]
    have HA := Lib.hid hA
    have HRW := Lib.hid hr
    have H3 := Lib.hid h3
    have HRUN := Lib.hid hrun
    have HAR := Lib.hid har
    have HGR := Lib.hid hgr
    clear hr h3 hrun har hgr hdl hdm hdr hal has hgrE hA HRES
    go_wp2_with fail
    clear c1 c2 f2
    go_loopw [5, 28] (fun cs i wr => ∃ (q : Nat) (r2 : Rw), q ≤ as'.length ∧ i = .int .i64 q ∧ cs = rowV r2 (pCands ballot (as'.take q)).length ∧ RowOk r2 2 (pCands ballot (as'.take q)).length ((pCands ballot (as'.take q)).flatMap acC) ∧
      TkIs base w0 wr bt ro gts (.done kk) (rowH r2 166 ((pCands ballot (as'.take q)).flatMap acC) ++ (rowH r 166 (as'.flatMap acC) ++ (prB bp j bt ballot gr :: (ocB (w.heap.size + 1) ⟨0, 0, 0⟩ :: bxB w.heap.size bp :: M))))) (fun cs i wr => as'.length - (intOf i).toNat)
    case atStart => exact ⟨0, nilRw, Nat.zero_le _, rfl, rfl, nilRw_ok 2, H3.out⟩
    case round =>
      clear H3
      obtain ⟨q, r2, hq, rfl, rfl, hr2, h4⟩ := hrel
      by_cases hlt : q < as'.length
      · obtain ⟨a, ha⟩ : ∃ a, as'[q]? = some a := ⟨as'[q], by simp [hlt]⟩
        obtain ⟨b, hbk⟩ := HRW.out.pos (by omega)
        obtain rfl : A = some ⟨b, 0, none⟩ := by rw [← HA.out]; simp [rowA, hbk]
        obtain ⟨X4, hX4⟩ := h4.st
        have d0 := hX4.recCell (r := r) (t := 166) (xs := as') (enc := acC) (s := 2) (fun _ => rfl) hbk (fun p hp => by simp only [List.mem_append]; simp [hp]) ha 0 (by decide)
        have d1 := hX4.recCell (r := r) (t := 166) (xs := as') (enc := acC) (s := 2) (fun _ => rfl) hbk (fun p hp => by simp only [List.mem_append]; simp [hp]) ha 1 (by decide)
        simp only [Nat.add_zero, List.getElem?_cons_zero, List.getElem?_cons_succ] at d0 d1
        obtain ⟨W, hW⟩ : ∃ W, W = wr.alloc (.cells #[.int .i64 a.1, .int .u64 a.2] 166) := ⟨_, rfl⟩
        have h5 : TkIs base w0 W bt ro gts (.done kk) ((wr.heap.size, .cells #[.int .i64 a.1, .int .u64 a.2] 166 (0, 0)) :: (rowH r2 166 ((pCands ballot (as'.take q)).flatMap acC) ++ (rowH r 166 (as'.flatMap acC) ++ (prB bp j bt ballot gr :: (ocB (w.heap.size + 1) ⟨0, 0, 0⟩ :: bxB w.heap.size bp :: M))))) := by rw [hW]; exact h4.alloc _
        have cb := (h5.cells (b := wr.heap.size) (cs := #[.int .i64 a.1, .int .u64 a.2]) (t := 166) List.mem_cons_self).1
        have cx := (h5.cells (b := w.heap.size) (cs := #[rP bp]) (t := 146) (by simp)).1
        have cp := (h5.cells (b := bp) (cs := prC j bt ballot gr) (t := 150) (by simp)).1
        have hsn := cands_snoc ballot as' q a ha
        have hxa := HAR.out a (List.mem_of_getElem? ha)
        have HSP := Lib.hid (Split_calls W a.2 hxa.1 hxa.2)
        have hcl : (pCands ballot (as'.take q)).length ≤ 5 := by
          have := List.length_filter_le (fun a : Ac => decide (a.2 / 4503599627370496 < ballot)) (as'.take q)
          rw [List.length_take] at this
          simp only [pCands]; omega
        obtain ⟨cs, hcs⟩ : ∃ cs, cs = pCands ballot (as'.take q) := ⟨_, rfl⟩
        rw [← hcs] at hr2 hsn h5 hcl ⊢
        obtain ⟨X5, hX5⟩ := h5.st
        have hltI : (q : Int) < (as'.length : Int) := by omega
        have HW := Lib.hid hW
        have HSN := Lib.hid hsn
        have HR2 := Lib.hid hr2
        have H5 := Lib.hid h5
        clear h4 hX4 hX5 hW hsn hr2 h5 hxa hcs ha hbk
        by_cases hc : a.2 / 4503599627370496 < ballot
        · have hcI : decide (a.2 / 4503599627370496 < ballot) = true := by simpa using hc
          have hsn2 := HSN.out
          rw [if_pos hc] at hsn2
          have HSN2 := Lib.hid hsn2
          clear hsn2 HSN
          go_wp2_with fail
          rw [← HW.out]
          (refine Calls.mono HSP.out ?_; intro e w' hh; rw [hh.1, hh.2]; clear hh w' e)
          obtain ⟨gv5, hgv5, hst5⟩ := H5.out
          have H6 := Lib.hid (hst5.ac (M := rowH r2 166 (cs.flatMap acC) ++ (tkB bt gv5 (.slice none 0 0) false :: ((wr.heap.size, .cells #[.int .i64 a.1, .int .u64 a.2] 166 (0, 0)) :: (rowH r 166 (as'.flatMap acC) ++ (prB bp j bt ballot gr :: (ocB (w.heap.size + 1) ⟨0, 0, 0⟩ :: bxB w.heap.size bp :: M)))))) (fun y => by simp only [cnt_append, cnt_cons]; omega))
          have HGV5 := Lib.hid hgv5
          clear hst5 hgv5 H5 HSP
          go_wp2_with (at_builtin; refine wp_appendN elem_ac rfl _ _ rfl r2 cs.length _ rfl HR2.out H6.out #[.int .i64 a.1, .int .u64 a.2] rfl rfl (by simp [Value.oneCell']) (by omega) ?_)
          intro r' w6 hr' h6 _ _
          have e1 : cs.flatMap acC ++ #[Value.int .i64 a.1, .int .u64 a.2].toList = (cs ++ [a]).flatMap acC := by simp [List.flatMap_append]
          rw [e1] at hr' h6
          have H7 := Lib.hid (show TkIs base w0 w6 bt ro gts (.done kk) _ from ⟨gv5, HGV5.out, h6.ac (M := tkB bt gv5 (.slice none 0 0) false :: ((wr.heap.size, .cells #[.int .i64 a.1, .int .u64 a.2] 166 (0, 0)) :: (rowH r' 166 ((cs ++ [a]).flatMap acC) ++ (rowH r 166 (as'.flatMap acC) ++ (prB bp j bt ballot gr :: (ocB (w.heap.size + 1) ⟨0, 0, 0⟩ :: bxB w.heap.size bp :: M)))))) (fun y => by simp only [cnt_append, cnt_cons]; omega)⟩)
          have HR' := Lib.hid hr'
          clear h6 hr' e1 H6 cb cx cp d0 d1
          go_wp2
          go_roundw
          case rel => ((repeat apply Exists.intro (α := Value)); (first | refine ⟨?_, rfl⟩ | skip); (all_goals first | exact undef | skip)); exact ⟨q + 1, r', by omega, by go_num, by rw [HSN2.out]; simp [rowV], by rw [HSN2.out]; simpa using HR'.out, by rw [HSN2.out]; exact H7.out.tail⟩
          case measure => simp [intOf]; omega
        · have hcI : decide (a.2 / 4503599627370496 < ballot) = false := by simpa using hc
          have hsn2 := HSN.out
          rw [if_neg hc, List.append_nil] at hsn2
          have HSN2 := Lib.hid hsn2
          clear hsn2 HSN
          go_wp2_with fail
          rw [← HW.out]
          (refine Calls.mono HSP.out ?_; intro e w' hh; rw [hh.1, hh.2]; clear hh w' e)
          go_wp2
          go_roundw
          case rel => ((repeat apply Exists.intro (α := Value)); (first | refine ⟨?_, rfl⟩ | skip); (all_goals first | exact undef | skip)); exact ⟨q + 1, r2, by omega, by go_num, by rw [HSN2.out], by rw [HSN2.out]; exact HR2.out, by rw [HSN2.out]; exact H5.out.tail⟩
          case measure => simp [intOf]; omega
      · obtain rfl : q = as'.length := by omega
        rw [List.take_length] at hr2 h4 ⊢
        obtain ⟨cs, hcs⟩ : ∃ cs, cs = pCands ballot as' := ⟨_, rfl⟩
        have hrun := HRUN.out
        rw [← hcs] at hr2 h4 hrun ⊢
        have hcl : cs.length ≤ 5 := by
          have := List.length_filter_le (fun a : Ac => decide (a.2 / 4503599627370496 < ballot)) as'
          rw [hcs]; simp only [pCands]; omega
        have hcw : ∀ a ∈ cs, W64 a.2 := fun a ha => HAR.out a (by rw [hcs] at ha; exact (List.mem_filter.1 ha).1)
        have h5 : TkIs base w0 wr bt ro gts (.done kk) ((rowH r2 166 (cs.flatMap acC) ++ rowH r 166 (as'.flatMap acC)) ++ (prB bp j bt ballot gr :: ocB (w.heap.size + 1) ⟨0, 0, 0⟩ :: bxB w.heap.size bp :: M)) := h4.ac (fun y => by simp only [cnt_append]; omega)
        have hj := judge_tk (w := wr) bp j ballot gr _ _ HGR.out hn1 as'.length cs.length h5
        obtain ⟨o1, ho1⟩ : ∃ o, o = pJudge j.nodes as'.length cs.length gr := ⟨_, rfl⟩
        rw [← ho1] at hj hrun
        obtain ⟨c1, c2, f2⟩ := HX.out _ _ (rowH r2 166 (cs.flatMap acC) ++ (rowH r 166 (as'.flatMap acC) ++ [prB bp j bt ballot gr])) (h5.ac (fun y => by simp only [cnt_append, cnt_cons, cnt_nil]; omega))
        have HJ := Lib.hid hj
        have H5 := Lib.hid h5
        have HR2 := Lib.hid hr2
        have HCW := Lib.hid hcw
        have HRUN2 := Lib.hid hrun
        clear hr2 h4 h5 hj hrun HRUN hcs ho1 hcw HAR
        go_wp2_with fail
        refine HJ.out.mono ?_
        rintro e w5 ⟨rfl, hb5⟩
        obtain ⟨W6, hW6⟩ : ∃ W, W = w5.alloc (.cells #[.int .i64 o1.code, .int .u64 o1.value, .int .i64 o1.round] 131) := ⟨_, rfl⟩
        have h6 : TkIs base w0 W6 bt ro gts (.done kk) ((w5.heap.size, .cells #[.int .i64 o1.code, .int .u64 o1.value, .int .i64 o1.round] 131 (0, 0)) :: ((rowH r2 166 (cs.flatMap acC) ++ rowH r 166 (as'.flatMap acC)) ++ (prB bp j bt ballot gr :: ocB (w.heap.size + 1) ⟨0, 0, 0⟩ :: bxB w.heap.size bp :: M))) := by rw [hW6]; exact (H5.out.grow hb5).alloc _
        have cb := (h6.cells (b := w5.heap.size) (cs := #[.int .i64 o1.code, .int .u64 o1.value, .int .i64 o1.round]) (t := 131) List.mem_cons_self).1
        have h7 : TkIs base w0 W6 bt ro gts (.done kk) ((rowH r2 166 (cs.flatMap acC) ++ [(w5.heap.size, .cells #[.int .i64 o1.code, .int .u64 o1.value, .int .i64 o1.round] 131 (0, 0))] ++ rowH r 166 (as'.flatMap acC)) ++ (prB bp j bt ballot gr :: ocB (w.heap.size + 1) ⟨0, 0, 0⟩ :: bxB w.heap.size bp :: M)) := h6.ac (fun y => by simp only [cnt_append, cnt_cons, cnt_nil]; omega)
        obtain ⟨c6, c7, f7⟩ := HX.out _ _ ((rowH r2 166 (cs.flatMap acC) ++ [(w5.heap.size, .cells #[.int .i64 o1.code, .int .u64 o1.value, .int .i64 o1.round] 131 (0, 0))] ++ rowH r 166 (as'.flatMap acC)) ++ [prB bp j bt ballot gr]) (h7.ac (fun y => by simp only [cnt_append, cnt_cons, cnt_nil]; omega))
        have H7 := Lib.hid h7
        clear h6 h7 hb5 H5 HJ c1 c2 f2
        subst hW6
        by_cases hz : o1.code = 0
        · have hzb : (o1.code != 0) = false := by simp [hz]
          have hrun := HRUN2.out
          rw [if_neg (fun h => h hz)] at hrun
          have HRUN3 := Lib.hid hrun
          clear hrun HRUN2 hz
          go_wp2_with fail
          obtain ⟨YY, hYY⟩ : ∃ YY : List Blk, YY = [(w5.heap.size, .cells #[.int .i64 o1.code, .int .u64 o1.value, .int .i64 o1.round] 131 (0, 0))] ++ rowH r 166 (as'.flatMap acC) := ⟨_, rfl⟩
          have h8 : TkIs base w0 (w5.alloc (.cells #[.int .i64 o1.code, .int .u64 o1.value, .int .i64 o1.round] 131)) bt ro gts (.done kk) (prB bp j bt ballot gr :: (rowH r2 166 (cs.flatMap acC) ++ (YY ++ (ocB (w.heap.size + 1) ⟨0, 0, 0⟩ :: bxB w.heap.size bp :: M)))) := by rw [hYY]; exact H7.out.ac (fun y => by simp only [cnt_append, cnt_cons, cnt_nil]; omega)
          clear hYY H7 c6 c7 f7 cb
          refine swap_promise bp bt j ballot gr hv0 hv1 ro gts HGO.out HRG.out kk (rowH r2 166 (cs.flatMap acC) ++ (YY ++ (ocB (w.heap.size + 1) ⟨0, 0, 0⟩ :: bxB w.heap.size bp :: M))) (fun p hp => List.mem_append_right _ (List.mem_append_right _ (HMO.out p hp))) r2 cs HR2.out hcl HCW.out (fun p hp => List.mem_append_left _ hp) (pPromise ballot)
            (fun W X g3 hW x hx => (promise_calls bp bt j ballot g3 x hb0 hb1 hx.1 hx.2 (hW.ac (M := prB bp j bt ballot g3 :: (X ++ (rowH r2 166 (cs.flatMap acC) ++ (YY ++ (ocB (w.heap.size + 1) ⟨0, 0, 0⟩ :: bxB w.heap.size bp :: M))))) (fun y => by simp only [cnt_append, cnt_cons]; omega))).mono (fun e w' hh => ⟨hh.1, by rw [hh.2]; exact Below.refl _ _⟩)) h8 _ ?_
          clear h8
          intro v w6 hout
          obtain ⟨res, hres⟩ : ∃ res, tBatch (gots gts) kk (swAsk j (pPromise ballot) cs) = res := ⟨_, rfl⟩
          rw [hres] at hout
          have hrun := HRUN3.out
          unfold pRun2 at hrun
          rw [hres] at hrun
          rcases res with ⟨k2 | q | _, d2⟩
          · obtain ⟨r3, rfl, hr3, h3⟩ := hout
            obtain ⟨hdl, hdm⟩ := tBatch_len hres
            have hdr := rng_d HRG.out hdm
            obtain ⟨hgr, har⟩ := swFold_rng (nx := pPromise ballot) (l := cs) (fun x hx => pPromise_rng hb0 hb1 hx) hdr ⟨0, [], gr, 0⟩ HGR.out (fun a ha => by cases ha)
            obtain ⟨-, hal, -, -⟩ := swFold_idx (pPromise ballot) cs d2 ⟨0, [], gr, 0⟩
            change W64 (swFold (pPromise ballot) cs gr d2).gr at hgr
            change ∀ a ∈ (swFold (pPromise ballot) cs gr d2).sw, W64 a.2 at har
            change (swFold (pPromise ballot) cs gr d2).sw.length ≤ 0 + d2.length at hal
            simp only at hrun
            obtain ⟨s2, hs2⟩ : ∃ x, x = swFold (pPromise ballot) cs gr d2 := ⟨_, rfl⟩
            rw [← hs2] at hr3 h3 hgr har hal hrun ⊢
            have hsl : s2.sw.length ≤ 5 := by simp [swAsk] at hdl; omega
            have h5 : TkIs base w0 w6 bt ro gts (.done k2) (rowH r3 166 (s2.sw.flatMap acC) ++ (prB bp j bt ballot s2.gr :: (rowH r2 166 (cs.flatMap acC) ++ (YY ++ (ocB (w.heap.size + 1) ⟨0, 0, 0⟩ :: bxB w.heap.size bp :: M))))) := h3
            obtain ⟨c1, c2, f2⟩ := HX.out _ _ (rowH r3 166 (s2.sw.flatMap acC) ++ (prB bp j bt ballot s2.gr :: (rowH r2 166 (cs.flatMap acC) ++ YY))) (h5.ac (fun y => by simp only [cnt_append, cnt_cons, cnt_nil]; omega))
            have hj := judge_tk (w := w6) bp j ballot s2.gr _ _ hgr hn1 s2.ans s2.sw.length h5
            obtain ⟨o2, ho2⟩ : ∃ o, o = pJudge j.nodes s2.ans s2.sw.length s2.gr := ⟨_, rfl⟩
            rw [← ho2] at hj hrun
            have HJ := Lib.hid hj
            have H5 := Lib.hid h5
            have HR3 := Lib.hid hr3
            have HSW := Lib.hid har
            have HGR2 := Lib.hid hgr
            have HRUN2 := Lib.hid hrun
            clear hr3 h3 h5 hj hrun HRUN3 hs2 ho2 hgr har hdr hdl hdm hal hres
            go_wp2_with fail
            refine HJ.out.mono ?_
            rintro e w7 ⟨rfl, hb7⟩
            have h6 : TkIs base w0 (w7.alloc (.cells #[.int .i64 o2.code, .int .u64 o2.value, .int .i64 o2.round] 131)) bt ro gts (.done k2) ((w7.heap.size, .cells #[.int .i64 o2.code, .int .u64 o2.value, .int .i64 o2.round] 131 (0, 0)) :: (rowH r3 166 (s2.sw.flatMap acC) ++ (prB bp j bt ballot s2.gr :: (rowH r2 166 (cs.flatMap acC) ++ (YY ++ (ocB (w.heap.size + 1) ⟨0, 0, 0⟩ :: bxB w.heap.size bp :: M)))))) := (H5.out.grow hb7).alloc _
            have cb := (h6.cells (b := w7.heap.size) (cs := #[.int .i64 o2.code, .int .u64 o2.value, .int .i64 o2.round]) (t := 131) List.mem_cons_self).1
            obtain ⟨ZZ, hZZ⟩ : ∃ ZZ : List Blk, ZZ = [(w7.heap.size, .cells #[.int .i64 o2.code, .int .u64 o2.value, .int .i64 o2.round] 131 (0, 0))] ++ (rowH r2 166 (cs.flatMap acC) ++ YY) := ⟨_, rfl⟩
            have h7 : TkIs base w0 (w7.alloc (.cells #[.int .i64 o2.code, .int .u64 o2.value, .int .i64 o2.round] 131)) bt ro gts (.done k2) (rowH r3 166 (s2.sw.flatMap acC) ++ ZZ ++ (prB bp j bt ballot s2.gr :: (ocB (w.heap.size + 1) ⟨0, 0, 0⟩ :: bxB w.heap.size bp :: M))) := by rw [hZZ]; exact h6.ac (fun y => by simp only [cnt_append, cnt_cons, cnt_nil]; omega)
            obtain ⟨c6, c7, f7⟩ := HX.out _ _ (rowH r3 166 (s2.sw.flatMap acC) ++ ZZ ++ [prB bp j bt ballot s2.gr]) (h7.ac (fun y => by simp only [cnt_append, cnt_cons, cnt_nil]; omega))
            have H7 := Lib.hid h7
            clear h6 h7 hb7 H5 HJ c1 c2 f2 hZZ
            by_cases hz : o2.code = 0
            · have hzb : (o2.code != 0) = false := by simp [hz]
              have hrun := HRUN2.out
              rw [if_neg (fun h => h hz)] at hrun
              have HRUN3 := Lib.hid hrun
              obtain ⟨Y7, hY7⟩ := H7.out.st
              have hval := value_calls bp bt j ballot s2.gr r3 s2.sw HR3.out (by omega) HSW.out hY7 (by simp) (fun p hp => by simp only [List.mem_append]; simp [hp])
              have hvr := pVal_rng j.value s2.sw hw0 hw1 HSW.out
              obtain ⟨vl, hvl⟩ : ∃ x, x = (pVal j.value s2.sw).1 := ⟨_, rfl⟩
              rw [← hvl] at hval hvr
              have HVL := Lib.hid hvl
              have HVAL := Lib.hid hval
              clear hrun HRUN2 hz hY7 hval hvl
              go_wp2_with fail
              refine HVAL.out.mono ?_
              rintro e w8 ⟨rfl, hb8⟩
              have h8 : TkIs base w0 (w8.alloc (.cells #[.int .u64 vl] 22)) bt ro gts (.done k2) ((w8.heap.size, .cells #[.int .u64 vl] 22 (0, 0)) :: (rowH r3 166 (s2.sw.flatMap acC) ++ ZZ ++ (prB bp j bt ballot s2.gr :: (ocB (w.heap.size + 1) ⟨0, 0, 0⟩ :: bxB w.heap.size bp :: M)))) := (H7.out.grow hb8).alloc _
              have h9 : TkIs base w0 (w8.alloc (.cells #[.int .u64 vl] 22)) bt ro gts (.done k2) (prB bp j bt ballot s2.gr :: (rowH r3 166 (s2.sw.flatMap acC) ++ ((w8.heap.size, .cells #[.int .u64 vl] 22 (0, 0)) :: (ZZ ++ (ocB (w.heap.size + 1) ⟨0, 0, 0⟩ :: bxB w.heap.size bp :: M))))) := h8.ac (fun y => by simp only [cnt_append, cnt_cons, cnt_nil]; omega)
              obtain ⟨d6, d7, g7⟩ := HX.out _ _ (prB bp j bt ballot s2.gr :: (rowH r3 166 (s2.sw.flatMap acC) ++ ((w8.heap.size, .cells #[.int .u64 vl] 22 (0, 0)) :: ZZ))) (h9.ac (fun y => by simp only [cnt_append, cnt_cons, cnt_nil]; omega))
              have H9 := Lib.hid h9
              clear h8 h9 hb8 H7 HVAL c6 c7 f7 cb
              go_wp2_with fail
              refine swap_accept bp bt j ballot s2.gr hv0 hv1 ro gts HGO.out HRG.out k2 (rowH r3 166 (s2.sw.flatMap acC) ++ ((w8.heap.size, .cells #[.int .u64 vl] 22 (0, 0)) :: (ZZ ++ (ocB (w.heap.size + 1) ⟨0, 0, 0⟩ :: bxB w.heap.size bp :: M)))) (fun p hp => List.mem_append_right _ (List.mem_cons_of_mem _ (List.mem_append_right _ (HMO.out p hp)))) r3 s2.sw HR3.out hsl HSW.out (fun p hp => List.mem_append_left _ hp) w.heap.size w8.heap.size (pAccept ballot vl)
                (fun W X g3 hW x hx => accept_calls bp bt w.heap.size w8.heap.size j ballot g3 vl x hb0 hb1 hvr.1 hvr.2 hW (by simp) (by simp) (by simp)) H9.out _ ?_
              intro v w9 hout
              obtain ⟨res, hres⟩ : ∃ res, tBatch (gots gts) k2 (swAsk j (pAccept ballot vl) s2.sw) = res := ⟨_, rfl⟩
              rw [hres] at hout
              have hrun := HRUN3.out
              unfold pRun3 at hrun
              rw [← HVL.out, hres] at hrun
              clear d6 d7 g7 H9 HRUN3
              rcases res with ⟨k3 | q | _, d3⟩
              · obtain ⟨r4, rfl, hr4, h3⟩ := hout
                obtain ⟨hdl, hdm⟩ := tBatch_len hres
                have hdr := rng_d HRG.out hdm
                obtain ⟨hgr, har⟩ := swFold_rng (nx := pAccept ballot vl) (l := s2.sw) (fun x hx => by unfold pAccept W64; omega) hdr ⟨0, [], s2.gr, 0⟩ HGR2.out (fun a ha => by cases ha)
                change W64 (swFold (pAccept ballot vl) s2.sw s2.gr d3).gr at hgr
                simp only at hrun
                obtain ⟨s3, hs3⟩ : ∃ x, x = swFold (pAccept ballot vl) s2.sw s2.gr d3 := ⟨_, rfl⟩
                rw [← hs3] at hr4 h3 hgr hrun ⊢
                have h5 : TkIs base w0 w9 bt ro gts (.done k3) ((rowH r4 166 (s3.sw.flatMap acC)) ++ (prB bp j bt ballot s3.gr :: (rowH r3 166 (s2.sw.flatMap acC) ++ ((w8.heap.size, .cells #[.int .u64 vl] 22 (0, 0)) :: (ZZ ++ (ocB (w.heap.size + 1) ⟨0, 0, 0⟩ :: bxB w.heap.size bp :: M)))))) := h3
                obtain ⟨c1, c2, f2⟩ := HX.out _ _ (rowH r4 166 (s3.sw.flatMap acC) ++ (prB bp j bt ballot s3.gr :: (rowH r3 166 (s2.sw.flatMap acC) ++ ((w8.heap.size, .cells #[.int .u64 vl] 22 (0, 0)) :: ZZ)))) (h5.ac (fun y => by simp only [cnt_append, cnt_cons, cnt_nil]; omega))
                have hj := judge_tk (w := w9) bp j ballot s3.gr _ _ hgr hn1 s3.ans s3.sw.length h5
                obtain ⟨o3, ho3⟩ : ∃ o, o = pJudge j.nodes s3.ans s3.sw.length s3.gr := ⟨_, rfl⟩
                rw [← ho3] at hj hrun
                have HJ := Lib.hid hj
                have H5 := Lib.hid h5
                have HRUN2 := Lib.hid hrun
                clear hr4 h3 h5 hj hrun hs3 ho3 hgr har hdr hdl hdm hres
                go_wp2_with fail
                refine HJ.out.mono ?_
                rintro e w10 ⟨rfl, hb10⟩
                have h6 : TkIs base w0 (w10.alloc (.cells #[.int .i64 o3.code, .int .u64 o3.value, .int .i64 o3.round] 131)) bt ro gts (.done k3) ((w10.heap.size, .cells #[.int .i64 o3.code, .int .u64 o3.value, .int .i64 o3.round] 131 (0, 0)) :: ((rowH r4 166 (s3.sw.flatMap acC)) ++ (prB bp j bt ballot s3.gr :: (rowH r3 166 (s2.sw.flatMap acC) ++ ((w8.heap.size, .cells #[.int .u64 vl] 22 (0, 0)) :: (ZZ ++ (ocB (w.heap.size + 1) ⟨0, 0, 0⟩ :: bxB w.heap.size bp :: M))))))) := (H5.out.grow hb10).alloc _
                have cb := (h6.cells (b := w10.heap.size) (cs := #[.int .i64 o3.code, .int .u64 o3.value, .int .i64 o3.round]) (t := 131) List.mem_cons_self).1
                have cv := (h6.cells (b := w8.heap.size) (cs := #[.int .u64 vl]) (t := 22) (by simp)).1
                have h7 : TkIs base w0 (w10.alloc (.cells #[.int .i64 o3.code, .int .u64 o3.value, .int .i64 o3.round] 131)) bt ro gts (.done k3) (([(w10.heap.size, .cells #[.int .i64 o3.code, .int .u64 o3.value, .int .i64 o3.round] 131 (0, 0))] ++ (rowH r4 166 (s3.sw.flatMap acC) ++ (rowH r3 166 (s2.sw.flatMap acC) ++ ((w8.heap.size, .cells #[.int .u64 vl] 22 (0, 0)) :: ZZ)))) ++ (prB bp j bt ballot s3.gr :: (ocB (w.heap.size + 1) ⟨0, 0, 0⟩ :: bxB w.heap.size bp :: M))) := h6.ac (fun y => by simp only [cnt_append, cnt_cons, cnt_nil]; omega)
                obtain ⟨c6, c7, f7⟩ := HX.out _ _ ([(w10.heap.size, .cells #[.int .i64 o3.code, .int .u64 o3.value, .int .i64 o3.round] 131 (0, 0))] ++ (rowH r4 166 (s3.sw.flatMap acC) ++ (rowH r3 166 (s2.sw.flatMap acC) ++ ((w8.heap.size, .cells #[.int .u64 vl] 22 (0, 0)) :: (ZZ ++ [prB bp j bt ballot s3.gr]))))) (h7.ac (fun y => by simp only [cnt_append, cnt_cons, cnt_nil]; omega))
                have H7 := Lib.hid h7
                clear h6 h7 hb10 H5 HJ c1 c2 f2
                by_cases hz : o3.code = 0
                · have hzb : (o3.code != 0) = false := by simp [hz]
                  have hrun := HRUN2.out
                  rw [if_neg (fun h => h hz)] at hrun
                  have H9 := Lib.hid (HE.out ⟨0, vl, 0⟩ s3.gr _ _ (by rw [hrun]; exact H7.out) (by rw [hrun]))
                  clear hrun HRUN2 hz HE H7
                  go_wp2
                  exact bodyPost_ret (v := ocV ⟨0, vl, 0⟩) (by simp [results, Tryz.results89, go_sem, c7]) rfl H9.out
                · have hzb : (o3.code != 0) = true := by simpa using hz
                  have hrun := HRUN2.out
                  rw [if_pos hz] at hrun
                  have H9 := Lib.hid (HE.out o3 s3.gr _ _ (by rw [hrun]; exact H7.out) (by rw [hrun]))
                  clear hrun HRUN2 hz HE H7
                  go_wp2
                  exact bodyPost_ret (v := ocV o3) (by simp [results, Tryz.results89, go_sem, c7]) rfl H9.out
              all_goals
                obtain ⟨rfl, h3⟩ := hout
                simp only at hrun
                obtain ⟨c1, c2, f2⟩ := HX.out _ _ (prB bp j bt ballot s2.gr :: (rowH r3 166 (s2.sw.flatMap acC) ++ ((w8.heap.size, .cells #[.int .u64 vl] 22 (0, 0)) :: ZZ))) (h3.ac (fun y => by simp only [cnt_append, cnt_cons, cnt_nil]; omega))
                have H9 := HE.out ⟨0, 0, 0⟩ s2.gr w9 (rowH r3 166 (s2.sw.flatMap acC) ++ ((w8.heap.size, .cells #[.int .u64 vl] 22 (0, 0)) :: ZZ)) (by rw [hrun]; exact h3.ac (fun y => by simp only [cnt_append, cnt_cons, cnt_nil]; omega)) (by rw [hrun])
                have H9 := Lib.hid H9
                clear hrun h3 HE hres
                go_wp2
                exact bodyPost_ret (v := ocV ⟨0, 0, 0⟩) (by simp [results, Tryz.results89, go_sem, c2]) rfl H9.out
            · have hzb : (o2.code != 0) = true := by simpa using hz
              have hrun := HRUN2.out
              rw [if_pos hz] at hrun
              have H9 := Lib.hid (HE.out o2 s2.gr _ _ (by rw [hrun]; exact H7.out) (by rw [hrun]))
              clear hrun HRUN2 hz HE H7
              go_wp2
              exact bodyPost_ret (v := ocV o2) (by simp [results, Tryz.results89, go_sem, c7]) rfl H9.out
          all_goals
            obtain ⟨rfl, h3⟩ := hout
            simp only at hrun
            obtain ⟨c1, c2, f2⟩ := HX.out _ _ (prB bp j bt ballot gr :: (rowH r2 166 (cs.flatMap acC) ++ YY)) (h3.ac (fun y => by simp only [cnt_append, cnt_cons, cnt_nil]; omega))
            have H9 := HE.out ⟨0, 0, 0⟩ gr w6 (rowH r2 166 (cs.flatMap acC) ++ YY) (by rw [hrun]; exact h3.ac (fun y => by simp only [cnt_append, cnt_cons, cnt_nil]; omega)) (by rw [hrun])
            have H9 := Lib.hid H9
            clear hrun h3 HE hres HRUN3
            go_wp2
            exact bodyPost_ret (v := ocV ⟨0, 0, 0⟩) (by simp [results, Tryz.results89, go_sem, c2]) rfl H9.out
        · have hzb : (o1.code != 0) = true := by simpa using hz
          have hrun := HRUN2.out
          rw [if_pos hz] at hrun
          have H9 := Lib.hid (HE.out o1 gr _ _ (by rw [hrun]; exact H7.out) (by rw [hrun]))
          clear hrun HRUN2 hz HE H7
          go_wp2
          exact bodyPost_ret (v := ocV o1) (by simp [results, Tryz.results89, go_sem, c7]) rfl H9.out
  · obtain ⟨rfl, h3⟩ := hout
    have hrun : pRun j ballot (gots gts) = (⟨0, 0, 0⟩, .ask q) := by unfold pRun; rw [HRES.out]
    obtain ⟨c1, c2, f2⟩ := HX.out _ _ [prB bp j bt ballot 0] h3
    have H9 := HE.out ⟨0, 0, 0⟩ 0 w3 [] (by rw [hrun]; exact h3) (by rw [hrun])
    have H9 := Lib.hid H9
    clear hrun h3 HE
    go_wp2
    exact bodyPost_ret (v := ocV ⟨0, 0, 0⟩) (by simp [results, Tryz.results89, go_sem, c2]) rfl H9.out
  · obtain ⟨rfl, h3⟩ := hout
    have hrun : pRun j ballot (gots gts) = (⟨0, 0, 0⟩, .wrong) := by unfold pRun; rw [HRES.out]
    obtain ⟨c1, c2, f2⟩ := HX.out _ _ [prB bp j bt ballot 0] h3
    have H9 := HE.out ⟨0, 0, 0⟩ 0 w3 [] (by rw [hrun]; exact h3) (by rw [hrun])
    have H9 := Lib.hid H9
    clear hrun h3 HE
    go_wp2
    exact bodyPost_ret (v := ocV ⟨0, 0, 0⟩) (by simp [results, Tryz.results89, go_sem, c2]) rfl H9.out
end Go.Proofs.YtaojipegpjolcaaGreat
set_option linter.unusedVariables false
set_option linter.unusedSimpArgs false
namespace Go.Proofs.YtaojipegpjolcaaGreat
open Go.RowKit Go.Sort Go.Proofs.BodegaHeap
variable {base : Nat} {w0 w : World} {L : List Blk}

def pBal (r c : Int) : Int := if r < 1 ∨ 500 < r then 2 else if c < 0 ∨ 5 < c then 1 else 0
def pBalV (r c : Int) : Int := if pBal r c = 0 then r * 8 + c + 1 else 0
def pValid (j : PJ) : Int :=
  if j.nodes < 1 ∨ 5 < j.nodes then 1 else if j.number < 0 ∨ 16 ≤ j.number then 2 else if pBal j.round j.client ≠ 0 then pBal j.round j.client else if j.value = 0 ∨ 1099511627776 ≤ j.value then 2 else 0

set_option maxHeartbeats 800000 in
theorem Ballot_any (w : World) (r c : Int) :
    Calls Tryz.prog 28 #[.int .i64 r, .int .i64 c] w fun e w' => e = .returned (.tuple #[.int .u64 (pBalV r c), .int .i64 (pBal r c)]) ∧ w' = w := by
  by_cases h1 : r < 1 ∨ 500 < r
  · have e1 : pBal r c = 2 := by unfold pBal; rw [if_pos h1]
    have e2 : pBalV r c = 0 := by unfold pBalV; rw [if_neg (by rw [e1]; decide)]
    rw [e1, e2]
    clear e1 e2
    rcases h1 with h1 | h1
    · have h2 : ¬ 1 ≤ r := by omega
      go_enter Tryz.func28, Tryz.ntmps28
      go_wp2
      go_ret2
      exact ⟨rfl, rfl⟩
    · have h2 : ¬ r ≤ 500 := by omega
      have h3 : 1 ≤ r := by omega
      go_enter Tryz.func28, Tryz.ntmps28
      go_wp2
      go_ret2
      exact ⟨rfl, rfl⟩
  · by_cases h2 : c < 0 ∨ 5 < c
    · have e1 : pBal r c = 1 := by unfold pBal; rw [if_neg h1, if_pos h2]
      have e2 : pBalV r c = 0 := by unfold pBalV; rw [if_neg (by rw [e1]; decide)]
      rw [e1, e2]
      have h3 : 1 ≤ r := by omega
      have h4 : r ≤ 500 := by omega
      clear e1 e2 h1
      rcases h2 with h2 | h2
      · have h5 : ¬ 0 ≤ c := by omega
        go_enter Tryz.func28, Tryz.ntmps28
        go_wp2
        go_ret2
        exact ⟨rfl, rfl⟩
      · have h5 : ¬ c ≤ 5 := by omega
        have h6 : 0 ≤ c := by omega
        go_enter Tryz.func28, Tryz.ntmps28
        go_wp2
        go_ret2
        exact ⟨rfl, rfl⟩
    · have e1 : pBal r c = 0 := by unfold pBal; rw [if_neg h1, if_neg h2]
      have e2 : pBalV r c = r * 8 + c + 1 := by unfold pBalV; rw [if_pos e1]
      rw [e1, e2]
      exact Ballot_calls w r c (by omega) (by omega) (by omega) (by omega)
set_option maxHeartbeats 800000 in
theorem RefBallot_any (w : World) (r c : Int) :
    Calls Tryz.prog 29 #[.int .i64 r, .int .i64 c] w fun e w' => e = .returned (.tuple #[.int .u64 (pBalV r c), .int .i64 (pBal r c)]) ∧ w' = w := by
  by_cases h1 : r < 1 ∨ 500 < r
  · have e1 : pBal r c = 2 := by unfold pBal; rw [if_pos h1]
    have e2 : pBalV r c = 0 := by unfold pBalV; rw [if_neg (by rw [e1]; decide)]
    rw [e1, e2]
    clear e1 e2
    rcases h1 with h1 | h1
    · go_enter Tryz.func29, Tryz.ntmps29
      go_wp2
      go_ret2
      exact ⟨rfl, rfl⟩
    · have h3 : ¬ r < 1 := by omega
      go_enter Tryz.func29, Tryz.ntmps29
      go_wp2
      go_ret2
      exact ⟨rfl, rfl⟩
  · by_cases h2 : c < 0 ∨ 5 < c
    · have e1 : pBal r c = 1 := by unfold pBal; rw [if_neg h1, if_pos h2]
      have e2 : pBalV r c = 0 := by unfold pBalV; rw [if_neg (by rw [e1]; decide)]
      rw [e1, e2]
      have h3 : ¬ r < 1 := by omega
      have h4 : ¬ 500 < r := by omega
      clear e1 e2 h1
      rcases h2 with h2 | h2
      · have h5 : ¬ 0 ≤ c := by omega
        go_enter Tryz.func29, Tryz.ntmps29
        go_wp2
        go_ret2
        exact ⟨rfl, rfl⟩
      · have h5 : ¬ c < 6 := by omega
        have h6 : 0 ≤ c := by omega
        go_enter Tryz.func29, Tryz.ntmps29
        go_wp2
        go_ret2
        exact ⟨rfl, rfl⟩
    · have e1 : pBal r c = 0 := by unfold pBal; rw [if_neg h1, if_neg h2]
      have e2 : pBalV r c = r * 8 + c + 1 := by unfold pBalV; rw [if_pos e1]
      rw [e1, e2]
      have h3 : 1 ≤ r := by omega
      have h4 : r ≤ 500 := by omega
      have h5 : 0 ≤ c := by omega
      have h6 : c ≤ 5 := by omega
      have h7 : c < 6 := by omega
      clear e1 e2 h1 h2
      go_enter Tryz.func29, Tryz.ntmps29
      go_wp2
      go_ret2
      exact ⟨rfl, rfl⟩
set_option maxHeartbeats 400000 in
theorem RefMajority_calls (w : World) (n : Int) (h1 : n ≤ 9223372036854775807) :
    Calls Tryz.prog 13 #[.int .i64 n] w fun e w' => e = .returned (.int .i64 (pMaj n)) ∧ w' = w := by
  go_enter Tryz.func13, Tryz.ntmps13
  go_wp2
  all_goals
    go_ret
    refine ⟨ret_int ?_, rfl⟩
    go_tidy
    grind [pMaj]

set_option maxHeartbeats 1600000 in
theorem Valid_job (j : PJ) (h0 : 0 ≤ j.value) (h1 : j.value < 18446744073709551616) :
    Calls Tryz.prog 9 #[pjV j] w fun e w' => e = .returned (.int .i64 (pValid j)) ∧ Below w.heap.size w w' := by
  have HB := Lib.hid (Ballot_any (w.alloc (.cells (pjC j) 24)) j.round j.client)
  have hx : ∀ x, x = pValid j → Ending.returned (.int .i64 x) = Ending.returned (.int .i64 (pValid j)) ∧ Below w.heap.size w (w.alloc (.cells (pjC j) 24)) := fun x h => ⟨ret_int h, (Below.refl _ _).alloc (Nat.le_refl _) _⟩
  have HXX := Lib.hid hx
  obtain ⟨c, hc⟩ : ∃ c, c = pBal j.round j.client := ⟨_, rfl⟩
  rw [← hc] at HB
  have HC := Lib.hid hc
  clear hx hc
  go_enter Tryz.func9, Tryz.ntmps9
  go_wp2_with (first | (go_at_call 28; (refine Calls.mono HB.out ?_; intro e w' hh; rw [hh.1, hh.2]; clear hh w' e)))
  all_goals
    go_ret
    refine HXX.out _ ?_
    have hc := HC.out
    clear HXX HB HC
    go_tidy
    grind [pValid]

abbrev refJobT : Nat := 30
set_option maxHeartbeats 1600000 in
theorem RefValid_job (j : PJ) (h0 : 0 ≤ j.value) (h1 : j.value < 18446744073709551616) :
    Calls Tryz.prog 10 #[pjV j] w fun e w' => e = .returned (.int .i64 (pValid j)) ∧ Below w.heap.size w w' := by
  have HB := Lib.hid (RefBallot_any (w.alloc (.cells (pjC j) 30)) j.round j.client)
  have hx : ∀ x, x = pValid j → Ending.returned (.int .i64 x) = Ending.returned (.int .i64 (pValid j)) ∧ Below w.heap.size w (w.alloc (.cells (pjC j) 30)) := fun x h => ⟨ret_int h, (Below.refl _ _).alloc (Nat.le_refl _) _⟩
  have HXX := Lib.hid hx
  obtain ⟨c, hc⟩ : ∃ c, c = pBal j.round j.client := ⟨_, rfl⟩
  rw [← hc] at HB
  have HC := Lib.hid hc
  clear hx hc
  go_enter Tryz.func10, Tryz.ntmps10
  go_wp2_with (first | (go_at_call 29; (refine Calls.mono HB.out ?_; intro e w' hh; rw [hh.1, hh.2]; clear hh w' e)))
  all_goals
    go_ret
    refine HXX.out _ ?_
    have hc := HC.out
    clear HXX HB HC
    go_tidy
    grind [pValid]
end Go.Proofs.YtaojipegpjolcaaGreat
set_option linter.unusedVariables false
set_option linter.unusedSimpArgs false
namespace Go.Proofs.YtaojipegpjolcaaGreat
open Go.RowKit Go.Sort Go.Proofs.BodegaHeap
variable {base : Nat} {w0 w : World} {L : List Blk}

/-- paxos.Next of a valid job. -/
def pNext (j : PJ) (gs : List (List Dn)) : List Vb × Oc × Bool :=
  match pRun j (pBalV j.round j.client) gs with
  | (_, .ask l) => (l, ⟨0, 0, 0⟩, false)
  | (_, .wrong) => ([], ⟨6, 0, 0⟩, true)
  | (o, .done k) => if k < gs.length then ([], ⟨6, 0, 0⟩, true) else ([], o, true)
structure NxS (jb : Nat) (j : PJ) (w : World) : Prop where
  c : ∀ k, w.cell? ⟨jb, k, none⟩ = (pjC j)[k]?
structure OcS (nr : Nat) (o : Oc) (w : World) : Prop where
  c : ∀ k, w.cell? ⟨nr, k, none⟩ = (#[.int .i64 o.code, .int .u64 o.value, .int .i64 o.round] : Array Value)[k]?
  f : ∀ k, w.frozen? ⟨nr, k, none⟩ = false
theorem TGot.len {ro : Rw} {gts : List GT} {k : Nat} {gv : Value} (h : TGot ro gts k gv) : ∃ a c, gv = .slice a (gts.length - k) c := by
  rcases h with ⟨h, b, hb, rfl⟩ | ⟨rfl, a, c, rfl⟩
  · exact ⟨_, _, rfl⟩
  · exact ⟨a, c, by simp⟩

set_option maxRecDepth 100000 in
set_option maxHeartbeats 8000000 in
theorem Next_calls (j : PJ) (hj : pValid j = 0) (hv : W64 j.value) (ro : Rw) (gts : List GT) (hgo : GotOk ro gts) (hrg : Rng (gots gts)) (hmo : ∀ p, p ∈ gotH ro gts → p ∈ L) (h : St base w0 w L) (R : Ending → World → Prop)
    (hR : ∀ ra w', RowOk ra 9 (pNext j (gots gts)).1.length (nvC (pNext j (gots gts)).1) → (pNext j (gots gts)).1.length ≤ 1000 → ((pNext j (gots gts)).2.2 = false → 0 < (pNext j (gots gts)).1.length) → St base w0 w' (rowH ra 113 (nvC (pNext j (gots gts)).1) ++ L) →
      R (.returned (.tuple #[rowV ra (pNext j (gots gts)).1.length, ocV (pNext j (gots gts)).2.1, .bool (pNext j (gots gts)).2.2])) w') :
    Calls Tryz.prog 77 #[pjV j, rowV ro gts.length] w R := by
  have hjj := hj
  unfold pValid at hjj
  have j1 : ¬ (j.nodes < 1 ∨ 5 < j.nodes) := fun e => by rw [if_pos e] at hjj; simp at hjj
  rw [if_neg j1] at hjj
  have j2 : ¬ (j.number < 0 ∨ 16 ≤ j.number) := fun e => by rw [if_pos e] at hjj; simp at hjj
  rw [if_neg j2] at hjj
  have j3 : pBal j.round j.client = 0 := by
    by_cases e : pBal j.round j.client = 0
    · exact e
    · rw [if_pos e] at hjj; exact absurd hjj e
  rw [if_neg (fun e => e j3)] at hjj
  have j4 : ¬ (j.value = 0 ∨ 1099511627776 ≤ j.value) := fun e => by rw [if_pos e] at hjj; simp at hjj
  have j5 : 1 ≤ j.round ∧ j.round ≤ 500 ∧ 0 ≤ j.client ∧ j.client ≤ 5 := by
    unfold pBal at j3
    split at j3
    · simp at j3
    · split at j3
      · simp at j3
      · omega
  have j6 : pBalV j.round j.client = j.round * 8 + j.client + 1 := by unfold pBalV; rw [if_pos j3]
  obtain ⟨bl, hbl⟩ : ∃ b, b = pBalV j.round j.client := ⟨_, rfl⟩
  have hb0 : 0 ≤ bl := by omega
  have hb1 : bl ≤ 4095 := by omega
  obtain ⟨A, hA⟩ : ∃ A, rowA ro = A := ⟨_, rfl⟩
  have erv : rowV ro gts.length = .slice A gts.length (gts.length + ro.k) := by rw [← hA]
  have htg := TGot.start hgo
  rw [erv] at htg ⊢
  have hbal := fun W => Ballot_any W j.round j.client
  rw [← hbl, j3] at hbal
  have hval := fun W => Valid_job (w := W) j hv.1 hv.2
  rw [hj] at hval
  obtain ⟨W2, hW2⟩ : ∃ W, W = (w.alloc (.cells (pjC j) 24)).alloc (.cells #[.int .i64 0, .int .u64 0, .int .i64 0] 131) := ⟨_, rfl⟩
  have h2 : St base w0 W2 (ocB (w.heap.size + 1) ⟨0, 0, 0⟩ :: ((w.heap.size, .cells (pjC j) 24 (0, 0)) :: L)) := by
    have q := (h.alloc (.cells (pjC j) 24)).alloc (.cells #[.int .i64 0, .int .u64 0, .int .i64 0] 131)
    rw [World.size_alloc, ← hW2] at q
    exact q
  have hx : ∀ (W : World) (X : List Blk), St base w0 W (X ++ (ocB (w.heap.size + 1) ⟨0, 0, 0⟩ :: ((w.heap.size, .cells (pjC j) 24 (0, 0)) :: L))) → NxS w.heap.size j W ∧ (∀ k, W.cell? ⟨w.heap.size + 1, k, none⟩ = (#[.int .i64 0, .int .u64 0, .int .i64 0] : Array Value)[k]?) ∧ (∀ k, W.frozen? ⟨w.heap.size + 1, k, none⟩ = false) := fun W X hX =>
    ⟨⟨fun k => hX.cells (cs := pjC j) (t := 24) (fr := (0, 0)) (by simp) k⟩, fun k => hX.cells (cs := #[.int .i64 0, .int .u64 0, .int .i64 0]) (t := 131) (fr := (0, 0)) (by simp) k, fun k => hX.frozen (cs := #[.int .i64 0, .int .u64 0, .int .i64 0]) (t := 131) (by simp) k⟩
  have HBAL := Lib.hid hbal
  have HVAL := Lib.hid hval
  have HW2 := Lib.hid hW2
  have H2 := Lib.hid h2
  have HX := Lib.hid hx
  have HTG := Lib.hid htg
  have HGO := Lib.hid hgo
  have HRG := Lib.hid hrg
  have HMO := Lib.hid hmo
  have HR := Lib.hid hR
  have HBL := Lib.hid hbl
  have HV := Lib.hid hv
  have cj := (hx W2 [] h2).1.c
  clear hjj j3 j6 hbl hA erv htg hbal hval hW2 h2 hx hgo hrg hmo hR h hj hv
  go_enter Tryz.func77, Tryz.ntmps77
  go_wp2_with fail
  rw [← HW2.out]
  refine (HVAL.out _).mono ?_
  rintro e w3 ⟨rfl, hb3⟩
  have h3 := H2.out.grow hb3
  have H3 := Lib.hid h3
  clear hb3 cj H2 HW2 HVAL h3
  go_wp2_with fail
  obtain ⟨W4, hW4⟩ : ∃ W, W = w3.drew := ⟨_, rfl⟩
  have h4 := H3.out.drew
  rw [← hW4] at h4
  have hk4 := (HX.out W4 [] h4).1
  have HG := Lib.hid (fun W (h : NxS w.heap.size j W) => h.c)
  have HW4 := Lib.hid hW4
  have H4 := Lib.hid h4
  clear hW4 h4 H3
  refine wp_region_T (S := NxS w.heap.size j) [] (by kernel_rfl) (by rw [← HW4.out]; exact hk4) ?_
  rw [← HW4.out]
  refine wpAnyT_takeL (i := 0) (v := ?_) rfl (by kernel_rfl) (by kernel_rfl) (by kernel_rfl) (by kernel_rfl) (fun _ _ _ h => h) (Or.inl ⟨by rfl, ?_⟩) hk4 ?_
  rotate_left
  · intro wS hSw; have hGot := HG.out _ hSw; clear hSw; go_split_ands; go_simp; try with_reducible rfl
  try simp only [Act.put, List.setIfInBounds_toArray, List.set_cons_zero, List.set_cons_succ]
  refine wpAnyT_takeL (i := 1) (v := ?_) rfl (by kernel_rfl) (by kernel_rfl) (by kernel_rfl) (by kernel_rfl) (fun _ _ _ h => h) (Or.inl ⟨by rfl, ?_⟩) hk4 ?_
  rotate_left
  · intro wS hSw; have hGot := HG.out _ hSw; clear hSw; go_split_ands; go_simp; try with_reducible rfl
  try simp only [Act.put, List.setIfInBounds_toArray, List.set_cons_zero, List.set_cons_succ]
  refine wpAnyT_oneL (i := 2) (by kernel_rfl) rfl (fun K hK => ?_)
  rw [if_pos (by rfl)]
  go_wp2_with (refine NewTalk_calls A gts.length (gts.length + ro.k) H4.out _ ?_)
  intro bt w5 h5
  have hk5 := (HX.out w5 [tkB bt (.slice A gts.length (gts.length + ro.k)) (.slice none 0 0) false] h5).1
  have H5 := Lib.hid h5
  clear h5 H4
  refine (hK).out _ _ (fun _ => hk5) (fun _ => ?_)
  clear hK
  refine wpAnyT_takeL (i := 3) (v := ?_) rfl (by kernel_rfl) (by kernel_rfl) (by kernel_rfl) (by kernel_rfl) (fun _ _ _ h => h) (Or.inl ⟨by rfl, ?_⟩) hk5 ?_
  rotate_left
  · intro wS hSw; have hGot := HG.out _ hSw; clear hSw; go_split_ands; go_simp; try with_reducible rfl
  try simp only [Act.put, List.setIfInBounds_toArray, List.set_cons_zero, List.set_cons_succ]
  refine wpAnyT_oneL (i := 4) (by kernel_rfl) rfl (fun K hK => ?_)
  rw [if_pos (by rfl)]
  go_wp2_with fail
  have h6 := H5.out.alloc (.cells (prC j bt 0 0) 150)
  have hk6 := (HX.out _ (prB w5.heap.size j bt 0 0 :: [tkB bt (.slice A gts.length (gts.length + ro.k)) (.slice none 0 0) false]) h6).1
  have h7 := H5.out.alloc (.cells (prC j bt bl 0) 150)
  have h8 : TkIs base w0 (w5.alloc (.cells (prC j bt bl 0) 150)) bt ro gts (.done 0) (prB w5.heap.size j bt bl 0 :: (ocB (w.heap.size + 1) ⟨0, 0, 0⟩ :: ((w.heap.size, .cells (pjC j) 24 (0, 0)) :: L))) :=
    ⟨_, HTG.out, (show St base w0 _ (prB w5.heap.size j bt bl 0 :: (tkB bt (.slice A gts.length (gts.length + ro.k)) (.slice none 0 0) false :: (ocB (w.heap.size + 1) ⟨0, 0, 0⟩ :: ((w.heap.size, .cells (pjC j) 24 (0, 0)) :: L)))) from h7).second⟩
  obtain ⟨c6, f6⟩ := pr_cells h6 List.mem_cons_self
  have hrun := fun R hR => run_calls w5.heap.size bt j bl hb0 hb1 (by omega) (by omega) (by omega) (by omega) HV.out.1 (by have := HV.out; omega) ro gts HGO.out HRG.out (ocB (w.heap.size + 1) ⟨0, 0, 0⟩ :: ((w.heap.size, .cells (pjC j) 24 (0, 0)) :: L)) (fun p hp => List.mem_cons_of_mem _ (List.mem_cons_of_mem _ (HMO.out p hp))) h8 R hR
  have HRUN := Lib.hid hrun
  clear h6 h7 h8 hrun H5
  refine (hK).out _ _ (fun _ => hk6) (fun _ => ?_)
  clear hK
  refine wpAnyT_takeL (i := 5) (v := ?_) rfl (by kernel_rfl) (by kernel_rfl) (by kernel_rfl) (by kernel_rfl) (fun _ _ _ h => h) (Or.inl ⟨by rfl, ?_⟩) hk6 ?_
  rotate_left
  · intro wS hSw; have hGot := HG.out _ hSw; clear hSw; go_split_ands; go_simp; try with_reducible rfl
  try simp only [Act.put, List.setIfInBounds_toArray, List.set_cons_zero, List.set_cons_succ]
  refine wpAnyT_done (by kernel_rfl) ?_ _
  have cj6 := hk6.c
  go_wp2_with fail
  (refine Calls.mono (HBAL.out _) ?_; intro e w' hh; rw [hh.1, hh.2]; clear hh w' e)
  go_wp2_with fail
  refine HRUN.out _ ?_
  intro g' w7 h9
  have hpn : pNext j (gots gts) = match pRun j bl (gots gts) with
    | (_, .ask l) => (l, ⟨0, 0, 0⟩, false)
    | (_, .wrong) => ([], ⟨6, 0, 0⟩, true)
    | (o, .done k) => if k < gts.length then ([], ⟨6, 0, 0⟩, true) else ([], o, true) := by unfold pNext; rw [← HBL.out, List.length_map]
  obtain ⟨pr, hpr⟩ : ∃ x, x = pRun j bl (gots gts) := ⟨_, rfl⟩
  rw [← hpr] at h9 hpn ⊢
  obtain ⟨o, res⟩ := pr
  clear HRUN cj6 c6 f6 hk6 hpr HBAL HTG
  simp only at h9 hpn ⊢
  have h10 := oc_put (o' := o) (nr := w.heap.size + 1) (o := ⟨0, 0, 0⟩) (h9.ac (M' := ocB (w.heap.size + 1) ⟨0, 0, 0⟩ :: (prB w5.heap.size j bt bl g' :: ((w.heap.size, .cells (pjC j) 24 (0, 0)) :: L))) (fun y => by simp only [cnt_cons]; omega))
  obtain ⟨e1, e2⟩ := h9.cells (b := w5.heap.size) (cs := prC j bt bl g') (t := 150) List.mem_cons_self
  obtain ⟨n1, n2⟩ := h9.cells (b := w.heap.size + 1) (cs := #[.int .i64 0, .int .u64 0, .int .i64 0]) (t := 131) (by simp)
  obtain ⟨W8, hW8⟩ : ∃ W, W = (((w7.setCell ⟨w.heap.size + 1, 0, none⟩ (.int .i64 o.code)).setCell ⟨w.heap.size + 1, 1, none⟩ (.int .u64 o.value)).setCell ⟨w.heap.size + 1, 2, none⟩ (.int .i64 o.round)) := ⟨_, rfl⟩
  rw [← hW8] at h10
  have H10 := Lib.hid h10
  have HPN := Lib.hid hpn
  have HW8 := Lib.hid hW8
  have hne : (w5.heap.size ≠ w.heap.size + 1) ∧ (w.heap.size + 1 ≠ w5.heap.size) := by
    obtain ⟨X, hX⟩ := h9.st
    have q := hX.ac (M := prB w5.heap.size j bt bl g' :: (X ++ (ocB (w.heap.size + 1) ⟨0, 0, 0⟩ :: ((w.heap.size, .cells (pjC j) 24 (0, 0)) :: L)))) (fun y => by simp only [cnt_append, cnt_cons]; omega)
    have q2 := q.ne (q := ocB (w.heap.size + 1) ⟨0, 0, 0⟩) (by simp)
    exact ⟨q2.2, q2.1⟩
  obtain ⟨hne1, hne2⟩ := hne
  clear h9 h10 hpn hW8
  have hfin : ∀ (o' : Oc), pNext j (gots gts) = ([], o', true) → ∀ W, St base w0 W L → R (.returned (.tuple #[.slice none 0 0, ocV o', .bool true])) W := fun o' ho W hW => by
    have q := HR.out nilRw W
    rw [ho] at q
    exact q (nilRw_ok 9) (by simp) (fun e => by cases e) hW
  have HFIN := Lib.hid hfin
  clear hfin
  rcases res with k | l | _
  · -- over
    obtain ⟨gv, hgv, hst⟩ := H10.out
    obtain ⟨a, c, rfl⟩ := hgv.len
    have hgl := HGO.out.len
    have hask := fun R hR => Asking_calls (base := base) (w0 := w0) (w := W8) bt (.slice a (gts.length - k) c) false none 0 0 (by omega) hst R hR
    have HASK := Lib.hid hask
    clear hask hst hgv H10
    go_wp2_with fail
    rw [← HW8.out]
    refine HASK.out _ ?_
    intro w9 h9
    have hmis := Mismatch_calls (base := base) (w0 := w0) (w := w9) bt (.slice none 0 0) false a (gts.length - k) c (by omega) h9
    have e9 := (pr_cells h9 (bp := w5.heap.size) (j := j) (bt := bt) (ballot := bl) (gr := g') (by simp)).1
    have n9 := fun k => h9.cells (b := w.heap.size + 1) (cs := #[.int .i64 o.code, .int .u64 o.value, .int .i64 o.round]) (t := 131) (fr := (0, 0)) (by simp) k
    have m9 := fun k => h9.frozen (b := w.heap.size + 1) (cs := #[.int .i64 o.code, .int .u64 o.value, .int .i64 o.round]) (t := 131) (by simp) k
    have h9t : St base w0 w9 (ocB (w.heap.size + 1) o :: (prB w5.heap.size j bt bl g' :: ((w.heap.size, .cells (pjC j) 24 (0, 0)) :: L))) := h9.tail
    have h11 : St base w0 (((w9.setCell ⟨w.heap.size + 1, 0, none⟩ (.int .i64 6)).setCell ⟨w.heap.size + 1, 1, none⟩ (.int .u64 0)).setCell ⟨w.heap.size + 1, 2, none⟩ (.int .i64 0)) (ocB (w.heap.size + 1) ⟨6, 0, 0⟩ :: (prB w5.heap.size j bt bl g' :: ((w.heap.size, .cells (pjC j) 24 (0, 0)) :: L))) :=
      ((h9t.set 0 (.int .i64 6)).set 1 (.int .u64 0)).set 2 (.int .i64 0)
    have H9T := Lib.hid h9t
    have H11 := Lib.hid h11
    obtain ⟨mb, hmb⟩ : ∃ b, b = (false || decide (0 < gts.length - k)) := ⟨_, rfl⟩
    rw [← hmb] at hmis
    have HMIS := Lib.hid hmis
    clear h9 h9t h11 hmis HASK e1 e2 n1 n2 HW8
    by_cases hk : k < gts.length
    · have hkb : mb = true := by rw [hmb, Bool.false_or]; exact decide_eq_true (by omega)
      have hp := HPN.out
      simp only [if_pos hk] at hp
      have H := Lib.hid (HFIN.out _ hp)
      clear hmb hp HFIN HPN
      subst hkb
      go_wp2_with fail
      (refine Calls.mono HMIS.out ?_; intro e w' hh; rw [hh.1, hh.2]; clear hh w' e)
      go_wp2_with fail
      obtain ⟨WB, hWB⟩ : ∃ W, W = ((w9.setCell ⟨w.heap.size + 1, 0, none⟩ (.int .i64 6)).setCell ⟨w.heap.size + 1, 1, none⟩ (.int .u64 0)).setCell ⟨w.heap.size + 1, 2, none⟩ (.int .i64 0) := ⟨_, rfl⟩
      have hSB := H11.out
      rw [← hWB] at hSB ⊢
      have HSB := Lib.hid hSB
      clear hWB hSB H11 H9T n9 m9 e9
      obtain ⟨WA, hWA⟩ : ∃ W, W = WB.drew := ⟨_, rfl⟩
      have hA := HSB.out.drew
      rw [← hWA] at hA
      have hkA : OcS (w.heap.size + 1) (⟨6, 0, 0⟩ : Oc) WA := ⟨fun k => hA.cells (t := 131) (fr := (0, 0)) List.mem_cons_self k, fun k => hA.frozen (t := 131) List.mem_cons_self k⟩
      have hC := ((hA.set 0 (.int .i64 (⟨6, 0, 0⟩ : Oc).code)).set 1 (.int .u64 (⟨6, 0, 0⟩ : Oc).value)).set 2 (.int .i64 (⟨6, 0, 0⟩ : Oc).round)
      have hkC : OcS (w.heap.size + 1) (⟨6, 0, 0⟩ : Oc) _ := ⟨fun k => hC.cells (t := 131) (fr := (0, 0)) List.mem_cons_self k, fun k => hC.frozen (t := 131) List.mem_cons_self k⟩
      have hend := H.out _ (show St base w0 _ L from hC.tail.tail.tail)
      have HGA := Lib.hid (fun W (h : OcS (w.heap.size + 1) (⟨6, 0, 0⟩ : Oc) W) => And.intro h.c h.f)
      have HEND := Lib.hid hend
      have HWA := Lib.hid hWA
      clear hWA HSB hA hC hend
      refine wp_region_T (S := OcS (w.heap.size + 1) (⟨6, 0, 0⟩ : Oc)) [] (by kernel_rfl) (by rw [← HWA.out]; exact hkA) ?_
      rw [← HWA.out]
      refine wpAnyT_takeL (i := 0) (v := ?_) rfl (by kernel_rfl) (by kernel_rfl) (by kernel_rfl) (by kernel_rfl) (fun _ _ _ h => h) (Or.inl ⟨by rfl, ?_⟩) hkA ?_
      rotate_left
      · intro wS hSw; have hGot := HGA.out _ hSw; clear hSw; go_split_ands; go_simp; try with_reducible rfl
      try simp only [Act.put, List.setIfInBounds_toArray, List.set_cons_zero, List.set_cons_succ]
      refine wpAnyT_takeL (i := 1) (v := ?_) rfl (by kernel_rfl) (by kernel_rfl) (by kernel_rfl) (by kernel_rfl) (fun _ _ _ h => h) (Or.inl ⟨by rfl, ?_⟩) hkA ?_
      rotate_left
      · intro wS hSw; have hGot := HGA.out _ hSw; clear hSw; go_split_ands; go_simp; try with_reducible rfl
      try simp only [Act.put, List.setIfInBounds_toArray, List.set_cons_zero, List.set_cons_succ]
      refine wpAnyT_oneL (i := 2) (by kernel_rfl) rfl (fun K hK => ?_)
      rw [if_pos (by rfl)]
      have nA := hkA.c
      have mA := hkA.f
      go_wp2_with fail
      clear nA mA
      refine (hK).out _ _ (fun _ => hkC) (fun _ => ?_)
      clear hK
      refine wpAnyT_takeL (i := 3) (v := ?_) rfl (by kernel_rfl) (by kernel_rfl) (by kernel_rfl) (by kernel_rfl) (fun _ _ _ h => h) (Or.inl ⟨by rfl, ?_⟩) hkC ?_
      rotate_left
      · intro wS hSw; have hGot := HGA.out _ hSw; clear hSw; go_split_ands; go_simp; try with_reducible rfl
      try simp only [Act.put, List.setIfInBounds_toArray, List.set_cons_zero, List.set_cons_succ]
      refine wpAnyT_done (by kernel_rfl) ?_ _
      have nC := hkC.c
      go_wp2
      exact bodyPost_ret (v := .tuple #[.slice none 0 0, ocV (⟨6, 0, 0⟩ : Oc), .bool true]) (by simp [results, Tryz.results77, go_sem, nC]) rfl HEND.out
    · have hkb : mb = false := by rw [hmb, Bool.false_or]; exact decide_eq_false (by omega)
      have hp := HPN.out
      simp only [if_neg hk] at hp
      have H := Lib.hid (HFIN.out _ hp)
      clear hmb hp HFIN HPN H11
      subst hkb
      go_wp2_with fail
      (refine Calls.mono HMIS.out ?_; intro e w' hh; rw [hh.1, hh.2]; clear hh w' e)
      obtain ⟨WB, hWB⟩ : ∃ W, W = w9 := ⟨_, rfl⟩
      have HSB := H9T
      clear n9 m9 e9 H9T
      subst hWB
      go_wp2_with fail
      obtain ⟨WA, hWA⟩ : ∃ W, W = WB.drew := ⟨_, rfl⟩
      have hA := HSB.out.drew
      rw [← hWA] at hA
      have hkA : OcS (w.heap.size + 1) o WA := ⟨fun k => hA.cells (t := 131) (fr := (0, 0)) List.mem_cons_self k, fun k => hA.frozen (t := 131) List.mem_cons_self k⟩
      have hC := ((hA.set 0 (.int .i64 o.code)).set 1 (.int .u64 o.value)).set 2 (.int .i64 o.round)
      have hkC : OcS (w.heap.size + 1) o _ := ⟨fun k => hC.cells (t := 131) (fr := (0, 0)) List.mem_cons_self k, fun k => hC.frozen (t := 131) List.mem_cons_self k⟩
      have hend := H.out _ (show St base w0 _ L from hC.tail.tail.tail)
      have HGA := Lib.hid (fun W (h : OcS (w.heap.size + 1) o W) => And.intro h.c h.f)
      have HEND := Lib.hid hend
      have HWA := Lib.hid hWA
      clear hWA HSB hA hC hend
      refine wp_region_T (S := OcS (w.heap.size + 1) o) [] (by kernel_rfl) (by rw [← HWA.out]; exact hkA) ?_
      rw [← HWA.out]
      refine wpAnyT_takeL (i := 0) (v := ?_) rfl (by kernel_rfl) (by kernel_rfl) (by kernel_rfl) (by kernel_rfl) (fun _ _ _ h => h) (Or.inl ⟨by rfl, ?_⟩) hkA ?_
      rotate_left
      · intro wS hSw; have hGot := HGA.out _ hSw; clear hSw; go_split_ands; go_simp; try with_reducible rfl
      try simp only [Act.put, List.setIfInBounds_toArray, List.set_cons_zero, List.set_cons_succ]
      refine wpAnyT_takeL (i := 1) (v := ?_) rfl (by kernel_rfl) (by kernel_rfl) (by kernel_rfl) (by kernel_rfl) (fun _ _ _ h => h) (Or.inl ⟨by rfl, ?_⟩) hkA ?_
      rotate_left
      · intro wS hSw; have hGot := HGA.out _ hSw; clear hSw; go_split_ands; go_simp; try with_reducible rfl
      try simp only [Act.put, List.setIfInBounds_toArray, List.set_cons_zero, List.set_cons_succ]
      refine wpAnyT_oneL (i := 2) (by kernel_rfl) rfl (fun K hK => ?_)
      rw [if_pos (by rfl)]
      have nA := hkA.c
      have mA := hkA.f
      go_wp2_with fail
      clear nA mA
      refine (hK).out _ _ (fun _ => hkC) (fun _ => ?_)
      clear hK
      refine wpAnyT_takeL (i := 3) (v := ?_) rfl (by kernel_rfl) (by kernel_rfl) (by kernel_rfl) (by kernel_rfl) (fun _ _ _ h => h) (Or.inl ⟨by rfl, ?_⟩) hkC ?_
      rotate_left
      · intro wS hSw; have hGot := HGA.out _ hSw; clear hSw; go_split_ands; go_simp; try with_reducible rfl
      try simp only [Act.put, List.setIfInBounds_toArray, List.set_cons_zero, List.set_cons_succ]
      refine wpAnyT_done (by kernel_rfl) ?_ _
      have nC := hkC.c
      go_wp2
      exact bodyPost_ret (v := .tuple #[.slice none 0 0, ocV o, .bool true]) (by simp [results, Tryz.results77, go_sem, nC]) rfl HEND.out
  · -- it asks
    obtain ⟨a, c, ra, hra, hl0, hl1, hst⟩ := H10.out
    have hask := fun R hR => Asking_calls (base := base) (w0 := w0) (w := W8) bt (.slice a 0 c) false (rowA ra) l.length (l.length + ra.k) hl1 hst R hR
    rw [show decide (0 < l.length) = true from decide_eq_true hl0] at hask
    obtain ⟨A2, hA2⟩ : ∃ A2, rowA ra = A2 := ⟨_, rfl⟩
    rw [hA2] at hask
    have hfin2 : ∀ W, St base w0 W (rowH ra 113 (nvC l) ++ L) → R (.returned (.tuple #[.slice A2 l.length (l.length + ra.k), ocV ⟨0, 0, 0⟩, .bool false])) W := fun W hW => by
      have q := HR.out ra W
      rw [HPN.out] at q
      have q2 := q hra hl1 (fun _ => hl0) hW
      rw [← hA2]
      exact q2
    have HASK := Lib.hid hask
    have HFIN2 := Lib.hid hfin2
    clear hask hst H10 hfin2 hA2 HFIN HR HPN hra
    go_wp2_with fail
    rw [← HW8.out]
    refine HASK.out _ ?_
    intro w9 h9
    have h9t : St base w0 w9 (ocB (w.heap.size + 1) o :: (rowH ra 113 (nvC l) ++ (prB w5.heap.size j bt bl g' :: ((w.heap.size, .cells (pjC j) 24 (0, 0)) :: L)))) := h9.tail.ac (fun y => by simp only [cnt_append, cnt_cons]; omega)
    have n9 := fun k => h9t.cells (t := 131) (fr := (0, 0)) List.mem_cons_self k
    have m9 := fun k => h9t.frozen (t := 131) List.mem_cons_self k
    have h11 : St base w0 (((w9.setCell ⟨w.heap.size + 1, 0, none⟩ (.int .i64 0)).setCell ⟨w.heap.size + 1, 1, none⟩ (.int .u64 0)).setCell ⟨w.heap.size + 1, 2, none⟩ (.int .i64 0)) (ocB (w.heap.size + 1) ⟨0, 0, 0⟩ :: (rowH ra 113 (nvC l) ++ (prB w5.heap.size j bt bl g' :: ((w.heap.size, .cells (pjC j) 24 (0, 0)) :: L)))) :=
      ((h9t.set 0 (.int .i64 0)).set 1 (.int .u64 0)).set 2 (.int .i64 0)
    have n11 := fun k => h11.cells (t := 131) (fr := (0, 0)) List.mem_cons_self k
    have HEND := Lib.hid (HFIN2.out _ (St.drop (L := [prB w5.heap.size j bt bl g', (w.heap.size, .cells (pjC j) 24 (0, 0))]) (h11.tail.ac (fun y => by simp only [cnt_append, cnt_cons, cnt_nil]; omega))))
    clear h9 h9t h11 HASK e1 e2 n1 n2 HW8 HFIN2
    go_wp2
    exact bodyPost_ret (v := .tuple #[.slice A2 l.length (l.length + ra.k), ocV ⟨0, 0, 0⟩, .bool false]) (by simp [results, Tryz.results77, go_sem, n9]) rfl HEND.out
  · -- misfits
    obtain ⟨a, n, c, hn, hst⟩ := H10.out
    have hask := fun R hR => Asking_calls (base := base) (w0 := w0) (w := W8) bt (.slice a n c) true none 0 0 (by omega) hst R hR
    have HASK := Lib.hid hask
    clear hask hst H10
    go_wp2_with fail
    rw [← HW8.out]
    refine HASK.out _ ?_
    intro w9 h9
    have hmis := Mismatch_calls (base := base) (w0 := w0) (w := w9) bt (.slice none 0 0) true a n c (by omega) h9
    have e9 := (pr_cells h9 (bp := w5.heap.size) (j := j) (bt := bt) (ballot := bl) (gr := g') (by simp)).1
    have n9 := fun k => h9.cells (b := w.heap.size + 1) (cs := #[.int .i64 o.code, .int .u64 o.value, .int .i64 o.round]) (t := 131) (fr := (0, 0)) (by simp) k
    have m9 := fun k => h9.frozen (b := w.heap.size + 1) (cs := #[.int .i64 o.code, .int .u64 o.value, .int .i64 o.round]) (t := 131) (by simp) k
    have h9t : St base w0 w9 (ocB (w.heap.size + 1) o :: (prB w5.heap.size j bt bl g' :: ((w.heap.size, .cells (pjC j) 24 (0, 0)) :: L))) := h9.tail
    have h11 : St base w0 (((w9.setCell ⟨w.heap.size + 1, 0, none⟩ (.int .i64 6)).setCell ⟨w.heap.size + 1, 1, none⟩ (.int .u64 0)).setCell ⟨w.heap.size + 1, 2, none⟩ (.int .i64 0)) (ocB (w.heap.size + 1) ⟨6, 0, 0⟩ :: (prB w5.heap.size j bt bl g' :: ((w.heap.size, .cells (pjC j) 24 (0, 0)) :: L))) :=
      ((h9t.set 0 (.int .i64 6)).set 1 (.int .u64 0)).set 2 (.int .i64 0)
    have H9T := Lib.hid h9t
    have H11 := Lib.hid h11
    rw [Bool.true_or] at hmis
    have HMIS := Lib.hid hmis
    clear h9 h9t h11 hmis HASK e1 e2 n1 n2 HW8
    have hp := HPN.out
    have H := Lib.hid (HFIN.out _ hp)
    clear hp HFIN HPN
    go_wp2_with fail
    (refine Calls.mono HMIS.out ?_; intro e w' hh; rw [hh.1, hh.2]; clear hh w' e)
    go_wp2_with fail
    obtain ⟨WB, hWB⟩ : ∃ W, W = ((w9.setCell ⟨w.heap.size + 1, 0, none⟩ (.int .i64 6)).setCell ⟨w.heap.size + 1, 1, none⟩ (.int .u64 0)).setCell ⟨w.heap.size + 1, 2, none⟩ (.int .i64 0) := ⟨_, rfl⟩
    have hSB := H11.out
    rw [← hWB] at hSB ⊢
    have HSB := Lib.hid hSB
    clear hWB hSB H11 H9T n9 m9 e9
    obtain ⟨WA, hWA⟩ : ∃ W, W = WB.drew := ⟨_, rfl⟩
    have hA := HSB.out.drew
    rw [← hWA] at hA
    have hkA : OcS (w.heap.size + 1) (⟨6, 0, 0⟩ : Oc) WA := ⟨fun k => hA.cells (t := 131) (fr := (0, 0)) List.mem_cons_self k, fun k => hA.frozen (t := 131) List.mem_cons_self k⟩
    have hC := ((hA.set 0 (.int .i64 (⟨6, 0, 0⟩ : Oc).code)).set 1 (.int .u64 (⟨6, 0, 0⟩ : Oc).value)).set 2 (.int .i64 (⟨6, 0, 0⟩ : Oc).round)
    have hkC : OcS (w.heap.size + 1) (⟨6, 0, 0⟩ : Oc) _ := ⟨fun k => hC.cells (t := 131) (fr := (0, 0)) List.mem_cons_self k, fun k => hC.frozen (t := 131) List.mem_cons_self k⟩
    have hend := H.out _ (show St base w0 _ L from hC.tail.tail.tail)
    have HGA := Lib.hid (fun W (h : OcS (w.heap.size + 1) (⟨6, 0, 0⟩ : Oc) W) => And.intro h.c h.f)
    have HEND := Lib.hid hend
    have HWA := Lib.hid hWA
    clear hWA HSB hA hC hend
    refine wp_region_T (S := OcS (w.heap.size + 1) (⟨6, 0, 0⟩ : Oc)) [] (by kernel_rfl) (by rw [← HWA.out]; exact hkA) ?_
    rw [← HWA.out]
    refine wpAnyT_takeL (i := 0) (v := ?_) rfl (by kernel_rfl) (by kernel_rfl) (by kernel_rfl) (by kernel_rfl) (fun _ _ _ h => h) (Or.inl ⟨by rfl, ?_⟩) hkA ?_
    rotate_left
    · intro wS hSw; have hGot := HGA.out _ hSw; clear hSw; go_split_ands; go_simp; try with_reducible rfl
    try simp only [Act.put, List.setIfInBounds_toArray, List.set_cons_zero, List.set_cons_succ]
    refine wpAnyT_takeL (i := 1) (v := ?_) rfl (by kernel_rfl) (by kernel_rfl) (by kernel_rfl) (by kernel_rfl) (fun _ _ _ h => h) (Or.inl ⟨by rfl, ?_⟩) hkA ?_
    rotate_left
    · intro wS hSw; have hGot := HGA.out _ hSw; clear hSw; go_split_ands; go_simp; try with_reducible rfl
    try simp only [Act.put, List.setIfInBounds_toArray, List.set_cons_zero, List.set_cons_succ]
    refine wpAnyT_oneL (i := 2) (by kernel_rfl) rfl (fun K hK => ?_)
    rw [if_pos (by rfl)]
    have nA := hkA.c
    have mA := hkA.f
    go_wp2_with fail
    clear nA mA
    refine (hK).out _ _ (fun _ => hkC) (fun _ => ?_)
    clear hK
    refine wpAnyT_takeL (i := 3) (v := ?_) rfl (by kernel_rfl) (by kernel_rfl) (by kernel_rfl) (by kernel_rfl) (fun _ _ _ h => h) (Or.inl ⟨by rfl, ?_⟩) hkC ?_
    rotate_left
    · intro wS hSw; have hGot := HGA.out _ hSw; clear hSw; go_split_ands; go_simp; try with_reducible rfl
    try simp only [Act.put, List.setIfInBounds_toArray, List.set_cons_zero, List.set_cons_succ]
    refine wpAnyT_done (by kernel_rfl) ?_ _
    have nC := hkC.c
    go_wp2
    exact bodyPost_ret (v := .tuple #[.slice none 0 0, ocV (⟨6, 0, 0⟩ : Oc), .bool true]) (by simp [results, Tryz.results77, go_sem, nC]) rfl HEND.out
end Go.Proofs.YtaojipegpjolcaaGreat
