/- What Fabric.Step leaves behind Pair.Step, and what becomes of it. Contracts of package fabric: Step of a live pair. -/
import Derived.Test.YtaojipegpjolcaaGreatGD
import Derived.Deep.Cut
import Derived.Deep.CutRange
set_option linter.unusedVariables false
set_option linter.unusedSimpArgs false
namespace Go.Proofs.YtaojipegpjolcaaGreat
open Go.RowKit Go.Sort Go.Proofs.BodegaHeap
variable {base : Nat} {w0 w : World} {L : List Blk}

/-- What Pair.Step has left, in step's slot 7 (the box of the completion) and slot 8. -/
structure MidAt (base : Nat) (w0 : World) (F : FB) (C : CP) (i j : Nat) (l : LN) (x : ND) (L : List Blk) (nb : Nat) (g' : GP) (N' : Nd) (od : Option DV) (wx : World) : Prop where
  bp : g'.bp = l.g.bp
  pr : PrOk F.lines F.ns.length g'
  ps : pStepPair l.g.pure x.N = (g'.pure, N', od.map (·.1))
  nw : N'.words.length = x.N.words.length
  dv : ∀ d, od = some d → DvOk d
  len : g'.gs.length = (if od.isSome then l.g.gs.length - 1 else l.g.gs.length)
  st : St base w0 wx ((nb, .cells (odC od).toArray 94 (0, 0)) :: (gpH g' ++ (odH od ++ (ndH x.bn x.bw N' ++ (rowH l.pl 3 (ints l.ps) ++ ((F.fb, .cells (fbCells F) 76 (0, 0)) :: (rowH F.cr 84 (F.cs.flatMap cpC) ++ (rowH C.lr 87 (C.ls.flatMap lnC) ++ (rowH C.br 94 (C.ds.flatMap dnC) ++ (C.ds.flatMap dnH ++ (fbY F C i j ++ L)))))))))))
def Mid (base : Nat) (w0 : World) (F : FB) (C : CP) (i j : Nat) (l : LN) (x : ND) (L : List Blk) (s7 s8 : Value) (wx : World) : Prop :=
  ∃ (nb : Nat) (g' : GP) (N' : Nd) (od : Option DV), s7 = .pointer (some ⟨nb, 0, none⟩) ∧ s8 = .bool od.isSome ∧ MidAt base w0 F C i j l x L nb g' N' od wx

theorem mid_of {F : FB} {C : CP} {i j : Nat} {l : LN} {x : ND} {M : List Blk} {nb : Nat} {g' : GP} {N' : Nd} {od : Option DV} {W : World} (hbp : g'.bp = l.g.bp) (hpr : PrOk F.lines F.ns.length g') (hps : pStepPair l.g.pure x.N = (g'.pure, N', od.map (·.1)))
    (hnw : N'.words.length = x.N.words.length) (hdv : ∀ d, od = some d → DvOk d) (hgl2 : g'.gs.length = (if od.isSome then l.g.gs.length - 1 else l.g.gs.length))
    (h : St base w0 W ((nb, .cells (odC od).toArray 94 (0, 0)) :: (gpH g' ++ (odH od ++ (ndH x.bn x.bw N' ++ (rowH l.pl 3 (ints l.ps) ++ ((F.fb, .cells (fbCells F) 76 (0, 0)) :: (rowH F.cr 84 (F.cs.flatMap cpC) ++ (rowH C.lr 87 (C.ls.flatMap lnC) ++ (rowH C.br 94 (C.ds.flatMap dnC) ++ (C.ds.flatMap dnH ++ (fbY F C i j ++ M)))))))))))) :
    Mid base w0 F C i j l x M (.pointer (some ⟨nb, 0, none⟩)) (.bool od.isSome) W :=
  ⟨nb, g', N', od, rfl, rfl, hbp, hpr, hps, hnw, hdv, hgl2, h⟩

theorem box_back {F : FB} {C : CP} {i j : Nat} {l : LN} {x : ND} {M : List Blk} {b : Blk} {W : World}
    (h : St base w0 W (b :: (gpH l.g ++ (ndH x.bn x.bw x.N ++ (rowH l.pl 3 (ints l.ps) ++ ((F.fb, .cells (fbCells F) 76 (0, 0)) :: (rowH F.cr 84 (F.cs.flatMap cpC) ++ (rowH C.lr 87 (C.ls.flatMap lnC) ++ (rowH C.br 94 (C.ds.flatMap dnC) ++ (C.ds.flatMap dnH ++ (fbY F C i j ++ M))))))))))) :
    St base w0 W (gpH l.g ++ (ndH x.bn x.bw x.N ++ (b :: (rowH l.pl 3 (ints l.ps) ++ ((F.fb, .cells (fbCells F) 76 (0, 0)) :: (rowH F.cr 84 (F.cs.flatMap cpC) ++ (rowH C.lr 87 (C.ls.flatMap lnC) ++ (rowH C.br 94 (C.ds.flatMap dnC) ++ (C.ds.flatMap dnH ++ (fbY F C i j ++ M)))))))))) :=
  h.ac (fun y => by simp only [cnt_append, cnt_cons, cnt_nil]; omega)
theorem box_front {F : FB} {C : CP} {i j : Nat} {l : LN} {x : ND} {M : List Blk} {b : Blk} {g' : GP} {N' : Nd} {od : Option DV} {W : World}
    (h : St base w0 W (gpH g' ++ (odH od ++ (ndH x.bn x.bw N' ++ (b :: (rowH l.pl 3 (ints l.ps) ++ ((F.fb, .cells (fbCells F) 76 (0, 0)) :: (rowH F.cr 84 (F.cs.flatMap cpC) ++ (rowH C.lr 87 (C.ls.flatMap lnC) ++ (rowH C.br 94 (C.ds.flatMap dnC) ++ (C.ds.flatMap dnH ++ (fbY F C i j ++ M)))))))))))) :
    St base w0 W (b :: (gpH g' ++ (odH od ++ (ndH x.bn x.bw N' ++ (rowH l.pl 3 (ints l.ps) ++ ((F.fb, .cells (fbCells F) 76 (0, 0)) :: (rowH F.cr 84 (F.cs.flatMap cpC) ++ (rowH C.lr 87 (C.ls.flatMap lnC) ++ (rowH C.br 94 (C.ds.flatMap dnC) ++ (C.ds.flatMap dnH ++ (fbY F C i j ++ M))))))))))) :=
  h.ac (fun y => by simp only [cnt_append, cnt_cons, cnt_nil]; omega)

/-- Without a completion. -/
theorem none_ends {F : FB} (hF : FbOk F) {i j : Nat} {C : CP} {l : LN} {x : ND} (hi : F.cs[i]? = some C) (hj : C.ls[j]? = some l) (hx : F.ns[j]? = some x) {nb nb2 : Nat} {cs : List Value} {g' : GP} {N' : Nd} {wx : World}
    (hm : MidAt base w0 F C i j l x ((nb2, .cells cs.toArray 51 (0, 0)) :: L) nb g' N' none wx) :
    FbOk (F.stepped i j { C with ls := C.ls.set j ⟨g', l.pl, l.ps⟩ } x N') ∧ (F.stepped i j { C with ls := C.ls.set j ⟨g', l.pl, l.ps⟩ } x N').pure = pStepLive F.pure i j ∧
    St base w0 wx (fbH (F.stepped i j { C with ls := C.ls.set j ⟨g', l.pl, l.ps⟩ } x N') ++ L) := by
  obtain ⟨hbp, hpr, hps, hnw, hdv, hlen, hst⟩ := hm
  have hC := hF.cs i C hi
  have hl := hC.ls j l hj
  have hl' : LnOk F.lines F.ns.length i C.inc C.ds.length j ⟨g', l.pl, l.ps⟩ := hl.step hpr hps hl.pl (by simpa [hl.len] using hlen.symm) (fun p hp => hp)
  refine ⟨setNd_setCp hF hi hx hnw (CpOk.setLane hC hj (l' := ⟨g', l.pl, l.ps⟩) rfl rfl rfl rfl rfl rfl hC.ds rfl hC.wlt hl') rfl, pStepLive_none hi hj hx hps, ?_⟩
  have e1 : (F.cs.set i { C with ls := C.ls.set j ⟨g', l.pl, l.ps⟩ }).flatMap cpC = F.cs.flatMap cpC := flatMap_set_same cpC F.cs i C _ hi (by simp [cpC])
  have e2 : (C.ls.set j ⟨g', l.pl, l.ps⟩).flatMap lnC = C.ls.flatMap lnC := flatMap_set_same lnC C.ls j l _ hj (by simp [lnC, hbp])
  refine fb_close2 hi hj hx (C' := { C with ls := C.ls.set j ⟨g', l.pl, l.ps⟩ }) (l' := ⟨g', l.pl, l.ps⟩) rfl ?_
  rw [e1]
  simp only [e2]
  refine St.drop (L := [(nb, .cells (odC none).toArray 94 (0, 0)), (nb2, .cells cs.toArray 51 (0, 0))]) (hst.ac (fun y => ?_))
  simp only [odH, gpH, fbY, cnt_append, cnt_cons, cnt_nil]
  omega
/-- What is read for a completion. -/
theorem some_cells {F : FB} {i j : Nat} {C : CP} {l : LN} {x : ND} {M : List Blk} (hi : F.cs[i]? = some C) (hj : C.ls[j]? = some l) {b b2 b4 b5 : Nat} (hb : F.cr.blk = some b) (hb2 : C.lr.blk = some b2) (hb4 : C.br.blk = some b4) (hb5 : l.pl.blk = some b5) {p : Int} {ps : List Int} (hps : l.ps = p :: ps)
    {nb : Nat} {g' : GP} {N' : Nd} {d : DV} {W : World} (hm : MidAt base w0 F C i j l x M nb g' N' (some d) W) :
    W.cell? ⟨b, i * 7 + 3, none⟩ = some (.slice (some ⟨b4, 0, none⟩) C.ds.length (C.ds.length + C.br.k)) ∧ W.cell? ⟨b2, j * 2 + 1, none⟩ = some (.slice (some ⟨b5, 0, none⟩) (ps.length + 1) (ps.length + 1 + l.pl.k)) ∧
    W.cell? ⟨b5, 0, none⟩ = some (.int .i64 p) ∧ (∀ k, W.cell? ⟨nb, k, none⟩ = (#[.int .i64 d.1.code, rowV d.2 d.1.words.length] : Array Value)[k]?) ∧ (∀ k, W.frozen? ⟨b4, k, none⟩ = false) ∧ (∀ k, W.frozen? ⟨b2, k, none⟩ = false) := by
  have h := hm.st
  refine ⟨?_, ?_, ?_, fun k => h.cells (t := 94) (fr := (0, 0)) List.mem_cons_self k, fun k => h.row_frozen (r := C.br) (t := 94) (cs := C.ds.flatMap dnC) hb4 (fun p hp => by simp only [List.mem_append, List.mem_cons]; simp [hp]) k, fun k => h.row_frozen (r := C.lr) (t := 87) (cs := C.ls.flatMap lnC) hb2 (fun p hp => by simp only [List.mem_append, List.mem_cons]; simp [hp]) k⟩
  · have e := (CpAt.of h hb (fun p hp => by simp only [List.mem_append, List.mem_cons]; simp [hp]) hi).a3
    rw [e]; simp [rowV, rowA, hb4]
  · have e := h.recCell (enc := lnC) (s := 2) (r := C.lr) (t := 87) (xs := C.ls) (fun _ => rfl) hb2 (fun p hp => by simp only [List.mem_append, List.mem_cons]; simp [hp]) hj 1 (by decide)
    rw [e]; simp [rowV, rowA, hb5, hps]
  · have e := h.row_cell (r := l.pl) (t := 3) (cs := ints l.ps) hb5 (fun p hp => by simp only [List.mem_append, List.mem_cons]; simp [hp]) 0 (by simp [hps])
    rw [e]; simp [hps]

theorem mem4 {a b : Blk} {r1 r2 M : List Blk} (ha : a ∈ M) (hb : b ∈ M) (h1 : ∀ p, p ∈ r1 → p ∈ M) (h2 : ∀ p, p ∈ r2 → p ∈ M) : ∀ p, p ∈ a :: b :: (r1 ++ r2) → p ∈ M := by
  intro p hp
  rcases List.mem_cons.1 hp with rfl | hp
  · exact ha
  · rcases List.mem_cons.1 hp with rfl | hp
    · exact hb
    · rcases List.mem_append.1 hp with hp | hp
      · exact h1 p hp
      · exact h2 p hp


abbrev M6 (F : FB) (C : CP) (i j : Nat) (l : LN) (x : ND) (M : List Blk) (g' : GP) (N' : Nd) (d : DV) (pn : Nat) : List Blk :=
  rowH l.pl 3 (ints l.ps) ++ (rowH C.lr 87 (C.ls.flatMap lnC) ++ (rowH F.cr 84 (F.cs.flatMap cpC) ++ (rowH C.br 94 ((C.ds.set pn d).flatMap dnC) ++ (gpH g' ++ (dnH d ++ (ndH x.bn x.bw N' ++ ((F.fb, .cells (fbCells F) 76 (0, 0)) :: (C.ds.flatMap dnH ++ (fbY F C i j ++ M)))))))))
theorem some_stored {F : FB} {i j : Nat} {C : CP} {l : LN} {x : ND} {M : List Blk} {b4 pn : Nat} (hb4 : C.br.blk = some b4) (hpn : pn < C.ds.length) {nb : Nat} {g' : GP} {N' : Nd} {d : DV} {W : World} (hm : MidAt base w0 F C i j l x M nb g' N' (some d) W) :
    St base w0 ((W.drew.setCell ⟨b4, pn * 2, none⟩ (.int .i64 d.1.code)).setCell ⟨b4, pn * 2 + 1, none⟩ (rowV d.2 d.1.words.length)) (M6 F C i j l x M g' N' d pn) := by
  have h := hm.st.tail.drew
  have h1 : St base w0 W.drew (rowH C.br 94 (C.ds.flatMap dnC) ++ (rowH l.pl 3 (ints l.ps) ++ (rowH C.lr 87 (C.ls.flatMap lnC) ++ (rowH F.cr 84 (F.cs.flatMap cpC) ++ (gpH g' ++ (dnH d ++ (ndH x.bn x.bw N' ++ ((F.fb, .cells (fbCells F) 76 (0, 0)) :: (C.ds.flatMap dnH ++ (fbY F C i j ++ M)))))))))) :=
    h.ac (fun y => by simp only [odH, cnt_append, cnt_cons]; omega)
  have hx : C.ds[pn]? = some C.ds[pn] := by simp [hpn]
  have h2 := h1.setRec (enc := dnC) (s := 2) (fun _ => rfl) hb4 hx 0 (by decide) (.int .i64 d.1.code) (⟨d.1.code, C.ds[pn].1.words⟩, C.ds[pn].2) rfl
  have hx2 : (C.ds.set pn (⟨d.1.code, C.ds[pn].1.words⟩, C.ds[pn].2))[pn]? = some (⟨d.1.code, C.ds[pn].1.words⟩, C.ds[pn].2) := by simp [hpn]
  have h3 := h2.setRec (enc := dnC) (s := 2) (fun _ => rfl) hb4 hx2 1 (by decide) (rowV d.2 d.1.words.length) d rfl
  rw [List.set_set] at h3
  exact h3.ac (fun y => by simp only [cnt_append, cnt_cons, cnt_nil]; omega)

theorem some_ends {F : FB} (hF : FbOk F) {i j : Nat} {C : CP} {l : LN} {x : ND} {L : List Blk} {nb2 : Nat} {cs : List Value} {b b2 pn : Nat} (hi : F.cs[i]? = some C) (hj : C.ls[j]? = some l) (hx : F.ns[j]? = some x) (hb : F.cr.blk = some b) (hb2 : C.lr.blk = some b2)
    {ps : List Int} (hps : l.ps = (pn : Int) :: ps) (hpn : pn < C.ds.length) {nb : Nat} {g' : GP} {N' : Nd} {d : DV} {W : World} (hm : MidAt base w0 F C i j l x ((nb2, .cells cs.toArray 51 (0, 0)) :: L) nb g' N' (some d) W)
    {r : Rw} (hr : RowOk r 1 ps.length (ints ps)) {w7 : World} (h : St base w0 w7 (rowH r 3 (ints ps) ++ M6 F C i j l x ((nb2, .cells cs.toArray 51 (0, 0)) :: L) g' N' d pn)) :
    (∀ k, w7.frozen? ⟨b2, k, none⟩ = false) ∧ (w7.setCell ⟨b2, j * 2 + 1, none⟩ (rowV r ps.length)).cell? ⟨b, i * 7 + 4, none⟩ = some (.int .i64 C.waiting) ∧ (∀ k, (w7.setCell ⟨b2, j * 2 + 1, none⟩ (rowV r ps.length)).frozen? ⟨b, k, none⟩ = false) ∧ 1 ≤ C.waiting ∧ C.waiting ≤ 1000 ∧
    FbOk (F.stepped i j { C with ls := C.ls.set j ⟨g', r, ps⟩, ds := C.ds.set pn d, waiting := C.waiting - 1 } x N') ∧
    (F.stepped i j { C with ls := C.ls.set j ⟨g', r, ps⟩, ds := C.ds.set pn d, waiting := C.waiting - 1 } x N').pure = pStepLive F.pure i j ∧
    St base w0 ((w7.setCell ⟨b2, j * 2 + 1, none⟩ (rowV r ps.length)).setCell ⟨b, i * 7 + 4, none⟩ (.int .i64 (C.waiting - 1))) (fbH (F.stepped i j { C with ls := C.ls.set j ⟨g', r, ps⟩, ds := C.ds.set pn d, waiting := C.waiting - 1 } x N') ++ L) := by
  obtain ⟨hbp, hpr, hstep, hnw, hdv, hlen, hst⟩ := hm
  have hC := hF.cs i C hi
  have hl := hC.ls j l hj
  have hl2 := hl.len
  have hw := hC.wait
  have hsum := sum_set C.ls j l ⟨g', r, ps⟩ hj
  have hwl := hC.wlt
  have hdl := hC.dlen
  rw [hps, List.length_cons] at hsum
  simp only at hsum
  have hl' : LnOk F.lines F.ns.length i C.inc C.ds.length j ⟨g', r, ps⟩ := hl.step hpr hstep hr (by rw [hps] at hl2; simp at hlen hl2; omega) (fun p hp => by rw [hps]; exact List.mem_cons_of_mem _ hp)
  have hdd : ∀ d' ∈ C.ds.set pn d, DvOk d' := fun d' hd => by
    rcases List.mem_or_eq_of_mem_set hd with hd | rfl
    · exact hC.ds d' hd
    · exact hdv _ rfl
  have h1 : St base w0 w7 (rowH C.lr 87 (C.ls.flatMap lnC) ++ (rowH r 3 (ints ps) ++ (rowH l.pl 3 (ints l.ps) ++ (rowH F.cr 84 (F.cs.flatMap cpC) ++ (rowH C.br 94 ((C.ds.set pn d).flatMap dnC) ++ (gpH g' ++ (dnH d ++ (ndH x.bn x.bw N' ++ ((F.fb, .cells (fbCells F) 76 (0, 0)) :: (C.ds.flatMap dnH ++ (fbY F C i j ++ ((nb2, .cells cs.toArray 51 (0, 0)) :: L)))))))))))) :=
    h.ac (fun y => by simp only [M6, cnt_append, cnt_cons]; omega)
  have h2 := h1.setRec (enc := lnC) (s := 2) (fun _ => rfl) hb2 hj 1 (by decide) (rowV r ps.length) (⟨g', r, ps⟩ : LN) (by simp [lnC, hbp])
  have h3 : St base w0 (w7.setCell ⟨b2, j * 2 + 1, none⟩ (rowV r ps.length)) (rowH F.cr 84 (F.cs.flatMap cpC) ++ (rowH C.lr 87 ((C.ls.set j ⟨g', r, ps⟩).flatMap lnC) ++ (rowH r 3 (ints ps) ++ (rowH l.pl 3 (ints l.ps) ++ (rowH C.br 94 ((C.ds.set pn d).flatMap dnC) ++ (gpH g' ++ (dnH d ++ (ndH x.bn x.bw N' ++ ((F.fb, .cells (fbCells F) 76 (0, 0)) :: (C.ds.flatMap dnH ++ (fbY F C i j ++ ((nb2, .cells cs.toArray 51 (0, 0)) :: L)))))))))))) :=
    h2.ac (fun y => by simp only [cnt_append, cnt_cons]; omega)
  have h4 := h3.setRec (enc := cpC) (s := 7) (fun _ => rfl) hb hi 4 (by decide) (.int .i64 (C.waiting - 1)) ({ C with ls := C.ls.set j ⟨g', r, ps⟩, ds := C.ds.set pn d, waiting := C.waiting - 1 } : CP) (by simp [cpC])
  have hat := CpAt.of h3 hb (fun p hp => List.mem_append_left _ hp) hi
  refine ⟨fun k => h1.row_frozen hb2 (fun p hp => List.mem_append_left _ hp) k, hat.a4, hat.fr, by omega, by omega,
    setNd_setCp hF hi hx hnw (CpOk.setLane hC hj (l' := ⟨g', r, ps⟩) rfl rfl rfl rfl rfl (by simp) hdd (by simp only [hps, List.length_cons]; omega) (by simp only [List.length_set]; omega) hl') rfl, ?_, ?_⟩
  · have e := pStepLive_some hi hj hx hstep hps r
    simpa using e
  · refine fb_close2 hi hj hx (C' := { C with ls := C.ls.set j ⟨g', r, ps⟩, ds := C.ds.set pn d, waiting := C.waiting - 1 }) (l' := ⟨g', r, ps⟩) rfl ?_
    have hxd : C.ds[pn]? = some C.ds[pn] := by simp [hpn]
    refine St.drop (L := (nb2, .cells cs.toArray 51 (0, 0)) :: (rowH l.pl 3 (ints l.ps) ++ dnH C.ds[pn])) (h4.ac (fun y => ?_))
    have e1 := cnt_flat_get dnH y C.ds pn _ hxd
    have e2 := cnt_flat_set dnH y C.ds pn d hpn
    simp only [gpH, fbY, cnt_append, cnt_cons, cnt_nil] at *
    omega

/-- What is read for the places behind the store. -/
theorem stored_cells {F : FB} {i j : Nat} {C : CP} {l : LN} {x : ND} {M : List Blk} {b2 b5 pn : Nat} {g' : GP} {N' : Nd} {d : DV} (hj : C.ls[j]? = some l) (hb2 : C.lr.blk = some b2) (hb5 : l.pl.blk = some b5) {p : Int} {ps : List Int} (hps : l.ps = p :: ps) {W : World} (h : St base w0 W (M6 F C i j l x M g' N' d pn)) :
    W.cell? ⟨b2, j * 2 + 1, none⟩ = some (.slice (some ⟨b5, 0, none⟩) (ps.length + 1) (ps.length + 1 + l.pl.k)) ∧ (∀ k u, (ints ps)[k]? = some u → W.cell? ⟨b5, 1 + k, none⟩ = some u) := by
  refine ⟨?_, ?_⟩
  · have e := h.recCell (enc := lnC) (s := 2) (r := C.lr) (t := 87) (xs := C.ls) (fun _ => rfl) hb2 (fun p hp => by simp only [M6, List.mem_append, List.mem_cons]; simp [hp]) hj 1 (by decide)
    rw [e]; simp [rowV, rowA, hb5, hps]
  · intro k u hk
    have hkl := (List.getElem?_eq_some_iff.1 hk).1
    have e := h.row_cell (r := l.pl) (t := 3) (cs := ints l.ps) hb5 (fun p hp => by simp only [M6, List.mem_append, List.mem_cons]; simp [hp]) (1 + k) (by simp [hps] at *; omega)
    rw [e, hps, Nat.add_comm 1 k]; exact hk
theorem old_cells {F : FB} {i j : Nat} {C : CP} {l : LN} {x : ND} {M : List Blk} {b4 pn : Nat} (hb4 : C.br.blk = some b4) (hpn : pn < C.ds.length) {nb : Nat} {g' : GP} {N' : Nd} {od : Option DV} {W : World} (hm : MidAt base w0 F C i j l x M nb g' N' od W) :
    ∃ u v, W.cell? ⟨b4, pn * 2, none⟩ = some u ∧ W.cell? ⟨b4, pn * 2 + 1, none⟩ = some v := by
  have hx : C.ds[pn]? = some C.ds[pn] := by simp [hpn]
  have f := fun k hk => hm.st.recCell (enc := dnC) (s := 2) (r := C.br) (t := 94) (xs := C.ds) (fun _ => rfl) hb4 (fun p hp => by simp only [List.mem_append, List.mem_cons]; simp [hp]) hx k hk
  exact ⟨_, _, f 0 (by decide), f 1 (by decide)⟩
theorem mid_ne {F : FB} {i j : Nat} {C : CP} {l : LN} {x : ND} {M : List Blk} {b b2 b4 : Nat} (hb : F.cr.blk = some b) (hb2 : C.lr.blk = some b2) (hb4 : C.br.blk = some b4) {nb : Nat} {g' : GP} {N' : Nd} {od : Option DV} {W : World} (hm : MidAt base w0 F C i j l x M nb g' N' od W) :
    (b2 ≠ b4 ∧ b4 ≠ b2) ∧ (b ≠ b2 ∧ b2 ≠ b) := by
  have h := hm.st.tail
  have h1 : St base w0 W (rowH C.lr 87 (C.ls.flatMap lnC) ++ (rowH F.cr 84 (F.cs.flatMap cpC) ++ (rowH C.br 94 (C.ds.flatMap dnC) ++ (gpH g' ++ (odH od ++ (ndH x.bn x.bw N' ++ (rowH l.pl 3 (ints l.ps) ++ ((F.fb, .cells (fbCells F) 76 (0, 0)) :: (C.ds.flatMap dnH ++ (fbY F C i j ++ M)))))))))) :=
    h.ac (fun y => by simp only [cnt_append, cnt_cons, cnt_nil]; omega)
  have e1 : rowH C.lr 87 (C.ls.flatMap lnC) = [(b2, .cells (C.ls.flatMap lnC ++ C.lr.sp).toArray 87 (0, 0))] := by simp [rowH, hb2]
  rw [e1, List.singleton_append] at h1
  have k1 := h1.ne (q := (b, .cells (F.cs.flatMap cpC ++ F.cr.sp).toArray 84 (0, 0))) (List.mem_append_left _ (row_mem hb))
  have k2 := h1.ne (q := (b4, .cells (C.ds.flatMap dnC ++ C.br.sp).toArray 94 (0, 0))) (List.mem_append_right _ (List.mem_append_left _ (row_mem hb4)))
  exact ⟨⟨k2.2, k2.1⟩, k1⟩
/-- What is read behind the clone of the places. -/
theorem cloned_cells {F : FB} {i j : Nat} {C : CP} {l : LN} {x : ND} {M X : List Blk} {b b2 pn : Nat} {g' : GP} {N' : Nd} {d : DV} (hi : F.cs[i]? = some C) (hj : C.ls[j]? = some l) (hb : F.cr.blk = some b) (hb2 : C.lr.blk = some b2) {W : World} (h : St base w0 W (X ++ M6 F C i j l x M g' N' d pn)) :
    W.cell? ⟨b2, j * 2 + 1, none⟩ = some (rowV l.pl l.ps.length) ∧ W.cell? ⟨b, i * 7 + 4, none⟩ = some (.int .i64 C.waiting) ∧ (∀ k, W.frozen? ⟨b2, k, none⟩ = false) ∧ (∀ k, W.frozen? ⟨b, k, none⟩ = false) := by
  refine ⟨?_, ?_, ?_, ?_⟩
  · exact h.recCell (enc := lnC) (s := 2) (r := C.lr) (t := 87) (xs := C.ls) (fun _ => rfl) hb2 (fun p hp => by simp only [M6, List.mem_append, List.mem_cons]; simp [hp]) hj 1 (by decide)
  · exact (CpAt.of h hb (fun p hp => by simp only [M6, List.mem_append, List.mem_cons]; simp [hp]) hi).a4
  · exact fun k => h.row_frozen (r := C.lr) (t := 87) (cs := C.ls.flatMap lnC) hb2 (fun p hp => by simp only [M6, List.mem_append, List.mem_cons]; simp [hp]) k
  · exact fun k => h.row_frozen (r := F.cr) (t := 84) (cs := F.cs.flatMap cpC) hb (fun p hp => by simp only [M6, List.mem_append, List.mem_cons]; simp [hp]) k
theorem ints_one (xs : List Int) : ∀ u ∈ ints xs, u.oneCell' = true := by
  intro u hu
  obtain ⟨x, _, rfl⟩ := List.mem_map.1 hu
  rfl
end Go.Proofs.YtaojipegpjolcaaGreat
set_option linter.unusedVariables false
set_option linter.unusedSimpArgs false
namespace Go.Proofs.YtaojipegpjolcaaGreat
open Go.RowKit Go.Sort Go.Proofs.BodegaHeap
variable {base : Nat} {w0 w : World} {L : List Blk}

set_option maxRecDepth 100000 in
set_option maxHeartbeats 40000000 in
theorem Step_live (F : FB) (hF : FbOk F) (i j : Nat) (C : CP) (l : LN) (x : ND) (hi : F.cs[i]? = some C) (hj : C.ls[j]? = some l) (hx : F.ns[j]? = some x) (hgs : l.g.gs ≠ []) (h : St base w0 w (fbH F ++ L)) (R : Ending → World → Prop)
    (hR : ∀ (F' : FB) w', FbOk F' → F'.fb = F.fb → F'.pure = pStepLive F.pure i j → St base w0 w' (fbH F' ++ L) → R (.returned (.bool true)) w') :
    Calls Tryz.prog 22 #[fP F, chV (-1, i, j)] w R := by
  have hil : i < F.cs.length := (List.getElem?_eq_some_iff.1 hi).1
  have hjl : j < C.ls.length := (List.getElem?_eq_some_iff.1 hj).1
  have hxl : j < F.ns.length := (List.getElem?_eq_some_iff.1 hx).1
  have hC := hF.cs i C hi
  have hl := hC.ls j l hj
  have hn5 := hF.n1
  have hc6 := hF.c1
  obtain ⟨b, hb⟩ := hF.cr.pos (by omega)
  obtain ⟨b2, hb2⟩ := hC.lr.pos (by omega)
  obtain ⟨b3, hb3⟩ := hF.nr.pos (by omega)
  -- the world behind the box
  obtain ⟨w1, hw1⟩ : ∃ W, W = w.alloc (.cells #[.int .i64 (-1), .int .i64 i, .int .i64 j] 51) := ⟨_, rfl⟩
  obtain ⟨nb, hnb⟩ : ∃ n, n = w.heap.size := ⟨_, rfl⟩
  have h1 : St base w0 w1 (fbH F ++ ((nb, .cells #[.int .i64 (-1), .int .i64 i, .int .i64 j] 51 (0, 0)) :: L)) := by
    rw [hw1, hnb]; exact (h.alloc _).ac (fun y => by simp only [cnt_append, cnt_cons]; omega)
  have hcl := client_calls F i hil b hb hF.c1 h1
  have hl2 : ∀ W X, St base w0 W (fbH F ++ ((nb, .cells #[.int .i64 (-1), .int .i64 i, .int .i64 j] 51 (0, 0)) :: X)) →
      (∀ k, W.cell? ⟨nb, k, none⟩ = (#[.int .i64 (-1), .int .i64 i, .int .i64 j] : Array Value)[k]?) ∧ W.cell? ⟨b, i * 7 + 2, none⟩ = some (.slice (some ⟨b2, 0, none⟩) C.ls.length (C.ls.length + C.lr.k)) ∧
      W.cell? ⟨b2, j * 2, none⟩ = some (pP l.g.bp) ∧ (∀ k, W.cell? ⟨l.g.bp, k, none⟩ = (gpCells l.g)[k]?) ∧
      (∀ k, W.cell? ⟨F.fb, k, none⟩ = (#[.int .i64 F.lines, .slice (some ⟨b3, 0, none⟩) F.ns.length (F.ns.length + F.nr.k), rowV F.cr F.cs.length, rowV F.orr F.os.length] : Array Value)[k]?) ∧ W.cell? ⟨b3, j, none⟩ = some (nP x.bn) := by
    intro W X hW
    refine ⟨fun k => hW.cells (t := 51) (fr := (0, 0)) (List.mem_append_right _ List.mem_cons_self) k, ?_, ?_, gp_cells l.g hW (lane_mem hi (List.mem_of_getElem? hj)), ?_, ?_⟩
    · have e := (CpAt.of hW hb (fbR_cr F) hi).a2
      rw [e]; simp [rowV, rowA, hb2]
    · have e := hW.recCell (enc := lnC) (s := 2) (fun _ => rfl) hb2 (lanes_mem hi) hj 0 (by decide)
      simpa using e
    · intro k
      rw [(fb_cells F hW).1 k]; unfold fbCells
      rw [show rowV F.nr F.ns.length = .slice (some ⟨b3, 0, none⟩) F.ns.length (F.ns.length + F.nr.k) by simp [rowV, rowA, hb3]]
    · have e := hW.recCell (enc := nodeC) (s := 1) (fun _ => rfl) hb3 (fbR_nr F) hx 0 (by decide)
      simpa using e
  have HW1 := Lib.hid hw1
  have HCL := Lib.hid hcl
  have HL2 := Lib.hid hl2
  have H1 := Lib.hid h1
  have hnl := hF.nodes x (List.mem_of_getElem? hx)
  have hl98 := hF.l0
  have HNL := Lib.hid hnl
  have HGS := Lib.hid hgs
  have HR := Lib.hid hR
  have HI := Lib.hid hi
  have HJ := Lib.hid hj
  have HX := Lib.hid hx
  have HF := Lib.hid hF
  have HC := Lib.hid hC
  have HLN := Lib.hid hl
  have HB := Lib.hid hb
  have HB2 := Lib.hid hb2
  have HB3 := Lib.hid hb3
  have hiI : (i : Int) < (F.cs.length : Int) := by omega
  have hjI : (j : Int) < (C.ls.length : Int) := by omega
  have hjI0 : (0 : Int) ≤ j := by omega
  have hjI1 : ¬ ((C.ls.length : Int) ≤ j) := by omega
  have hxI : (j : Int) < (F.ns.length : Int) := by omega
  have hgl : 0 < l.g.gs.length := List.length_pos_iff.2 hgs
  have hgI : ((l.g.gs.length : Int) == 0) = false := by simp; omega
  have hjd0 : decide ((j : Int) < 0) = false := by simp
  have hjd1 : decide (C.ls.length ≤ j) = false := by simp; omega
  clear hnl hw1 hcl hl2 h1 hi hj hx hF hC hl hb hb2 hb3 h hgs hR
  subst hnb
  go_enter Tryz.func22, Tryz.ntmps22
  go_wp2_with fail
  rw [← HW1.out]
  (refine Calls.mono HCL.out ?_; intro e w' hh; rw [hh.1, hh.2]; clear hh w' e)
  obtain ⟨c1, c2, c3, c4, c5, c6⟩ := HL2.out _ _ H1.out
  go_wp2_with fail
  have qP : ∀ n, Calls Tryz.prog 36 #[pP l.g.bp] (w1.drewN n) fun e w'' => e = .returned (.int .i64 (l.g.gs.length : Nat)) ∧ ∃ m, w'' = w1.drewN m := fun n =>
    (Pending_calls l.g (fun k => by rw [← c4 k]; rfl)).mono fun e w' hh => ⟨hh.1, n, hh.2⟩
  have QP := Lib.hid qP
  clear qP
  go_quiet (first | (go_at_call 36; exact QP.out _))
  clear QP
  obtain ⟨w2, hw2⟩ : ∃ W, W = w1.drewN nq := ⟨_, rfl⟩
  have h2 : St base w0 w2 (fbH F ++ ((w.heap.size, .cells #[.int .i64 (-1), .int .i64 i, .int .i64 j] 51 (0, 0)) :: L)) := by rw [hw2]; exact H1.out.drewN nq
  rw [← hw2]
  clear c1 c2 c3 c4 c5 c6 hw2 H1
  obtain ⟨c1, c2, c3, c4, c5, c6⟩ := HL2.out _ _ h2
  have H2 := Lib.hid h2
  clear h2
  go_wp2_with fail
  go_quiet (fail)
  obtain ⟨w3, hw3⟩ : ∃ W, W = (w2.drewN nq).drew := ⟨_, rfl⟩
  have h3 : St base w0 w3 (fbH F ++ ((w.heap.size, .cells #[.int .i64 (-1), .int .i64 i, .int .i64 j] 51 (0, 0)) :: L)) := by rw [hw3]; exact (H2.out.drewN nq).drew
  obtain ⟨KK, hKK⟩ : ∃ K : List Blk, K = (w.heap.size, .cells #[.int .i64 (-1), .int .i64 i, .int .i64 j] 51 (0, 0)) :: (F.fb, .cells (fbCells F) 76 (0, 0)) :: (rowH F.nr 45 (F.ns.flatMap nodeC) ++ rowH C.lr 87 (C.ls.flatMap lnC)) := ⟨_, rfl⟩
  have hg3 : ∀ W, Holds KK W → (∀ k, W.cell? ⟨w.heap.size, k, none⟩ = (#[.int .i64 (-1), .int .i64 i, .int .i64 j] : Array Value)[k]?) ∧ W.cell? ⟨b2, j * 2, none⟩ = some (pP l.g.bp) ∧
      (∀ k, W.cell? ⟨F.fb, k, none⟩ = (#[.int .i64 F.lines, .slice (some ⟨b3, 0, none⟩) F.ns.length (F.ns.length + F.nr.k), rowV F.cr F.cs.length, rowV F.orr F.os.length] : Array Value)[k]?) ∧ W.cell? ⟨b3, j, none⟩ = some (nP x.bn) := by
    intro W hW
    have hr1 : (b2, Obj.cells (C.ls.flatMap lnC ++ C.lr.sp).toArray 87 (0, 0)) ∈ KK := by rw [hKK]; simp [rowH, HB2.out]
    have hr2 : (b3, Obj.cells (F.ns.flatMap nodeC ++ F.nr.sp).toArray 45 (0, 0)) ∈ KK := by rw [hKK]; simp [rowH, HB3.out]
    refine ⟨hW.cells (t := 51) (fr := (0, 0)) (by rw [hKK]; exact List.mem_cons_self), ?_, ?_, ?_⟩
    · have e := (hW.st hr1).recCell (enc := lnC) (s := 2) (xs := C.ls) (r := C.lr) (t := 87) (fun _ => rfl) HB2.out (by simp [rowH, HB2.out]) HJ.out 0 (by decide)
      simpa using e
    · intro k
      rw [hW.cells (t := 76) (fr := (0, 0)) (cs := fbCells F) (by rw [hKK]; exact List.mem_cons_of_mem _ List.mem_cons_self) k]; unfold fbCells
      rw [show rowV F.nr F.ns.length = .slice (some ⟨b3, 0, none⟩) F.ns.length (F.ns.length + F.nr.k) by simp [rowV, rowA, HB3.out]]
    · have e := (hW.st hr2).recCell (enc := nodeC) (s := 1) (xs := F.ns) (r := F.nr) (t := 45) (fun _ => rfl) HB3.out (by simp [rowH, HB3.out]) HX.out 0 (by decide)
      simpa using e
  have hs3 : ∀ W M, St base w0 W M → (∀ p, p ∈ KK → p ∈ M) → Holds KK W := fun W M h hm => Holds.of h hm
  have hk3 : Holds KK w3 := hs3 w3 _ h3 (fun p hp => by
    rw [hKK] at hp
    simp only [List.mem_cons, List.mem_append] at hp
    rcases hp with rfl | rfl | hp | hp
    · simp
    · simp
    · exact fbR_nr F p hp
    · exact lanes_mem HI.out p hp)
  have HG := Lib.hid hg3
  have HS := Lib.hid hs3
  have H3 := Lib.hid h3
  have HW3 := Lib.hid hw3
  have HKK := Lib.hid hKK
  clear c1 c2 c3 c4 c5 c6 hw3 H2 hg3 hs3 h3 hKK
  go_wp2_with fail
  go_cut [7, 8] from 62 to 77 (fun s7 s8 wx => Mid base w0 F C i j l x ((w.heap.size, .cells #[.int .i64 (-1), .int .i64 i, .int .i64 j] 51 (0, 0)) :: L) s7 s8 wx)
  case first =>
    refine wp_region_T (S := Holds KK) [] (by kernel_rfl) (by rw [← HW3.out]; exact hk3) ?_
    rw [← HW3.out]
    refine wpAnyT_takeL (i := 0) (v := ?_) rfl (by kernel_rfl) (by kernel_rfl) (by kernel_rfl) (by kernel_rfl) (fun _ _ _ h => h) (Or.inl ⟨by rfl, ?_⟩) hk3 ?_
    rotate_left
    · intro wS hSw; have hGot := HG.out _ hSw; clear hSw; go_split_ands; go_simp; try with_reducible rfl
    try simp only [Act.put, List.setIfInBounds_toArray, List.set_cons_zero, List.set_cons_succ]
    refine wpAnyT_takeL (i := 1) (v := ?_) rfl (by kernel_rfl) (by kernel_rfl) (by kernel_rfl) (by kernel_rfl) (fun _ _ _ h => h) (Or.inl ⟨by rfl, ?_⟩) hk3 ?_
    rotate_left
    · intro wS hSw; have hGot := HG.out _ hSw; clear hSw; go_split_ands; go_simp; try with_reducible rfl
    try simp only [Act.put, List.setIfInBounds_toArray, List.set_cons_zero, List.set_cons_succ]
    refine wpAnyT_takeL (i := 2) (v := ?_) rfl (by kernel_rfl) (by kernel_rfl) (by kernel_rfl) (by kernel_rfl) (fun _ _ _ h => h) (Or.inl ⟨by rfl, ?_⟩) hk3 ?_
    rotate_left
    · intro wS hSw; have hGot := HG.out _ hSw; clear hSw; go_split_ands; go_simp; try with_reducible rfl
    try simp only [Act.put, List.setIfInBounds_toArray, List.set_cons_zero, List.set_cons_succ]
    refine wpAnyT_takeL (i := 3) (v := ?_) rfl (by kernel_rfl) (by kernel_rfl) (by kernel_rfl) (by kernel_rfl) (fun _ _ _ h => h) (Or.inl ⟨by rfl, ?_⟩) hk3 ?_
    rotate_left
    · intro wS hSw; have hGot := HG.out _ hSw; clear hSw; go_split_ands; go_simp; try with_reducible rfl
    try simp only [Act.put, List.setIfInBounds_toArray, List.set_cons_zero, List.set_cons_succ]
    refine wpAnyT_takeL (i := 4) (v := ?_) rfl (by kernel_rfl) (by kernel_rfl) (by kernel_rfl) (by kernel_rfl) (fun _ _ _ h => h) (Or.inl ⟨by rfl, ?_⟩) hk3 ?_
    rotate_left
    · intro wS hSw; have hGot := HG.out _ hSw; clear hSw; go_split_ands; go_simp; try with_reducible rfl
    try simp only [Act.put, List.setIfInBounds_toArray, List.set_cons_zero, List.set_cons_succ]
    refine wpAnyT_takeL (i := 5) (v := ?_) rfl (by kernel_rfl) (by kernel_rfl) (by kernel_rfl) (by kernel_rfl) (fun _ _ _ h => h) (Or.inl ⟨by rfl, ?_⟩) hk3 ?_
    rotate_left
    · intro wS hSw; have hGot := HG.out _ hSw; clear hSw; go_split_ands; go_simp; try with_reducible rfl
    try simp only [Act.put, List.setIfInBounds_toArray, List.set_cons_zero, List.set_cons_succ]
    refine wpAnyT_takeL (i := 6) (v := ?_) rfl (by kernel_rfl) (by kernel_rfl) (by kernel_rfl) (by kernel_rfl) (fun _ _ _ h => h) (Or.inl ⟨by rfl, ?_⟩) hk3 ?_
    rotate_left
    · intro wS hSw; have hGot := HG.out _ hSw; clear hSw; go_split_ands; go_simp; try with_reducible rfl
    try simp only [Act.put, List.setIfInBounds_toArray, List.set_cons_zero, List.set_cons_succ]
    refine wpAnyT_takeL (i := 7) (v := ?_) rfl (by kernel_rfl) (by kernel_rfl) (by kernel_rfl) (by kernel_rfl) (fun _ _ _ h => h) (Or.inl ⟨by rfl, ?_⟩) hk3 ?_
    rotate_left
    · intro wS hSw; have hGot := HG.out _ hSw; clear hSw; go_split_ands; go_simp; try with_reducible rfl
    try simp only [Act.put, List.setIfInBounds_toArray, List.set_cons_zero, List.set_cons_succ]
    refine wpAnyT_takeL (i := 8) (v := ?_) rfl (by kernel_rfl) (by kernel_rfl) (by kernel_rfl) (by kernel_rfl) (fun _ _ _ h => h) (Or.inl ⟨by rfl, ?_⟩) hk3 ?_
    rotate_left
    · intro wS hSw; have hGot := HG.out _ hSw; clear hSw; go_split_ands; go_simp; try with_reducible rfl
    try simp only [Act.put, List.setIfInBounds_toArray, List.set_cons_zero, List.set_cons_succ]
    refine wpAnyT_takeL (i := 9) (v := ?_) rfl (by kernel_rfl) (by kernel_rfl) (by kernel_rfl) (by kernel_rfl) (fun _ _ _ h => h) (Or.inl ⟨by rfl, ?_⟩) hk3 ?_
    rotate_left
    · intro wS hSw; have hGot := HG.out _ hSw; clear hSw; go_split_ands; go_simp; try with_reducible rfl
    try simp only [Act.put, List.setIfInBounds_toArray, List.set_cons_zero, List.set_cons_succ]
    refine wpAnyT_takeL (i := 10) (v := ?_) rfl (by kernel_rfl) (by kernel_rfl) (by kernel_rfl) (by kernel_rfl) (fun _ _ _ h => h) (Or.inl ⟨by rfl, ?_⟩) hk3 ?_
    rotate_left
    · intro wS hSw; have hGot := HG.out _ hSw; clear hSw; go_split_ands; go_simp; try with_reducible rfl
    try simp only [Act.put, List.setIfInBounds_toArray, List.set_cons_zero, List.set_cons_succ]
    refine wpAnyT_takeL (i := 11) (v := ?_) rfl (by kernel_rfl) (by kernel_rfl) (by kernel_rfl) (by kernel_rfl) (fun _ _ _ h => h) (Or.inl ⟨by rfl, ?_⟩) hk3 ?_
    rotate_left
    · intro wS hSw; have hGot := HG.out _ hSw; clear hSw; go_split_ands; go_simp; try with_reducible rfl
    try simp only [Act.put, List.setIfInBounds_toArray, List.set_cons_zero, List.set_cons_succ]
    refine wpAnyT_twoL (i := 12) (j := 16) (by kernel_rfl) rfl rfl (fun K hK => ?_) (fun K hK => ?_)
    all_goals rw [if_pos (by rfl)]
    · -- the call first
      have h4 := fb_open2 HI.out HJ.out HX.out H3.out
      go_wp2_with (refine Step_pair l.g F.lines F.ns.length HLN.out.p HGS.out x.bn x.bw x.N HNL.out (by omega) h4 _ ?_)
      intro g' N' od w5 hbp hpr hps hnw hdv hgl2 h5
      have hk5 : Holds KK w5 := HS.out w5 _ h5 (by rw [HKK.out]; exact mem4 (by simp) (by simp) (fun p hp => by simp [hp]) (fun p hp => by simp [hp]))
      have h6 := h5.allocAt w5.heap.size rfl (.cells (odC od).toArray 94)
      have hmid : ∀ W, W = w5.alloc (.cells (odC od).toArray 94) → Mid base w0 F C i j l x ((w.heap.size, .cells #[.int .i64 (-1), .int .i64 i, .int .i64 j] 51 (0, 0)) :: L) (.pointer (some ⟨w5.heap.size, 0, none⟩)) (.bool od.isSome) W := fun W hW =>
        mid_of hbp hpr hps hnw (fun d hd => hdv d.1 d.2 hd) hgl2 (by rw [hW]; simp only [gpH, ndH, fbY, List.cons_append, List.append_assoc]; exact h6)
      have HM := Lib.hid hmid
      have H5 := Lib.hid h5
      clear h4 h5 h6 hmid hbp hpr hps hnw hdv hgl2
      refine (hK).out _ _ (fun _ => hk5) (fun _ => ?_)
      clear hK
      refine wpAnyT_takeL (i := 13) (v := ?_) rfl (by kernel_rfl) (by kernel_rfl) (by kernel_rfl) (by kernel_rfl) (fun _ _ _ h => h) (Or.inl ⟨by rfl, ?_⟩) hk5 ?_
      rotate_left
      · intro wS hSw; have hGot := HG.out _ hSw; clear hSw; go_split_ands; go_simp; try with_reducible rfl
      try simp only [Act.put, List.setIfInBounds_toArray, List.set_cons_zero, List.set_cons_succ]
      refine wpAnyT_takeL (i := 14) (v := ?_) rfl (by kernel_rfl) (by kernel_rfl) (by kernel_rfl) (by kernel_rfl) (fun _ _ _ h => h) (Or.inl ⟨by rfl, ?_⟩) hk5 ?_
      rotate_left
      · intro wS hSw; have hGot := HG.out _ hSw; clear hSw; go_split_ands; go_simp; try with_reducible rfl
      try simp only [Act.put, List.setIfInBounds_toArray, List.set_cons_zero, List.set_cons_succ]
      refine wpAnyT_takeL (i := 15) (v := ?_) rfl (by kernel_rfl) (by kernel_rfl) (by kernel_rfl) (by kernel_rfl) (fun _ _ _ h => h) (Or.inl ⟨by rfl, ?_⟩) hk5 ?_
      rotate_left
      · intro wS hSw; have hGot := HG.out _ hSw; clear hSw; go_split_ands; go_simp; try with_reducible rfl
      try simp only [Act.put, List.setIfInBounds_toArray, List.set_cons_zero, List.set_cons_succ]
      refine wpAnyT_oneL (i := 16) (by kernel_rfl) rfl (fun K hK => ?_)
      rw [if_pos (by rfl)]
      go_wp2_with fail
      have hk6 : Holds KK (w5.alloc (.cells #[.int .i64 0, .slice none 0 0] 94)) := HS.out _ _ (H5.out.junk _) (by rw [HKK.out]; exact mem4 (by simp) (by simp) (fun p hp => by simp [hp]) (fun p hp => by simp [hp]))
      refine (hK).out _ _ (fun _ => hk6) (fun _ => ?_)
      clear hK
      refine wpAnyT_oneL (i := 17) (by kernel_rfl) rfl (fun K hK => ?_)
      rw [if_pos (by rfl)]
      have hk7 : Holds KK (w5.alloc (.cells (odC od).toArray 94)) := HS.out _ _ (H5.out.junk _) (by rw [HKK.out]; exact mem4 (by simp) (by simp) (fun p hp => by simp [hp]) (fun p hp => by simp [hp]))
      rcases od with _ | d
      · go_wp2_with fail
        refine (hK).out _ _ (fun _ => hk6) (fun _ => ?_)
        clear hK
        refine wpAnyT_takeL (i := 18) (v := ?_) rfl (by kernel_rfl) (by kernel_rfl) (by kernel_rfl) (by kernel_rfl) (fun _ _ _ h => h) (Or.inl ⟨by rfl, ?_⟩) hk6 ?_
        rotate_left
        · intro wS hSw; have hGot := HG.out _ hSw; clear hSw; go_split_ands; go_simp; try with_reducible rfl
        try simp only [Act.put, List.setIfInBounds_toArray, List.set_cons_zero, List.set_cons_succ]
        refine wpAnyT_done (by kernel_rfl) ?_ _
        go_wp2_with fail
        go_meet
        exact HM.out _ rfl
      · go_wp2_with fail
        refine (hK).out _ _ (fun _ => hk7) (fun _ => ?_)
        clear hK
        refine wpAnyT_takeL (i := 18) (v := ?_) rfl (by kernel_rfl) (by kernel_rfl) (by kernel_rfl) (by kernel_rfl) (fun _ _ _ h => h) (Or.inl ⟨by rfl, ?_⟩) hk7 ?_
        rotate_left
        · intro wS hSw; have hGot := HG.out _ hSw; clear hSw; go_split_ands; go_simp; try with_reducible rfl
        try simp only [Act.put, List.setIfInBounds_toArray, List.set_cons_zero, List.set_cons_succ]
        refine wpAnyT_done (by kernel_rfl) ?_ _
        go_wp2_with fail
        go_meet
        exact HM.out _ rfl
    · -- the box first
      go_wp2_with fail
      obtain ⟨nb, hnb⟩ : ∃ n, n = w3.heap.size := ⟨_, rfl⟩
      obtain ⟨w4, hw4⟩ : ∃ W, W = w3.alloc (.cells #[.int .i64 0, .slice none 0 0] 94) := ⟨_, rfl⟩
      have h4 := fb_open2 HI.out HJ.out HX.out H3.out
      have h4b := h4.allocAt nb hnb (.cells #[.int .i64 0, .slice none 0 0] 94)
      rw [← hw4] at h4b
      have hk4 : Holds KK w4 := HS.out _ _ h4b.tail (by rw [HKK.out]; exact mem4 (by simp) (by simp) (fun p hp => by simp [hp]) (fun p hp => by simp [hp]))
      rw [← hnb, ← hw4]
      have h5a := box_back h4b
      have H5A := Lib.hid h5a
      clear h4 h4b hw4 h5a
      refine (hK).out _ _ (fun _ => hk4) (fun _ => ?_)
      clear hK
      refine wpAnyT_oneL (i := 12) (by kernel_rfl) rfl (fun K hK => ?_)
      rw [if_pos (by rfl)]
      go_wp2_with (refine Step_pair l.g F.lines F.ns.length HLN.out.p HGS.out x.bn x.bw x.N HNL.out (by omega) H5A.out _ ?_)
      intro g' N' od w5 hbp hpr hps hnw hdv hgl2 h5
      have h6 := box_front (l := l) (C := C) (F := F) (i := i) (j := j) (x := x) (g' := g') (N' := N') (od := od) (M := ((w.heap.size, .cells #[.int .i64 (-1), .int .i64 i, .int .i64 j] 51 (0, 0)) :: L)) (by simp only [gpH, ndH, fbY, List.cons_append, List.append_assoc]; exact h5)
      have hk5 : Holds KK w5 := HS.out w5 _ h6.tail (by rw [HKK.out]; exact mem4 (by simp) (by simp) (fun p hp => by simp [hp]) (fun p hp => by simp [hp]))
      have c5 := fun k => h6.cells (t := 94) (fr := (0, 0)) List.mem_cons_self k
      have f5 := fun k => h6.frozen (t := 94) List.mem_cons_self k
      clear H5A h5
      rcases od with _ | d
      · have h7 := (h6.set 0 (.int .i64 0)).set 1 (.slice none 0 0)
        have hk6 := HS.out _ _ h7.tail (by rw [HKK.out]; exact mem4 (by simp) (by simp) (fun p hp => by simp [hp]) (fun p hp => by simp [hp]))
        have hmid := mid_of hbp hpr hps hnw (fun d hd => hdv d.1 d.2 hd) hgl2 h7
        have HM := Lib.hid hmid
        clear hmid h6 h7 hbp hpr hps hnw hdv hgl2
        refine (hK).out _ _ (fun _ => hk5) (fun _ => ?_)
        clear hK
        refine wpAnyT_takeL (i := 13) (v := ?_) rfl (by kernel_rfl) (by kernel_rfl) (by kernel_rfl) (by kernel_rfl) (fun _ _ _ h => h) (Or.inl ⟨by rfl, ?_⟩) hk5 ?_
        rotate_left
        · intro wS hSw; have hGot := HG.out _ hSw; clear hSw; go_split_ands; go_simp; try with_reducible rfl
        try simp only [Act.put, List.setIfInBounds_toArray, List.set_cons_zero, List.set_cons_succ]
        refine wpAnyT_takeL (i := 14) (v := ?_) rfl (by kernel_rfl) (by kernel_rfl) (by kernel_rfl) (by kernel_rfl) (fun _ _ _ h => h) (Or.inl ⟨by rfl, ?_⟩) hk5 ?_
        rotate_left
        · intro wS hSw; have hGot := HG.out _ hSw; clear hSw; go_split_ands; go_simp; try with_reducible rfl
        try simp only [Act.put, List.setIfInBounds_toArray, List.set_cons_zero, List.set_cons_succ]
        refine wpAnyT_takeL (i := 15) (v := ?_) rfl (by kernel_rfl) (by kernel_rfl) (by kernel_rfl) (by kernel_rfl) (fun _ _ _ h => h) (Or.inl ⟨by rfl, ?_⟩) hk5 ?_
        rotate_left
        · intro wS hSw; have hGot := HG.out _ hSw; clear hSw; go_split_ands; go_simp; try with_reducible rfl
        try simp only [Act.put, List.setIfInBounds_toArray, List.set_cons_zero, List.set_cons_succ]
        refine wpAnyT_oneL (i := 17) (by kernel_rfl) rfl (fun K hK => ?_)
        rw [if_pos (by rfl)]
        go_wp2_with fail
        subst hnb
        refine (hK).out _ _ (fun _ => hk6) (fun _ => ?_)
        clear hK
        refine wpAnyT_takeL (i := 18) (v := ?_) rfl (by kernel_rfl) (by kernel_rfl) (by kernel_rfl) (by kernel_rfl) (fun _ _ _ h => h) (Or.inl ⟨by rfl, ?_⟩) hk6 ?_
        rotate_left
        · intro wS hSw; have hGot := HG.out _ hSw; clear hSw; go_split_ands; go_simp; try with_reducible rfl
        try simp only [Act.put, List.setIfInBounds_toArray, List.set_cons_zero, List.set_cons_succ]
        refine wpAnyT_done (by kernel_rfl) ?_ _
        go_wp2_with fail
        go_meet
        exact HM.out
      · have h7 := (h6.set 0 (.int .i64 d.1.code)).set 1 (rowV d.2 d.1.words.length)
        have hk6 := HS.out _ _ h7.tail (by rw [HKK.out]; exact mem4 (by simp) (by simp) (fun p hp => by simp [hp]) (fun p hp => by simp [hp]))
        have hmid := mid_of hbp hpr hps hnw (fun d hd => hdv d.1 d.2 hd) hgl2 h7
        have HM := Lib.hid hmid
        clear hmid h6 h7 hbp hpr hps hnw hdv hgl2
        refine (hK).out _ _ (fun _ => hk5) (fun _ => ?_)
        clear hK
        refine wpAnyT_takeL (i := 13) (v := ?_) rfl (by kernel_rfl) (by kernel_rfl) (by kernel_rfl) (by kernel_rfl) (fun _ _ _ h => h) (Or.inl ⟨by rfl, ?_⟩) hk5 ?_
        rotate_left
        · intro wS hSw; have hGot := HG.out _ hSw; clear hSw; go_split_ands; go_simp; try with_reducible rfl
        try simp only [Act.put, List.setIfInBounds_toArray, List.set_cons_zero, List.set_cons_succ]
        refine wpAnyT_takeL (i := 14) (v := ?_) rfl (by kernel_rfl) (by kernel_rfl) (by kernel_rfl) (by kernel_rfl) (fun _ _ _ h => h) (Or.inl ⟨by rfl, ?_⟩) hk5 ?_
        rotate_left
        · intro wS hSw; have hGot := HG.out _ hSw; clear hSw; go_split_ands; go_simp; try with_reducible rfl
        try simp only [Act.put, List.setIfInBounds_toArray, List.set_cons_zero, List.set_cons_succ]
        refine wpAnyT_takeL (i := 15) (v := ?_) rfl (by kernel_rfl) (by kernel_rfl) (by kernel_rfl) (by kernel_rfl) (fun _ _ _ h => h) (Or.inl ⟨by rfl, ?_⟩) hk5 ?_
        rotate_left
        · intro wS hSw; have hGot := HG.out _ hSw; clear hSw; go_split_ands; go_simp; try with_reducible rfl
        try simp only [Act.put, List.setIfInBounds_toArray, List.set_cons_zero, List.set_cons_succ]
        refine wpAnyT_oneL (i := 17) (by kernel_rfl) rfl (fun K hK => ?_)
        rw [if_pos (by rfl)]
        go_wp2_with fail
        subst hnb
        refine (hK).out _ _ (fun _ => hk6) (fun _ => ?_)
        clear hK
        refine wpAnyT_takeL (i := 18) (v := ?_) rfl (by kernel_rfl) (by kernel_rfl) (by kernel_rfl) (by kernel_rfl) (fun _ _ _ h => h) (Or.inl ⟨by rfl, ?_⟩) hk6 ?_
        rotate_left
        · intro wS hSw; have hGot := HG.out _ hSw; clear hSw; go_split_ands; go_simp; try with_reducible rfl
        try simp only [Act.put, List.setIfInBounds_toArray, List.set_cons_zero, List.set_cons_succ]
        refine wpAnyT_done (by kernel_rfl) ?_ _
        go_wp2_with fail
        go_meet
        exact HM.out
  case rest =>
    obtain ⟨nb, g', N', od, rfl, rfl, hm⟩ := hcut
    have HM := Lib.hid hm
    clear hm
    rcases od with _ | d
    · obtain ⟨q1, q2, q3⟩ := none_ends HF.out HI.out HJ.out HX.out HM.out
      have H9 := Lib.hid (HR.out _ wc q1 rfl q2 q3)
      clear q1 q2 q3 HM
      go_wp2_with fail
      exact H9.out
    · obtain ⟨p, ps, hps2⟩ : ∃ p ps, l.ps = p :: ps := by
        cases hq : l.ps with
        | nil => have := HLN.out.len; rw [hq] at this; simp only [List.length_nil] at this; omega
        | cons p ps => exact ⟨p, ps, rfl⟩
      have hpr := HLN.out.lt p (by rw [hps2]; exact List.mem_cons_self)
      obtain ⟨pn, rfl⟩ := Int.eq_ofNat_of_zero_le hpr.1
      have hpn : pn < C.ds.length := by omega
      obtain ⟨b4, hb4⟩ := HC.out.br.pos (by omega)
      obtain ⟨b5, hb5⟩ := HLN.out.pl.pos (by rw [hps2]; simp)
      have c := some_cells HI.out HJ.out HB.out HB2.out hb4 hb5 hps2 HM.out
      obtain ⟨c1, c2, c3, c4, c5, c6⟩ := c
      obtain ⟨u1, u2, c7, c8⟩ := old_cells hb4 hpn HM.out
      obtain ⟨⟨n1, n2⟩, n3, n4⟩ := mid_ne HB.out HB2.out hb4 HM.out
      have h6 := some_stored hb4 hpn HM.out
      obtain ⟨W6, hW6⟩ : ∃ W, W = ((wc.setCell ⟨b4, pn * 2, none⟩ (.int .i64 d.1.code)).setCell ⟨b4, pn * 2 + 1, none⟩ (.slice (rowA d.2) d.1.words.length (d.1.words.length + d.2.k))).drew := ⟨_, rfl⟩
      rw [show (((wc.drew.setCell ⟨b4, pn * 2, none⟩ (.int .i64 d.1.code)).setCell ⟨b4, pn * 2 + 1, none⟩ (rowV d.2 d.1.words.length))) = W6 from by rw [hW6]; rfl] at h6
      have hsc := (stored_cells HJ.out HB2.out hb5 hps2 h6).2
      have hpsl : ps.length ≤ 1000 := by
        have q1 := HLN.out.len
        have q2 := HLN.out.p.len
        rw [hps2, List.length_cons] at q1
        omega
      have hC6 := fun (ad : Addr) (c : Nat) (hc : ps.length ≤ c) (hx : ∀ k u, (ints ps)[k]? = some u → W6.cell? (ad.add k) = some u) (R : Ending → World → Prop) => CloneInt_calls (w := W6) ad ps.length c (ints ps) (by simp) hc (by omega) (ints_one _) hx h6 R
      have hfin := fun (r : Rw) (w7 : World) (hr : RowOk r 1 ps.length (ints ps)) h7 => some_ends (w7 := w7) HF.out HI.out HJ.out HX.out HB.out HB2.out hps2 hpn HM.out hr h7
      have hcl := fun (r : Rw) (w7 : World) h7 => cloned_cells (base := base) (w0 := w0) (X := rowH r 3 (ints ps)) (F := F) (i := i) (j := j) (C := C) (l := l) (x := x) (M := ((w.heap.size, .cells #[.int .i64 (-1), .int .i64 i, .int .i64 j] 51 (0, 0)) :: L)) (g' := g') (N' := N') (d := d) (pn := pn) (W := w7) HI.out HJ.out HB.out HB2.out h7
      have HW6 := Lib.hid hW6
      have HSC := Lib.hid hsc
      have HC6 := Lib.hid hC6
      have HFIN := Lib.hid hfin
      have HCL2 := Lib.hid hcl
      have HPS := Lib.hid hps2
      have hplk : ps.length + 1 + l.pl.k ≤ 9223372036854775807 := by have := HLN.out.pl.le; rw [hps2] at this; simp [maxLen] at this; omega
      have HB4 := Lib.hid hb4
      have HB5 := Lib.hid hb5
      clear hps2 hb4 hb5 hW6 hsc hC6 hfin hcl h6 HM hpr
      by_cases hcap : ps.length + 1 + l.pl.k = 1
      · go_wp2_with fail
        refine wp_still_tail 12 (by kernel_rfl) (by kernel_rfl) ?_
        simp only [List.take_succ_cons, List.take_zero, List.drop_succ_cons, List.drop_zero]
        repeat still_step
        refine wpStill_nil ?_
        go_wp2_with fail
        rw [← HW6.out]
        refine HC6.out _ _ (by omega) (by intro k u hk; rw [List.eq_nil_of_length_eq_zero (show ps.length = 0 by omega)] at hk; simp at hk) _ ?_
        intro r w7 hr h7
        obtain ⟨e1, e2, e3, e4⟩ := HCL2.out r w7 h7
        obtain ⟨-, -, -, f4, f5, f6, f7, f8⟩ := HFIN.out r w7 hr h7
        have H9 := Lib.hid (HR.out _ _ f6 rfl f7 f8)
        clear h7 hr f6 f7 f8 HFIN HCL2 HC6 HSC HR
        go_wp2_with fail
        exact H9.out
      · go_wp2_with fail
        refine wp_still_tail 12 (by kernel_rfl) (by kernel_rfl) ?_
        simp only [List.take_succ_cons, List.take_zero, List.drop_succ_cons, List.drop_zero]
        repeat still_step
        refine wpStill_nil ?_
        go_wp2_with fail
        rw [← HW6.out]
        refine HC6.out _ _ (by omega) (by intro k u hk; have := HSC.out k u hk; unfold Addr.add; split <;> simp_all) _ ?_
        intro r w7 hr h7
        obtain ⟨e1, e2, e3, e4⟩ := HCL2.out r w7 h7
        obtain ⟨-, -, -, f4, f5, f6, f7, f8⟩ := HFIN.out r w7 hr h7
        have H9 := Lib.hid (HR.out _ _ f6 rfl f7 f8)
        clear h7 hr f6 f7 f8 HFIN HCL2 HC6 HSC HR
        go_wp2_with fail
        exact H9.out
end Go.Proofs.YtaojipegpjolcaaGreat
