/- slices.Delete of one pointer; the orphans of a fabric: stepOrphan, DropOrphan. One lane of a fabric taken out and put back; batches posted. fabric.Post of a batch that is in order. The orphans of a fabric: DropOrphan, stepOrphan. One piece of an orphan: stepOrphan; Fabric.Step of an orphan. fabric.Die. bodegarun: Step, Word. -/
import Derived.Test.YtaojipegpjolcaaGreatGD
import Derived.Test.YtaojipegpjolcaaGreatGE
import Derived.Deep.RegionLaw
import Derived.Lib.SliceRun
import Derived.Lib.SlicesDelete
import Derived.Sort.Row
set_option linter.unusedVariables false
set_option linter.unusedSimpArgs false
namespace Go.Proofs.YtaojipegpjolcaaGreat
open Go.RowKit Go.Lib Go.Proofs.BodegaHeap
variable {base : Nat} {w0 w : World} {L : List Blk}

abbrev encP : Option Addr → Value := Value.pointer
set_option maxHeartbeats 4000000 in
set_option maxRecDepth 1000000 in
theorem Delete_arr (blk cap i : Nat) (d : Array (Option Addr)) (w : World) (hH : Go.Sort.Holds encP w blk 0 d) (hcap : d.size ≤ cap) (hm : cap ≤ 9223372036854775807) (hj : i < d.size) :
    Calls Tryz.prog 76 #[.slice (some ⟨blk, 0, none⟩) d.size cap, .int .i64 i, .int .i64 ((i : Int) + 1)] w fun e w' => e = .returned (.slice (some ⟨blk, 0, none⟩) (d.size - 1) cap) ∧ ∃ q, w' = Go.Sort.putRow encP (Go.Sort.ahead w q) blk 0 (d.toList.take i ++ d.toList.drop (i + 1) ++ [none]).toArray := by
  obtain ⟨ut, ⟨i0, z, hi0, hz0, hz1, hz2, hz3⟩, _, _⟩ := elem_or
  have v3 : ∀ w, (zeroValue 85).run Tryz.prog w = .ok (.pointer none) w := by
    intro w
    have h : (Tryz.prog.info? 85).map (fun i => (i.zero, i.size, i.bytes)) = some (some (.pointer none), 1, 8) := by kernel_rfl
    obtain ⟨i, hi, hz0, hz1, hz2⟩ := info_parts h
    simp [zeroValue, typeInfo, hi, hz0]
  obtain ⟨j, hj0⟩ : ∃ j, j = i + 1 := ⟨_, rfl⟩
  have hjI : (i : Int) + 1 = (j : Int) := by omega
  rw [hjI, ← hj0]
  have hlt : i < j := by omega
  have hj' : j ≤ d.size := by omega
  obtain ⟨news, hnews⟩ : ∃ news, news = (d.toList.drop j).map encP := ⟨_, rfl⟩
  have hlen : news.length = d.size - j := by rw [hnews]; simp
  have hget : ∀ t, t < d.size - j → news[t]? = some (encP d[j + t]!) := by
    intro t ht
    rw [hnews, List.getElem?_map, List.getElem?_drop, Array.getElem?_toList, getElem!_pos d (j + t) (by omega), Array.getElem?_eq_getElem (by omega)]
    rfl
  obtain ⟨A, hA, hsrc⟩ : ∃ A : Addr, (if cap = j then some (⟨blk, 0, none⟩ : Addr) else some ⟨blk, j, none⟩) = some A ∧ Hid (∀ t u, news[t]? = some u → w.drew.cell? (A.add t) = some u) := by
    by_cases h : cap = j
    · refine ⟨⟨blk, 0, none⟩, by simp [h], fun t u hu => ?_⟩
      have h0 : news.length = 0 := by rw [hlen]; omega
      rw [List.length_eq_zero_iff.1 h0] at hu
      simp at hu
    · refine ⟨⟨blk, j, none⟩, by simp [h], fun t u hu => ?_⟩
      have ht : t < d.size - j := by
        have := (List.getElem?_eq_some_iff.1 hu).1
        rwa [hlen] at this
      rw [hget t ht] at hu
      rw [Addr.add_lit, show j + t = 0 + (j + t) by omega]
      exact (hH (j + t) (by omega)).1.trans hu
  have s1 : Hid (news.length = (d.size - j) * 1) := by rw [Nat.mul_one]; exact hlen
  have s2 : Hid (∀ u ∈ news, u.oneCell' = true) := by
    intro u hu
    rw [hnews] at hu
    obtain ⟨x, _, rfl⟩ := List.mem_map.1 hu
    rfl
  have s3 : Hid (∀ t, t < news.length → (w.drew.cell? ⟨blk, 0 + i * 1 + t, none⟩).isSome = true ∧ w.drew.frozen? ⟨blk, 0 + i * 1 + t, none⟩ = false) := by
    intro t ht
    rw [hlen] at ht
    rw [Nat.mul_one, Nat.add_assoc]
    exact ⟨by show (w.cell? _).isSome = true; rw [(hH (i + t) (by omega)).1]; rfl, (hH (i + t) (by omega)).2⟩
  obtain ⟨W1, hW1⟩ : ∃ W1, W1 = w.drew.setCells blk (0 + i * 1) news := ⟨_, rfl⟩
  have hW1' : W1 = Go.Sort.putRow encP (Go.Sort.ahead w 1) blk 0 (lay d i (d.toList.drop j)) := by
    rw [hW1, hnews, Nat.mul_one, ← putRow_setCells encP (Go.Sort.ahead w 1) blk 0 _ d i (by simp; omega), Go.Sort.putRow_self encP (Go.Sort.ahead w 1) blk 0 d (Go.Sort.holds_ahead encP w 1 blk 0 d hH)]
    rfl
  have hH1 : Go.Sort.Holds encP W1 blk 0 (lay d i (d.toList.drop j)) := by rw [hW1']; exact Go.Sort.holds_putRow encP _ blk 0 d _ (Go.Sort.holds_ahead encP w 1 blk 0 d hH) (lay_size _ _ _)
  have hcl : ∀ ty, (Builtin.clear_ #[74] ty #[.slice (some ⟨blk, 0 + (i + (d.size - j)), none⟩) (d.size - (i + (d.size - j))) (cap - (i + (d.size - j)))]).run Tryz.prog W1 = .ok (.tuple #[]) (W1.setCells blk (0 + (i + (d.size - j))) (List.replicate (d.size - (i + (d.size - j))) (encP none))) :=
    fun ty => Lib.run_clear_slice W1 _ _ ty _ ut v3 rfl rfl blk (0 + (i + (d.size - j))) _ _ (by omega) (fun t ht => by rw [show 0 + (i + (d.size - j)) + t = 0 + (i + (d.size - j) + t) by omega, (hH1 _ (by rw [lay_size]; omega)).1]; rfl) (fun t ht => by rw [show 0 + (i + (d.size - j)) + t = 0 + (i + (d.size - j) + t) by omega]; exact (hH1 _ (by rw [lay_size]; omega)).2)
  simp only [Nat.zero_add] at hcl
  have X : Hid (W1 = Go.Sort.putRow encP (Go.Sort.ahead w 1) blk 0 (lay d i (d.toList.drop j))) := hW1'
  have hW : Hid (W1 = w.drew.setCells blk (0 + i * 1) news) := hW1
  have hic : i ≤ cap := by omega
  have hjc : j ≤ cap := by omega
  have HD := Lib.hid (delete_arr d i j none (by omega) hj')
  have HJ := Lib.hid hj0
  clear hW1 hW1' hH1 hH hget hnews hlen hjI hj0
  go_enter Tryz.func76, Tryz.ntmps76
  go_wp2_with fail
  go_region_law (refine step_append_room rfl (.tmp 22) (.tmp 25) 74 rfl 85 i0 1 ut hi0 hz1 blk 0 i cap (by simp [Act.eval, Act.put]) A (d.size - j) (cap - j) news (by simp [Act.eval, Act.put]) s1.out hsrc.out s2.out (by omega) s3.out ?_; rw [← hW.out])
  go_wp2
  go_ret
  have hj0 := HJ.out
  refine ⟨by rw [show d.size - 1 = i + (d.size - j) by omega]; rfl, 1, ?_⟩
  have e1 : [none] = List.replicate (j - i) (none : Option Addr) := by rw [show j - i = 1 by omega]; rfl
  have e5 := putRow_setCells encP (Go.Sort.ahead w 1) blk 0 (List.replicate (j - i) none) (lay d i (d.toList.drop j)) (i + (d.size - j)) (by rw [lay_size]; simp; omega)
  rw [Nat.zero_add] at e5
  rw [e1, ← HD.out, ← e5, ← X.out, List.map_replicate, show d.size - (i + (d.size - j)) = j - i by omega]

theorem putRow_st {b : Nat} {cs sp : List Value} {t : TypeId} (d : Array (Option Addr)) (q : Nat) (hl : d.size = cs.length) (h : St base w0 w ((b, .cells (cs ++ sp).toArray t (0, 0)) :: L)) :
    St base w0 (Go.Sort.putRow encP (Go.Sort.ahead w q) b 0 d) ((b, .cells (d.toList.map encP ++ sp).toArray t (0, 0)) :: L) := by
  have hb := (h.holds _ List.mem_cons_self)
  have hcell : (Go.Sort.putRow encP (Go.Sort.ahead w q) b 0 d).heap[b]? = some (.cells (d.toList.map encP ++ sp).toArray t (0, 0)) := by
    have e : (Go.Sort.ahead w q).heap[b]? = some (.cells (cs ++ sp).toArray t (0, 0)) := hb.2
    simp only [Go.Sort.putRow, Go.Sort.mapBlock, Array.getElem?_modify, if_true, e, Option.map_some, Go.Sort.onCells]
    congr 2
    apply Array.ext_getElem?
    intro k
    simp only [Go.Sort.putCells, Array.getElem?_mapIdx, List.getElem?_toArray, Nat.zero_le, true_and, Nat.zero_add, Nat.sub_zero]
    by_cases hk : k < d.size
    · rw [List.getElem?_append_left (by omega), List.getElem?_append_left (by simp; omega), List.getElem?_eq_getElem (by omega), Option.map_some, if_pos hk, List.getElem?_map, Array.getElem?_toList, Array.getElem?_eq_getElem hk, getElem!_pos d k hk]; rfl
    · rw [List.getElem?_append_right (by omega), List.getElem?_append_right (by simp; omega)]
      simp only [List.length_map, Array.length_toList, hl, if_neg (show ¬ k < cs.length by omega)]
      cases sp[k - cs.length]? <;> rfl
  have hother : ∀ k, k ≠ b → (Go.Sort.putRow encP (Go.Sort.ahead w q) b 0 d).heap[k]? = w.heap[k]? := by
    intro k hk
    simp only [Go.Sort.putRow, Go.Sort.mapBlock, Array.getElem?_modify, if_neg (Ne.symm hk)]
    rfl
  have hn := h.nodup
  rw [keys_cons, List.nodup_cons] at hn
  refine ⟨⟨h.below.os, h.below.tape, h.below.output, ?_, fun k hk => ?_⟩, ?_, h.nodup, fun p hp => ?_⟩
  · rw [Go.Sort.size_putRow]; exact h.below.size
  · rw [hother k (by have := hb.1; simp only at this; omega)]; exact h.below.block k hk
  · rw [Go.Sort.size_putRow]; exact h.le
  · rcases List.mem_cons.1 hp with rfl | hp
    · exact ⟨hb.1, hcell⟩
    · refine ⟨(h.holds p (List.mem_cons_of_mem _ hp)).1, ?_⟩
      rw [hother p.1 (fun e => hn.1 (by have := List.mem_map_of_mem (f := Prod.fst) hp; rw [e] at this; exact this))]
      exact (h.holds p (List.mem_cons_of_mem _ hp)).2

theorem eraseIdx_eq {α : Type} (xs : List α) (i : Nat) (h : i < xs.length) : xs.take i ++ xs.drop (i + 1) = xs.eraseIdx i := by
  rw [List.eraseIdx_eq_take_drop_succ]

theorem Delete_calls (r : Rw) (ps : List (Option Addr)) (hr : RowOk r 1 ps.length (ps.map encP)) (i : Nat) (hi : i < ps.length) (h : St base w0 w (rowH r 85 (ps.map encP) ++ L)) (R : Ending → World → Prop)
    (hR : ∀ r' w', RowOk r' 1 (ps.length - 1) ((ps.eraseIdx i).map encP) → St base w0 w' (rowH r' 85 ((ps.eraseIdx i).map encP) ++ L) → R (.returned (rowV r' (ps.length - 1))) w') :
    Calls Tryz.prog 76 #[rowV r ps.length, .int .i64 i, .int .i64 ((i : Int) + 1)] w R := by
  obtain ⟨b, hb⟩ := hr.pos (by omega)
  have hle := hr.le
  have hsp := hr.sp
  have h1 : St base w0 w ((b, .cells (ps.map encP ++ r.sp).toArray 85 (0, 0)) :: L) := by simpa [rowH, hb] using h
  have hH : Go.Sort.Holds encP w b 0 ps.toArray := by
    intro j hj
    simp only [List.size_toArray] at hj
    refine ⟨?_, h1.frozen List.mem_cons_self _⟩
    rw [h1.cells List.mem_cons_self]
    simp only [Nat.zero_add, List.getElem?_toArray]
    rw [List.getElem?_append_left (by simpa using hj), List.getElem?_map, getElem!_pos ps.toArray j (by simpa using hj)]
    simp [hj]
  have e := Delete_arr b (ps.length + r.k) i ps.toArray w hH (by simp) (by unfold maxLen at hle; omega) (by simpa using hi)
  have erv : rowV r ps.length = .slice (some ⟨b, 0, none⟩) ps.toArray.size (ps.length + r.k) := by simp [rowV, rowA, hb]
  rw [erv]
  refine e.mono ?_
  rintro e w' ⟨rfl, q, rfl⟩
  have h2 := putRow_st (ps.toArray.toList.take i ++ ps.toArray.toList.drop (i + 1) ++ [none]).toArray q (by simp; omega) h1
  have e2 : ((ps.toArray.toList.take i ++ ps.toArray.toList.drop (i + 1) ++ [none]).toArray.toList.map encP ++ r.sp) = (ps.eraseIdx i).map encP ++ (encP none :: r.sp) := by
    simp only [eraseIdx_eq ps i hi, List.map_append]; simp
  rw [e2] at h2
  have h3 := hR ⟨some b, r.k + 1, encP none :: r.sp⟩ _ ⟨by simp [List.length_eraseIdx, hi], fun e => by simp at e, by simp [hsp], by simp only; omega⟩ h2
  have e3 : rowV ⟨some b, r.k + 1, encP none :: r.sp⟩ (ps.length - 1) = .slice (some ⟨b, 0, none⟩) (ps.toArray.size - 1) (ps.length + r.k) := by simp [rowV, rowA]; omega
  rw [← e3]
  exact h3
end Go.Proofs.YtaojipegpjolcaaGreat
set_option linter.unusedVariables false
set_option linter.unusedSimpArgs false
namespace Go.Proofs.YtaojipegpjolcaaGreat
open Go.RowKit Go.Sort Go.Proofs.BodegaHeap
variable {base : Nat} {w0 w : World} {L : List Blk}

/-- All of a fabric but lane j of client i and the row of its lanes. -/
abbrev fbV (F : FB) (C : CP) (i j : Nat) : List Blk :=
  (F.fb, .cells (fbCells F) 76 (0, 0)) :: (rowH F.nr 45 (F.ns.flatMap nodeC) ++ (F.ns.flatMap nodeH ++ (rowH F.cr 84 (F.cs.flatMap cpC) ++ ((F.cs.eraseIdx i).flatMap cpH ++ (rowH C.br 94 (C.ds.flatMap dnC) ++ (C.ds.flatMap dnH ++
    ((C.ls.eraseIdx j).flatMap lnH ++ (rowH F.orr 85 (F.os.flatMap orC) ++ F.os.flatMap gpH))))))))
theorem lane_open {F : FB} {i j : Nat} {C : CP} {l : LN} (hi : F.cs[i]? = some C) (hj : C.ls[j]? = some l) (h : St base w0 w (fbH F ++ L)) :
    St base w0 w (gpH l.g ++ (rowH l.pl 3 (ints l.ps) ++ (rowH C.lr 87 (C.ls.flatMap lnC) ++ (fbV F C i j ++ L)))) := by
  refine h.ac (fun y => ?_)
  have e1 := cnt_flat_get cpH y F.cs i C hi
  have e2 := cnt_flat_get lnH y C.ls j l hj
  simp only [fbH, fbR, fbV, cpH, lnH, gpH, cnt_append, cnt_cons, cnt_nil] at *
  omega
/-- Client i with other lanes. -/
def FB.laned (F : FB) (i : Nat) (C : CP) (ls : List LN) : FB := { F with cs := F.cs.set i { C with ls := ls } }
theorem lane_close {F : FB} {i j : Nat} {C : CP} {l l' : LN} (hi : F.cs[i]? = some C) (hj : C.ls[j]? = some l)
    (h : St base w0 w (gpH l'.g ++ (rowH l'.pl 3 (ints l'.ps) ++ (rowH C.lr 87 ((C.ls.set j l').flatMap lnC) ++ (fbV F C i j ++ L))))) :
    St base w0 w (fbH (F.laned i C (C.ls.set j l')) ++ L) := by
  have hil : i < F.cs.length := (List.getElem?_eq_some_iff.1 hi).1
  have hjl : j < C.ls.length := (List.getElem?_eq_some_iff.1 hj).1
  have hc : fbCells (F.laned i C (C.ls.set j l')) = fbCells F := by simp [fbCells, FB.laned]
  have e1 : (F.cs.set i { C with ls := C.ls.set j l' }).flatMap cpC = F.cs.flatMap cpC := flatMap_set_same cpC F.cs i C _ hi (by simp [cpC])
  refine h.ac (fun y => ?_)
  have e2 := cnt_flat_set cpH y F.cs i { C with ls := C.ls.set j l' } hil
  have e3 := cnt_flat_set lnH y C.ls j l' hjl
  have e5 : fbH (F.laned i C (C.ls.set j l')) = (F.fb, .cells (fbCells F) 76 (0, 0)) :: (rowH F.nr 45 (F.ns.flatMap nodeC) ++ (F.ns.flatMap nodeH ++ (rowH F.cr 84 (F.cs.flatMap cpC) ++ ((F.cs.set i { C with ls := C.ls.set j l' }).flatMap cpH ++ (rowH F.orr 85 (F.os.flatMap orC) ++ F.os.flatMap gpH))))) := by
    simp only [fbH, fbR, hc]
    simp only [FB.laned, e1]
  rw [e5]
  simp only [fbV, cpH, lnH, gpH, cnt_append, cnt_cons, cnt_nil] at *
  omega

theorem laned_same {F : FB} {i : Nat} {C : CP} (hi : F.cs[i]? = some C) : F.laned i C C.ls = F := by
  have hil : i < F.cs.length := (List.getElem?_eq_some_iff.1 hi).1
  have : F.cs.set i C = F.cs := by
    apply List.ext_getElem?
    intro k
    by_cases hk : k = i
    · subst hk; rw [List.getElem?_set_self hil, hi]
    · rw [List.getElem?_set_ne (Ne.symm hk)]
  simp only [FB.laned, this]
theorem laned_get {F : FB} {i : Nat} {C : CP} {ls : List LN} (hi : F.cs[i]? = some C) : (F.laned i C ls).cs[i]? = some { C with ls := ls } := by
  have hil : i < F.cs.length := (List.getElem?_eq_some_iff.1 hi).1
  simp [FB.laned, hil]
theorem laned_laned {F : FB} {i : Nat} {C : CP} {ls ls' : List LN} : (F.laned i C ls).laned i { C with ls := ls } ls' = F.laned i C ls' := by
  simp [FB.laned]

/-- A verb posted as number i. -/
def postLane (ls : List PL) (i : Nat) (v : Vb) : List PL :=
  match ls[v.node.toNat]? with
  | some l => ls.set v.node.toNat { p := { l.p with vs := l.p.vs ++ [v] }, ps := l.ps ++ [(i : Int)] }
  | none => ls
def pPosted : List PL → Nat → List Vb → List PL
  | ls, _, [] => ls
  | ls, i, v :: tl => pPosted (postLane ls i v) (i + 1) tl

/-- Client i's lanes when k verbs of n have been posted. -/
structure PMid (F : FB) (C : CP) (c n : Nat) (vs : List Vb) (k : Nat) (ls : List LN) : Prop where
  len : ls.length = F.ns.length
  lr : RowOk C.lr 2 ls.length (ls.flatMap lnC)
  each : ∀ (i : Nat) (l : LN), ls[i]? = some l → LnOk F.lines F.ns.length c C.inc n i l
  sum : (ls.map (fun l => l.ps.length)).sum = k
  pure : pPosted (ls.map LN.pure) k (vs.drop k) = pPosted (C.ls.map LN.pure) 0 vs

theorem PMid.start {F : FB} (hF : FbOk F) {C : CP} {c : Nat} (hc : F.cs[c]? = some C) (ha : C.alive = true) (hd : C.ds = []) (n : Nat) (vs : List Vb) : PMid F C c n vs 0 C.ls := by
  have hC := hF.cs c C hc
  have hw := hC.wait
  have hwl := hC.wlt
  rw [hd] at hwl
  have hs : (C.ls.map (fun l => l.ps.length)).sum = 0 := by simp only [List.length_nil] at hwl; omega
  have hps : ∀ l ∈ C.ls, l.ps = [] := fun l hl => List.eq_nil_of_length_eq_zero (sum_zero (fun l : LN => l.ps.length) C.ls hs l hl)
  exact ⟨hC.up ha, hC.lr, fun i l hl => by
    obtain ⟨h1, h2, h3, h4, h5, h6, h7⟩ := hC.ls i l hl
    exact ⟨h1, h2, h3, h4, h5, h6, fun p hp => by rw [hps l (List.mem_of_getElem? hl)] at hp; cases hp⟩, hs, by simp⟩

theorem le_sum (xs : List LN) (l : LN) (h : l ∈ xs) : l.ps.length ≤ (xs.map (fun l => l.ps.length)).sum := by
  induction xs with
  | nil => cases h
  | cons x tl ih =>
    rcases List.mem_cons.1 h with rfl | h
    · simp
    · have := ih h; simp; omega

/-- A lane with one verb more. -/
def LN.posted (l : LN) (rv : Rw) (x : GV) (pl : Rw) (k : Nat) : LN := ⟨{ l.g with rv := rv, gs := l.g.gs ++ [x] }, pl, l.ps ++ [(k : Int)]⟩

theorem PMid.next {F : FB} {C : CP} {c n k : Nat} {vs : List Vb} {ls : List LN} (hm : PMid F C c n vs k ls) (hn : n ≤ 1000) (hkn : k < n) {x x' : GV} {j : Nat} {l : LN} (hj : ls[j]? = some l) (hx : x.1.node = (j : Nat)) (hxx : x'.1 = x.1) (hgv : GvOk x') (hv : VLike x F.lines) (hb0 : 0 ≤ x.1.boot) (hb1 : x.1.boot ≤ 1000)
    (hvs : vs[k]? = some x.1) {rv pl : Rw} (hrv : RowOk rv 9 (l.g.gs.length + 1) ((l.g.gs ++ [x']).flatMap gvC)) (hpl : RowOk pl 1 (l.ps.length + 1) (ints (l.ps ++ [(k : Int)]))) : PMid F C c n vs (k + 1) (ls.set j (l.posted rv x' pl k)) := by
  have hl := hm.each j l hj
  have hjl := (List.getElem?_eq_some_iff.1 hj).1
  have hle := le_sum ls l (List.mem_of_getElem? hj)
  have hsum := sum_set ls j l (l.posted rv x' pl k) hj
  have hlen := hl.len
  have hms := hm.sum
  have hnd := hl.nd
  obtain ⟨kk, hk, hkw, hkl, hk0⟩ := hl.p.ex
  have hl' : LnOk F.lines F.ns.length c C.inc n j (l.posted rv x' pl k) := by
    refine ⟨⟨by simp only [LN.posted, List.length_append, List.length_singleton]; exact hrv, hl.p.rw_, fun y hy => ?_, by simp only [LN.posted, List.length_append, List.length_singleton]; omega, ⟨kk, hk, hkw, fun y tl e => ?_, fun e => by simp [LN.posted] at e⟩, hl.p.cl0, hl.p.cl1, hl.p.inc0, hl.p.inc1, hl.p.nd0, hl.p.nd1⟩, hl.cl, hl.inc, hl.nd, by simp only [LN.posted, List.length_append, List.length_singleton]; exact hpl, by simp only [LN.posted, List.length_append, List.length_singleton]; omega, fun p hp => ?_⟩
    · simp only [LN.posted, List.mem_append, List.mem_singleton] at hy
      rcases hy with hy | rfl
      · exact hl.p.gs y hy
      · refine ⟨⟨by rw [hxx]; exact hv.ok, by rw [hxx]; exact hv.k4, hgv, by rw [hxx]; exact hv.wl⟩, by rw [hxx, hx]; simp only [LN.posted]; omega, by rw [hxx]; exact hb0, by rw [hxx]; exact hb1⟩
    · cases hgs : l.g.gs with
      | nil =>
        have h0 := hk0 hgs
        simp only [LN.posted, hgs, List.nil_append, List.cons.injEq] at e
        obtain ⟨rfl, _⟩ := e
        have hc0 : 0 < vCount x'.1 := by rw [hxx]; have := hv.ok.c0; omega
        have := pcs_step 2000 x'.1.at_ (vCount x'.1) hc0 (by rw [hxx]; have := hv.ok.c1; omega)
        unfold vPieces
        rw [this]
        simp [h0]
      | cons z zs =>
        simp only [LN.posted, hgs, List.cons_append, List.cons.injEq] at e
        exact hkl y zs (by rw [hgs, e.1])
    · simp only [LN.posted, List.mem_append, List.mem_singleton] at hp
      rcases hp with hp | rfl
      · exact hl.lt p hp
      · omega
  refine ⟨by simp [hm.len], by simp only [List.length_set]; exact RowOk.setRec (enc := lnC) (s := 2) (fun _ => rfl) hm.lr j _, fun i m hi => ?_, ?_, ?_⟩
  · by_cases hij : i = j
    · subst hij
      rw [List.getElem?_set_self hjl] at hi
      cases hi
      exact hl'
    · rw [List.getElem?_set_ne (Ne.symm hij)] at hi
      exact hm.each i m hi
  · simp only [LN.posted, List.length_append, List.length_singleton] at hsum
    simp only [LN.posted]
    omega
  · rw [← hm.pure]
    have hd : vs.drop k = x.1 :: vs.drop (k + 1) := by
      rw [List.drop_eq_getElem_cons (List.getElem?_eq_some_iff.1 hvs).1, (List.getElem?_eq_some_iff.1 hvs).2]
    rw [hd, pPosted]
    congr 1
    unfold postLane
    have e1 : (ls.map LN.pure)[x.1.node.toNat]? = some l.pure := by rw [hx]; simp [hj]
    rw [e1]
    simp only [hx, Int.toNat_natCast, List.map_set]
    congr 1
    simp [LN.pure, LN.posted, GP.pure, hxx]

/-- Behind Post. -/
def CP.postedAs (C : CP) (ls : List LN) (br : Rw) (n : Nat) : CP := { C with ls := ls, br := br, ds := List.replicate n (⟨0, []⟩, nilRw), waiting := n, trips := wrap64 (C.trips + 1), posted := wrap64 (C.posted + n) }
theorem PMid.done {F : FB} (hF : FbOk F) {C : CP} {c n : Nat} {vs : List Vb} {ls : List LN} (hc : F.cs[c]? = some C) (ha : C.alive = true) (hm : PMid F C c n vs n ls) (hn : n ≤ 1000) (hn0 : 0 < n) {br : Rw} (hbr : RowOk br 2 n ((List.replicate n ((⟨0, []⟩, nilRw) : DV)).flatMap dnC)) :
    FbOk { F with cs := F.cs.set c (C.postedAs ls br n) } := by
  refine hF.setCp hc ⟨hm.lr, ?_, ?_, ?_, ?_, ?_, ?_, ?_, ?_, ?_⟩ rfl
  · simp only [CP.postedAs, List.length_replicate]; exact hm.each
  · simp only [CP.postedAs, List.length_replicate]; exact hbr
  · intro d hd
    simp only [CP.postedAs] at hd
    rw [List.eq_of_mem_replicate hd]
    exact nilRw_ok 1
  · simp [CP.postedAs, hn]
  · intro e
    have := congrArg List.length e
    simp [CP.postedAs] at this
    omega
  · intro _; exact hm.len
  · intro e; simp only [CP.postedAs, ha] at e; cases e
  · simp only [CP.postedAs]; have := hm.sum; omega
  · simp [CP.postedAs]

def pPost (P : PF) (c : Nat) (vs : List Vb) : PF :=
  match P.cs[c]? with
  | some C => { P with cs := P.cs.set c { C with ls := pPosted C.ls 0 vs, ds := List.replicate vs.length ⟨0, []⟩, waiting := vs.length, trips := wrap64 (C.trips + 1), posted := wrap64 (C.posted + vs.length) } }
  | none => P
theorem posted_pure {F : FB} {C : CP} {c : Nat} {vs : List Vb} {ls : List LN} {br : Rw} (hc : F.cs[c]? = some C) (hm : PMid F C c vs.length vs vs.length ls) : FB.pure { F with cs := F.cs.set c (C.postedAs ls br vs.length) } = pPost F.pure c vs := by
  have e1 : F.pure.cs[c]? = some C.pure := by simp [FB.pure, hc]
  have e2 := hm.pure
  rw [List.drop_of_length_le (Nat.le_refl _), pPosted] at e2
  rw [pure_setCp]
  unfold pPost
  rw [e1]
  simp only
  congr 2
  simp [CP.pure, CP.postedAs, e2]

/-- A lane of which the pair has taken a verb, and its places. -/
abbrev laneM (F : FB) (C : CP) (i j : Nat) (l : LN) (rv : Rw) (x : GV) (M : List Blk) : List Blk :=
  (l.g.bp, .cells (gpCells { l.g with rv := rv, gs := l.g.gs ++ [x] }) 111 (0, 0)) :: (rowH rv 113 ((l.g.gs ++ [x]).flatMap gvC) ++ (gvH x ++ (rowH l.g.rw_ 22 (u64s l.g.ws) ++ (l.g.gs.flatMap gvH ++ (rowH C.lr 87 (C.ls.flatMap lnC) ++ (fbV F C i j ++ M))))))
theorem lane_read {F : FB} {C : CP} {i j : Nat} {l : LN} {rv : Rw} {x : GV} {M X : List Blk} {b2 : Nat} (hj : C.ls[j]? = some l) (hb2 : C.lr.blk = some b2) (h : St base w0 w (X ++ laneM F C i j l rv x M)) :
    w.cell? ⟨b2, j * 2 + 1, none⟩ = some (rowV l.pl l.ps.length) ∧ (∀ q, w.frozen? ⟨b2, q, none⟩ = false) := by
  refine ⟨?_, fun q => h.row_frozen (r := C.lr) (t := 87) (cs := C.ls.flatMap lnC) hb2 (fun p hp => by simp only [laneM, List.mem_append, List.mem_cons]; simp [hp]) q⟩
  exact h.recCell (enc := lnC) (s := 2) (r := C.lr) (t := 87) (xs := C.ls) (fun _ => rfl) hb2 (fun p hp => by simp only [laneM, List.mem_append, List.mem_cons]; simp [hp]) hj 1 (by decide)
theorem lane_put {F : FB} {C : CP} {i j k : Nat} {l : LN} {rv pl : Rw} {x : GV} {M : List Blk} {bx : Blk} {b2 : Nat} (hi : F.cs[i]? = some C) (hj : C.ls[j]? = some l) (hb2 : C.lr.blk = some b2)
    (h : St base w0 w (rowH pl 3 (ints (l.ps ++ [(k : Int)])) ++ laneM F C i j l rv x (bx :: M))) :
    St base w0 (w.setCell ⟨b2, j * 2 + 1, none⟩ (rowV pl (l.ps.length + 1))) (fbH (F.laned i C (C.ls.set j (l.posted rv x pl k))) ++ M) := by
  have h1 : St base w0 w (rowH C.lr 87 (C.ls.flatMap lnC) ++ (rowH pl 3 (ints (l.ps ++ [(k : Int)])) ++ ((l.g.bp, .cells (gpCells { l.g with rv := rv, gs := l.g.gs ++ [x] }) 111 (0, 0)) :: (rowH rv 113 ((l.g.gs ++ [x]).flatMap gvC) ++ (gvH x ++ (rowH l.g.rw_ 22 (u64s l.g.ws) ++ (l.g.gs.flatMap gvH ++ (fbV F C i j ++ (bx :: M))))))))) :=
    h.ac (fun y => by simp only [laneM, cnt_append, cnt_cons]; omega)
  have h2 := h1.setRec (enc := lnC) (s := 2) (fun _ => rfl) hb2 hj 1 (by decide) (rowV pl (l.ps.length + 1)) (l.posted rv x pl k) (by simp [lnC, LN.posted])
  refine lane_close hi hj (l' := l.posted rv x pl k) (St.drop (L := [bx]) (h2.ac (fun y => ?_)))
  simp only [LN.posted, gpH, List.flatMap_append, List.flatMap_cons, List.flatMap_nil, List.append_nil, cnt_append, cnt_cons, cnt_nil]
  omega

theorem post_ends {F : FB} (hF : FbOk F) {c n : Nat} {C : CP} (hc : F.cs[c]? = some C) (hd : C.ds = []) {b : Nat} (hb : F.cr.blk = some b) {ls : List LN} (h : St base w0 w (fbH (F.laned c C ls) ++ L)) (hn : n ≤ 1000) :
    CpAt (w.alloc (.cells ((List.replicate n ((⟨0, []⟩, nilRw) : DV)).flatMap dnC).toArray 94)) b c { C with ls := ls } ∧ RowOk ⟨some w.heap.size, 0, []⟩ 2 n ((List.replicate n ((⟨0, []⟩, nilRw) : DV)).flatMap dnC) ∧
    St base w0 (((((w.alloc (.cells ((List.replicate n ((⟨0, []⟩, nilRw) : DV)).flatMap dnC).toArray 94)).setCell ⟨b, c * 7 + 3, none⟩ (.slice (some ⟨w.heap.size, 0, none⟩) n n)).setCell ⟨b, c * 7 + 4, none⟩ (.int .i64 n)).setCell ⟨b, c * 7 + 5, none⟩ (.int .i64 (wrap64 (C.trips + 1)))).setCell ⟨b, c * 7 + 6, none⟩ (.int .i64 (wrap64 (C.posted + n))))
      (fbH { F with cs := F.cs.set c (C.postedAs ls ⟨some w.heap.size, 0, []⟩ n) } ++ L) := by
  have hil : c < F.cs.length := (List.getElem?_eq_some_iff.1 hc).1
  have hgk := laned_get (F := F) (C := C) (ls := ls) hc
  have hnil := (hF.cs c C hc).nil hd
  have h1 := h.allocAt w.heap.size rfl (.cells ((List.replicate n ((⟨0, []⟩, nilRw) : DV)).flatMap dnC).toArray 94)
  have hat : CpAt _ b c { C with ls := ls } := CpAt.of h1 (r := (F.laned c C ls).cr) hb (fun p hp => List.mem_cons_of_mem _ (fbR_cr _ p hp)) hgk
  have h2 := fb_open hgk (h1.ac (M := fbH (F.laned c C ls) ++ ((w.heap.size, .cells ((List.replicate n ((⟨0, []⟩, nilRw) : DV)).flatMap dnC).toArray 94 (0, 0)) :: L)) (fun y => by simp only [cnt_append, cnt_cons, cnt_nil]; omega))
  have h3 : St base w0 _ (rowH F.cr 84 ((F.cs.set c { C with ls := ls }).flatMap cpC) ++ ((F.fb, .cells (fbCells (F.laned c C ls)) 76 (0, 0)) :: (cpH { C with ls := ls } ++ (fbX (F.laned c C ls) c ++ ((w.heap.size, .cells ((List.replicate n ((⟨0, []⟩, nilRw) : DV)).flatMap dnC).toArray 94 (0, 0)) :: L))))) := h2.ac (fun y => by simp only [FB.laned, cnt_append, cnt_cons]; omega)
  have hx : (F.cs.set c { C with ls := ls })[c]? = some { C with ls := ls } := by simp [hil]
  have h4 := h3.setRec (enc := cpC) (s := 7) (fun _ => rfl) hb hx 3 (by decide) (.slice (some ⟨w.heap.size, 0, none⟩) n n) ({ C with ls := ls, br := ⟨some w.heap.size, 0, []⟩, ds := List.replicate n (⟨0, []⟩, nilRw) } : CP) (by simp [cpC, rowV, rowA])
  rw [List.set_set] at h4
  have h5 := h4.setRec (enc := cpC) (s := 7) (fun _ => rfl) hb (show (F.cs.set c ({ C with ls := ls, br := ⟨some w.heap.size, 0, []⟩, ds := List.replicate n (⟨0, []⟩, nilRw) } : CP))[c]? = some { C with ls := ls, br := ⟨some w.heap.size, 0, []⟩, ds := List.replicate n (⟨0, []⟩, nilRw) } by simp [hil]) 4 (by decide) (.int .i64 n) ({ C with ls := ls, br := ⟨some w.heap.size, 0, []⟩, ds := List.replicate n (⟨0, []⟩, nilRw), waiting := n } : CP) (by simp [cpC])
  rw [List.set_set] at h5
  have h6 := h5.setRec (enc := cpC) (s := 7) (fun _ => rfl) hb (show (F.cs.set c ({ C with ls := ls, br := ⟨some w.heap.size, 0, []⟩, ds := List.replicate n (⟨0, []⟩, nilRw), waiting := n } : CP))[c]? = some { C with ls := ls, br := ⟨some w.heap.size, 0, []⟩, ds := List.replicate n (⟨0, []⟩, nilRw), waiting := n } by simp [hil]) 5 (by decide) (.int .i64 (wrap64 (C.trips + 1))) ({ C with ls := ls, br := ⟨some w.heap.size, 0, []⟩, ds := List.replicate n (⟨0, []⟩, nilRw), waiting := n, trips := wrap64 (C.trips + 1) } : CP) (by simp [cpC])
  rw [List.set_set] at h6
  have h7 := h6.setRec (enc := cpC) (s := 7) (fun _ => rfl) hb (show (F.cs.set c ({ C with ls := ls, br := ⟨some w.heap.size, 0, []⟩, ds := List.replicate n (⟨0, []⟩, nilRw), waiting := n, trips := wrap64 (C.trips + 1) } : CP))[c]? = some { C with ls := ls, br := ⟨some w.heap.size, 0, []⟩, ds := List.replicate n (⟨0, []⟩, nilRw), waiting := n, trips := wrap64 (C.trips + 1) } by simp [hil]) 6 (by decide) (.int .i64 (wrap64 (C.posted + n))) (C.postedAs ls ⟨some w.heap.size, 0, []⟩ n) (by simp [cpC, CP.postedAs])
  rw [List.set_set] at h7
  have hfl : ((List.replicate n ((⟨0, []⟩, nilRw) : DV)).flatMap dnH) = [] := by
    rw [List.flatMap_eq_nil_iff]
    intro d hd
    rw [List.eq_of_mem_replicate hd]; rfl
  refine ⟨hat, ⟨by rw [flat_length dnC 2 (fun _ => rfl), List.length_replicate]; omega, fun e => by simp at e, by simp, by simp [maxLen]; omega⟩, ?_⟩
  refine fb_close hc (h7.ac (fun y => ?_))
  have e1 : fbCells (F.laned c C ls) = fbCells F := by simp [fbCells, FB.laned]
  have e2 : fbX (F.laned c C ls) c = fbX F c := by simp only [fbX, FB.laned, List.eraseIdx_set_eq]
  have e3 : cnt y (cpH (C.postedAs ls ⟨some w.heap.size, 0, []⟩ n)) = cnt y (rowH C.lr 87 (ls.flatMap lnC)) + cnt y (ls.flatMap lnH) + cnt y [(w.heap.size, Obj.cells ((List.replicate n ((⟨0, []⟩, nilRw) : DV)).flatMap dnC).toArray 94 (0, 0))] := by
    simp only [CP.postedAs, cpH, hfl, rowH, List.append_nil, cnt_append, cnt_nil]; omega
  have e4 : cnt y (cpH { C with ls := ls }) = cnt y (rowH C.lr 87 (ls.flatMap lnC)) + cnt y (ls.flatMap lnH) := by
    simp only [cpH, hd, rowH, hnil, List.flatMap_nil, cnt_append, cnt_nil]; omega
  rw [e1, e2]
  simp only [cnt_append, cnt_cons, cnt_nil, e3, e4]
  omega
end Go.Proofs.YtaojipegpjolcaaGreat
set_option linter.unusedVariables false
set_option linter.unusedSimpArgs false
namespace Go.Proofs.YtaojipegpjolcaaGreat
open Go.RowKit Go.Sort Go.Proofs.BodegaHeap
variable {base : Nat} {w0 w : World} {L : List Blk}

/-- A batch in memory: its row, its verbs, each in order for a fabric. -/
structure BatchOk (nodes : Nat) (lines : Int) (rb : Rw) (bs : List GV) : Prop where
  rb : RowOk rb 9 bs.length (bs.flatMap gvC)
  pos : 0 < bs.length
  len : bs.length ≤ 1000
  vs : ∀ x ∈ bs, VLike x lines ∧ VOk x.1 nodes lines ∧ 0 ≤ x.1.boot ∧ x.1.boot ≤ 1000
abbrev batchH (rb : Rw) (bs : List GV) : List Blk := rowH rb 113 (bs.flatMap gvC) ++ bs.flatMap gvH
theorem batch_cell {bs : List GV} {rb : Rw} {b : Nat} (hb : rb.blk = some b) (hm : ∀ p, p ∈ batchH rb bs → p ∈ L) (h : St base w0 w L) {k : Nat} {x : GV} (hx : bs[k]? = some x) (j : Nat) (hj : j < 9) : w.cell? ⟨b, k * 9 + j, none⟩ = (vCells x.1 (rowA x.2) (x.1.words.length + x.2.k))[j]? := by
  have e := h.recCell (enc := gvC) (s := 9) gvC_len hb (fun p hp => hm p (List.mem_append_left _ hp)) hx j hj
  rw [e]; simp [gvC]
theorem batch_words {bs : List GV} {rb : Rw} (hm : ∀ p, p ∈ batchH rb bs → p ∈ L) {x : GV} (hx : x ∈ bs) : ∀ p, p ∈ gvH x → p ∈ L :=
  fun p hp => hm p (List.mem_append_right _ (List.mem_flatMap.2 ⟨x, hx, hp⟩))


theorem make_dn (n : Nat) (hn : n ≤ 1000000) (w : World) :
    (Instr.makeSlice 82 (.int .i64 (n : Int)) (.int .i64 (n : Int))).run Tryz.prog w = .ok (.slice (some ⟨w.heap.size, 0, none⟩) n n) (w.alloc (.cells ((List.replicate n ((⟨0, []⟩, nilRw) : DV)).flatMap dnC).toArray 94)) :=
  run_make_recs dnC 2 32 (fun _ => rfl) (by decide) ((⟨0, []⟩, nilRw) : DV) (.agg #[.int .i64 0, .slice none 0 0]) rfl Tryz.underlying82 (by kernel_rfl) (by decide) n hn w

set_option maxRecDepth 100000 in
set_option maxHeartbeats 4000000 in
theorem FPost_calls (F : FB) (hF : FbOk F) (c : Nat) (C : CP) (hc : F.cs[c]? = some C) (ha : C.alive = true) (hd : C.ds = []) (rb : Rw) (bs : List GV) (hbs : BatchOk F.ns.length F.lines rb bs) (hm : ∀ p, p ∈ batchH rb bs → p ∈ L) (h : St base w0 w (fbH F ++ L)) (R : Ending → World → Prop)
    (hR : ∀ (F' : FB) w', FbOk F' → F'.fb = F.fb → F'.pure = pPost F.pure c (bs.map (·.1)) → St base w0 w' (fbH F' ++ L) → R (.returned (.int .i64 0)) w') :
    Calls Tryz.prog 57 #[fP F, .int .i64 c, rowV rb bs.length] w R := by
  have hcl : c < F.cs.length := (List.getElem?_eq_some_iff.1 hc).1
  have hn5 := hF.n1
  have hl98 := hF.l0
  have hn := hbs.len
  have hn0 := hbs.pos
  obtain ⟨b, hb⟩ := hF.cr.pos (by omega)
  obtain ⟨bb, hbb⟩ := hbs.rb.pos hn0
  have hrb : rowV rb bs.length = .slice (some ⟨bb, 0, none⟩) bs.length (bs.length + rb.k) := by simp [rowV, rowA, hbb]
  have hcl2 := client_calls F c hcl b hb hF.c1 h
  obtain ⟨a0, a1, a2, a3, a4, a5, a6, fr⟩ := CpAt.of h hb (fbR_cr F) hc
  have hnil := (hF.cs c C hc).nil hd
  have hbk := ((hF.cs c C hc).br.nil hnil).2.1
  rw [ha] at a0
  rw [show rowV C.br C.ds.length = .slice none 0 0 by simp [rowV, rowA, hnil, hd, hbk]] at a3
  have q := eqnilDn
  have HCL := Lib.hid hcl2
  have HH := Lib.hid h
  have HR := Lib.hid hR
  have HF := Lib.hid hF
  have HC := Lib.hid hc
  have HB := Lib.hid hb
  have HBB := Lib.hid hbb
  have HBS := Lib.hid hbs
  have HM := Lib.hid hm
  have HA := Lib.hid ha
  have HD := Lib.hid hd
  have hlI : ((bs.length : Int) == 0) = false := by rw [beq_eq_false_iff_ne]; omega
  have hlI2 : decide ((1024 : Int) < (bs.length : Int)) = false := by simp; omega
  clear h hR hF hc hb hbb hbs hm hcl2 a1 a2 a4 a5 a6 fr ha hd hnil hbk
  rw [hrb]
  clear hrb
  go_enter Tryz.func57, Tryz.ntmps57
  go_wp2_with (first | (go_at_call 40; (refine Calls.mono HCL.out ?_; intro e w' hh; rw [hh.1, hh.2]; clear hh w' e)))
  clear a0 a3 q
  go_loopw [43] (fun i wr => ∃ k : Nat, k ≤ bs.length ∧ i = .int .i64 k ∧ St base w0 wr (fbH F ++ L)) (fun i wr => bs.length - (intOf i).toNat)
  case atStart => exact ⟨0, Nat.zero_le _, rfl, HH.out⟩
  case round =>
    obtain ⟨k, hk, rfl, hst⟩ := hrel
    by_cases hlt : k < bs.length
    · obtain ⟨x, hx⟩ : ∃ x, bs[k]? = some x := ⟨bs[k], by simp [hlt]⟩
      have hxo := HBS.out.vs x (List.mem_of_getElem? hx)
      have bc := fun (j : Nat) (hj : j < 9) => batch_cell HBB.out (fun p hp => List.mem_append_right (fbH F) (HM.out p hp)) hst hx j hj
      have b0 := bc 0 (by decide)
      have b1 := bc 1 (by decide)
      have b2 := bc 2 (by decide)
      have b3 := bc 3 (by decide)
      have b4 := bc 4 (by decide)
      have b5 := bc 5 (by decide)
      have b6 := bc 6 (by decide)
      have b7 := bc 7 (by decide)
      have b8 := bc 8 (by decide)
      simp only [Nat.add_zero, List.getElem?_toArray, List.getElem?_cons_zero, List.getElem?_cons_succ] at b0 b1 b2 b3 b4 b5 b6 b7 b8
      have hltI : (k : Int) < (bs.length : Int) := by omega
      obtain ⟨W, hW⟩ : ∃ W, W = wr.alloc (.cells (vCells x.1 (rowA x.2) (x.1.words.length + x.2.k)) 113) := ⟨_, rfl⟩
      obtain ⟨nb, hnb⟩ : ∃ n, n = wr.heap.size := ⟨_, rfl⟩
      have h1 : St base w0 W (fbH F ++ ((nb, .cells (vCells x.1 (rowA x.2) (x.1.words.length + x.2.k)) 113 (0, 0)) :: L)) := by rw [hW, hnb]; exact (hst.alloc _).ac (fun y => by simp only [cnt_append, cnt_cons]; omega)
      have hw : ∀ d os, St base w0 (grow (redrawn W d) os) (fbH F ++ ((nb, .cells (vCells x.1 (rowA x.2) (x.1.words.length + x.2.k)) 113 (0, 0)) :: L)) := fun d os => h1.grow (below_regrown W d os)
      have hQ : ∀ d os, Calls Tryz.prog 78 #[vVal x.1 (rowA x.2) (x.1.words.length + x.2.k), .int .i64 (F.ns.length : Nat), .int .i64 F.lines] (grow (redrawn W d) os) fun e w'' => e = .returned (.int .i64 0) ∧ ∃ p : Regrown, w'' = grow (redrawn W p.d) p.os := fun d os => Calls.regrown_of (Valid_calls _ x.1 _ _ _ _ hxo.2.1)
      have hcb : ∀ d os k, (grow (redrawn W d) os).cell? ⟨nb, k, none⟩ = (vCells x.1 (rowA x.2) (x.1.words.length + x.2.k))[k]? := fun d os k => (hw d os).cells (List.mem_append_right _ List.mem_cons_self) k
      have hcf : ∀ d os k, (grow (redrawn W d) os).cell? ⟨F.fb, k, none⟩ = (fbCells F)[k]? := fun d os => (fb_cells F (hw d os)).1
      have HW := Lib.hid hW
      have HX := Lib.hid hx
      have HQ := Lib.hid hQ
      have HCB := Lib.hid hcb
      have HCF := Lib.hid hcf
      have H1 := Lib.hid h1
      clear hW hx hQ hcb hcf h1 hw hst bc hxo HH
      subst hnb
      go_wp2_with fail
      rw [← HW.out]
      have hQ := HQ.out
      have hcb := HCB.out
      have hcf := HCF.out
      refine wp_region_quiet_below (by kernel_rfl) (by kernel_rfl) ?_
      repeat (quiet_step (exact hQ _ _))
      refine wpQuiet_nil ?_
      intro w1 hw1
      have hb := quiet_out hw1
      have h2 := H1.out.grow hb
      have H2 := Lib.hid h2
      clear hw1 hQ hcb hcf HQ HCB HCF hb h2 H1
      go_wp2
      go_roundw
      case rel => ((repeat apply Exists.intro (α := Value)); (first | refine ⟨?_, rfl⟩ | skip); (all_goals first | exact undef | skip)); exact ⟨k + 1, by omega, by go_num, St.drop (L := [(wr.heap.size, .cells (vCells x.1 (rowA x.2) (x.1.words.length + x.2.k)) 113 (0, 0))]) (H2.out.ac (fun y => by simp only [cnt_append, cnt_cons, cnt_nil]; omega))⟩
      case measure => simp [intOf]; omega
    · obtain rfl : k = bs.length := by omega
      have hmid := PMid.start HF.out HC.out HA.out HD.out bs.length (bs.map (·.1))
      have HMID := Lib.hid hmid
      have HST := Lib.hid hst
      clear hst hmid HH
      go_wp2_with fail
      go_loopw [64] (fun i wr => ∃ (k : Nat) (ls : List LN), k ≤ bs.length ∧ i = .int .i64 k ∧ PMid F C c bs.length (bs.map (·.1)) k ls ∧ St base w0 wr (fbH (F.laned c C ls) ++ L)) (fun i wr => bs.length - (intOf i).toNat)
      case atStart => exact ⟨0, C.ls, Nat.zero_le _, rfl, HMID.out, by rw [laned_same HC.out]; exact HST.out⟩
      case round =>
        clear HMID HST
        obtain ⟨k, ls, hk, rfl, hmid, hst⟩ := hrel
        by_cases hlt : k < bs.length
        · obtain ⟨x, hx⟩ : ∃ x, bs[k]? = some x := ⟨bs[k], by simp [hlt]⟩
          have hxo := HBS.out.vs x (List.mem_of_getElem? hx)
          obtain ⟨j, hj⟩ := Int.eq_ofNat_of_zero_le hxo.2.1.nd0
          have hjn : j < ls.length := by have := hxo.2.1.nd1; have := hmid.len; omega
          obtain ⟨l, hl⟩ : ∃ l, ls[j]? = some l := ⟨ls[j], by simp [hjn]⟩
          obtain ⟨b2, hb2⟩ := hmid.lr.pos (by omega)
          have hgk := laned_get (F := F) (C := C) (ls := ls) HC.out
          have hlo := hmid.each j l hl
          have hle := le_sum ls l (List.mem_of_getElem? hl)
          have hsum := hmid.sum
          have hlps := hlo.len
          obtain ⟨W, hW⟩ : ∃ W, W = wr.alloc (.cells (vCells x.1 (rowA x.2) (x.1.words.length + x.2.k)) 113) := ⟨_, rfl⟩
          obtain ⟨nb, hnb⟩ : ∃ n, n = wr.heap.size := ⟨_, rfl⟩
          have h1 : St base w0 W (fbH (F.laned c C ls) ++ ((nb, .cells (vCells x.1 (rowA x.2) (x.1.words.length + x.2.k)) 113 (0, 0)) :: L)) := by rw [hW, hnb]; exact (hst.alloc _).ac (fun y => by simp only [cnt_append, cnt_cons]; omega)
          have bc := fun (j : Nat) (hj : j < 9) => batch_cell HBB.out (fun p hp => List.mem_append_right (fbH (F.laned c C ls)) (HM.out p hp)) hst hx j hj
          have d0 := bc 0 (by decide)
          have d1 := bc 1 (by decide)
          have d2 := bc 2 (by decide)
          have d3 := bc 3 (by decide)
          have d4 := bc 4 (by decide)
          have d5 := bc 5 (by decide)
          have d6 := bc 6 (by decide)
          have d7 := bc 7 (by decide)
          have d8 := bc 8 (by decide)
          simp only [Nat.add_zero, List.getElem?_toArray, List.getElem?_cons_zero, List.getElem?_cons_succ] at d0 d1 d2 d3 d4 d5 d6 d7 d8
          -- what is read behind the box
          have e1 : W.cell? ⟨b, c * 7 + 2, none⟩ = some (.slice (some ⟨b2, 0, none⟩) ls.length (ls.length + C.lr.k)) := by
            have e := (CpAt.of h1 (r := (F.laned c C ls).cr) HB.out (fbR_cr _) hgk).a2
            rw [e]; simp [rowV, rowA, hb2]
          have e2 : ∀ q, W.cell? ⟨nb, q, none⟩ = (vCells x.1 (rowA x.2) (x.1.words.length + x.2.k))[q]? := fun q => h1.cells (List.mem_append_right _ List.mem_cons_self) q
          have e3 : W.cell? ⟨F.fb, 0, none⟩ = some (.int .i64 F.lines) := (fb_cells _ h1).1 0
          have e4 : W.cell? ⟨b2, x.1.node.toNat * 2, none⟩ = some (pP l.g.bp) := by
            rw [hj]
            have e := h1.recCell (enc := lnC) (s := 2) (fun _ => rfl) hb2 (lanes_mem hgk) (xs := ls) hl 0 (by decide)
            simpa using e
          have hj0 : 0 ≤ x.1.node := by omega
          have hj1 : x.1.node < (ls.length : Int) := by omega
          -- the call
          have hpost : ∀ W2, St base w0 W2 (fbH (F.laned c C ls) ++ ((nb, .cells (vCells x.1 (rowA x.2) (x.1.words.length + x.2.k)) 113 (0, 0)) :: L)) → ∀ R : Ending → World → Prop,
              (∀ r rv' w', GvOk (x.1, r) → RowOk rv' 9 (l.g.gs.length + 1) ((l.g.gs ++ [(x.1, r)]).flatMap gvC) → St base w0 w' (rowH l.pl 3 (ints l.ps) ++ laneM (F.laned c C ls) { C with ls := ls } c j l rv' (x.1, r) ((nb, .cells (vCells x.1 (rowA x.2) (x.1.words.length + x.2.k)) 113 (0, 0)) :: L)) → R (.returned (.int .i64 0)) w') →
              Calls Tryz.prog 79 #[pP l.g.bp, vVal x.1 (rowA x.2) (x.1.words.length + x.2.k), .int .i64 F.lines] W2 R := by
            intro W2 h2 R hR
            have h3 := lane_open hgk hl h2
            refine Post_calls l.g hlo.p.rv (by omega) x hxo.1.gv hxo.1.wl F.lines hxo.1.ok (by rw [hj]; exact hlo.nd.symm) (h3.ac (M := (l.g.bp, .cells (gpCells l.g) 111 (0, 0)) :: (rowH l.g.rv 113 (l.g.gs.flatMap gvC) ++ (rowH l.g.rw_ 22 (u64s l.g.ws) ++ (l.g.gs.flatMap gvH ++ (rowH l.pl 3 (ints l.ps) ++ (rowH C.lr 87 (ls.flatMap lnC) ++ (fbV (F.laned c C ls) { C with ls := ls } c j ++ ((nb, .cells (vCells x.1 (rowA x.2) (x.1.words.length + x.2.k)) 113 (0, 0)) :: L))))))))
              (fun y => by simp only [gpH, cnt_append, cnt_cons]; omega)) (fun p hp => by have := batch_words HM.out (List.mem_of_getElem? hx) p hp; simp [this]) R (fun r rv' w' q1 q2 q3 => hR r rv' w' q1 q2 (q3.ac (fun y => by simp only [laneM, cnt_append, cnt_cons]; omega)))
          have hread := fun (rv : Rw) (xx : GV) (X : List Blk) (w' : World) (h : St base w0 w' (X ++ laneM (F.laned c C ls) { C with ls := ls } c j l rv xx ((nb, .cells (vCells x.1 (rowA x.2) (x.1.words.length + x.2.k)) 113 (0, 0)) :: L))) => lane_read (C := { C with ls := ls }) hl hb2 h
          have hput := fun (rv pl : Rw) (xx : GV) (w' : World) h => lane_put (base := base) (w0 := w0) (w := w') (k := k) (rv := rv) (pl := pl) (x := xx) (M := L) (bx := (nb, .cells (vCells x.1 (rowA x.2) (x.1.words.length + x.2.k)) 113 (0, 0))) hgk hl hb2 h
          have hnext := fun (rv pl : Rw) (r : Rw) (hgv : GvOk (x.1, r)) hrv hpl => PMid.next (x' := (x.1, r)) (rv := rv) (pl := pl) hmid hn hlt hl hj rfl hgv hxo.1 hxo.2.2.1 hxo.2.2.2 (by simp [hx]) hrv hpl
          have hln : l.ps.length + 1 ≤ 1001 := by omega
          have hplo := hlo.pl
          have hjt : x.1.node.toNat = j := by omega
          have HW := Lib.hid hW
          have H1 := Lib.hid h1
          have HPO := Lib.hid hpost
          have HRD := Lib.hid hread
          have HPT := Lib.hid hput
          have HNX := Lib.hid hnext
          have HPL := Lib.hid hplo
          have HJT := Lib.hid hjt
          have hltI : (k : Int) < (bs.length : Int) := by omega
          clear hW h1 hpost hread hput hnext hplo hst hmid bc hx hxo hl hgk hlo hle hsum hlps hb2 hj hjn hjt
          subst hnb
          go_wp2_with fail
          rw [← HW.out]
          go_quiet (fail)
          go_wp2_with fail
          refine wp_still_tail 9 (by kernel_rfl) (by kernel_rfl) ?_
          simp only [List.take_succ_cons, List.take_zero, List.drop_succ_cons, List.drop_zero]
          repeat still_step
          refine wpStill_nil ?_
          clear e1 e2 e3 e4 d0 d1 d2 d3 d4 d5 d6 d7 d8
          go_wp2_with fail
          refine HPO.out _ ((H1.out.drewN nq).drew) _ ?_
          intro r rv' w5 hgv hrv h5
          have h6 := HRD.out _ _ _ _ h5
          have c6 := h6.1
          rw [← HJT.out] at c6
          have H5 := Lib.hid h5
          have HGV := Lib.hid hgv
          have HRV := Lib.hid hrv
          clear hgv hrv h5 h6 HPO H1 HW
          go_wp2_with (at_builtin; refine wp_append1 elem_int rfl _ _ rfl l.pl l.ps.length _ rfl HPL.out H5.out (.int .i64 k) rfl rfl (by omega) ?_)
          intro pl' w7 hpl h7 _ _
          have e1 : ints l.ps ++ [Value.int .i64 k] = ints (l.ps ++ [(k : Int)]) := by simp
          rw [e1] at hpl h7
          obtain ⟨c7, f7⟩ := HRD.out _ _ _ _ h7
          have h8 := HPT.out _ _ _ _ h7
          have h9 := HNX.out rv' pl' r HGV.out HRV.out hpl
          rw [← HJT.out] at c7 h8
          have H8 := Lib.hid h8
          have H9 := Lib.hid h9
          clear h7 hpl h8 h9 e1 c6 HRD HPT HNX H5
          go_wp2
          go_roundw
          case rel => ((repeat apply Exists.intro (α := Value)); (first | refine ⟨?_, rfl⟩ | skip); (all_goals first | exact undef | skip)); exact ⟨k + 1, _, by omega, by go_num, H9.out, by rw [HJT.out] at H8 ⊢; rw [laned_laned] at H8; exact H8.out⟩
          case measure => simp [intOf]; omega
        · obtain rfl : k = bs.length := by omega
          obtain ⟨⟨a0, a1, a2, a3, a4, a5, a6, fr⟩, hbr, h9⟩ := post_ends HF.out HC.out HD.out HB.out hst hn
          have hok := hmid.done HF.out HC.out HA.out hn hn0 hbr
          have hpu := posted_pure (vs := bs.map (·.1)) (br := ⟨some wr.heap.size, 0, []⟩) HC.out (by rw [List.length_map]; exact hmid)
          rw [List.length_map] at hpu
          have h10 := HR.out _ _ hok rfl hpu h9
          have H10 := Lib.hid h10
          have hmk := make_dn bs.length (by omega)
          clear hst hmid hbr h9 hok hpu h10 a0 a1 a2
          go_wp2
          exact H10.out
end Go.Proofs.YtaojipegpjolcaaGreat
set_option linter.unusedVariables false
set_option linter.unusedSimpArgs false
namespace Go.Proofs.YtaojipegpjolcaaGreat
open Go.RowKit Go.Sort Go.Proofs.BodegaHeap
variable {base : Nat} {w0 w : World} {L : List Blk}

theorem flat_orC (os : List GP) : os.flatMap orC = (os.map (fun g => (some ⟨g.bp, 0, none⟩ : Option Addr))).map encP := by
  induction os with
  | nil => rfl
  | cons g tl ih => rw [List.flatMap_cons, ih]; rfl
theorem eraseIdx_map {α β : Type} (f : α → β) (xs : List α) (i : Nat) : (xs.map f).eraseIdx i = (xs.eraseIdx i).map f := by
  induction xs generalizing i with
  | nil => rfl
  | cons x tl ih => cases i with
    | zero => rfl
    | succ i => simp [ih]
/-- Without orphan i. -/
def FB.dropped (F : FB) (r : Rw) (i : Nat) : FB := { F with orr := r, os := F.os.eraseIdx i }

set_option maxHeartbeats 1600000 in
theorem DropOrphan_yes (F : FB) (hr : RowOk F.orr 1 F.os.length (F.os.flatMap orC)) (hl : F.os.length ≤ 30) (i : Nat) (g : GP) (hi : F.os[i]? = some g) (h : St base w0 w (fbH F ++ L)) (R : Ending → World → Prop)
    (hR : ∀ r w', RowOk r 1 (F.os.eraseIdx i).length ((F.os.eraseIdx i).flatMap orC) → St base w0 w' (fbH (F.dropped r i) ++ L) → R (.returned (.bool true)) w') :
    Calls Tryz.prog 52 #[fP F, .int .i64 i] w R := by
  have hil : i < F.os.length := (List.getElem?_eq_some_iff.1 hi).1
  obtain ⟨b, hb⟩ := hr.pos (by omega)
  have hrv : rowV F.orr F.os.length = .slice (some ⟨b, 0, none⟩) F.os.length (F.os.length + F.orr.k) := by simp [rowV, rowA, hb]
  have h1 : St base w0 w (rowH F.orr 85 ((F.os.map (fun g => (some ⟨g.bp, 0, none⟩ : Option Addr))).map encP) ++ ((F.fb, .cells (fbCells F) 76 (0, 0)) :: (rowH F.nr 45 (F.ns.flatMap nodeC) ++ (F.ns.flatMap nodeH ++ (rowH F.cr 84 (F.cs.flatMap cpC) ++ (F.cs.flatMap cpH ++ (F.os.flatMap gpH ++ L))))))) := by
    rw [← flat_orC]; exact h.ac (fun y => by simp only [cnt_append, cnt_cons, cnt_nil]; omega)
  have hD := fun R => Delete_calls (R := R) F.orr (F.os.map (fun g => (some ⟨g.bp, 0, none⟩ : Option Addr))) (by rw [← flat_orC]; simpa using hr) i (by simpa using hil) h1
  have hfin : ∀ r w', RowOk r 1 (F.os.length - 1) (((F.os.map (fun g => (some ⟨g.bp, 0, none⟩ : Option Addr))).eraseIdx i).map encP) → St base w0 w' (rowH r 85 (((F.os.map (fun g => (some ⟨g.bp, 0, none⟩ : Option Addr))).eraseIdx i).map encP) ++ ((F.fb, .cells (fbCells F) 76 (0, 0)) :: (rowH F.nr 45 (F.ns.flatMap nodeC) ++ (F.ns.flatMap nodeH ++ (rowH F.cr 84 (F.cs.flatMap cpC) ++ (F.cs.flatMap cpH ++ (F.os.flatMap gpH ++ L))))))) →
      (∀ k, w'.cell? ⟨F.fb, k, none⟩ = (fbCells F)[k]?) ∧ (∀ k, w'.frozen? ⟨F.fb, k, none⟩ = false) ∧ R (.returned (.bool true)) (w'.setCell ⟨F.fb, 3, none⟩ (rowV r (F.os.length - 1))) := by
    intro r w' hr' h2
    rw [eraseIdx_map, ← flat_orC] at hr' h2
    have hlen : (F.os.eraseIdx i).length = F.os.length - 1 := by simp [List.length_eraseIdx, hil]
    have h3 : St base w0 w' ((F.fb, .cells (fbCells F) 76 (0, 0)) :: (rowH r 85 ((F.os.eraseIdx i).flatMap orC) ++ (rowH F.nr 45 (F.ns.flatMap nodeC) ++ (F.ns.flatMap nodeH ++ (rowH F.cr 84 (F.cs.flatMap cpC) ++ (F.cs.flatMap cpH ++ (F.os.flatMap gpH ++ L))))))) := h2.ac (fun y => by simp only [cnt_append, cnt_cons, cnt_nil]; omega)
    refine ⟨fun k => h3.cells (t := 76) (fr := (0, 0)) List.mem_cons_self k, fun k => h3.frozen (cs := fbCells F) (t := 76) List.mem_cons_self k, hR r _ (by rw [hlen]; exact hr') ?_⟩
    have h4 := h3.set 3 (rowV r (F.os.length - 1))
    have e4 : (fbCells F).setIfInBounds 3 (rowV r (F.os.length - 1)) = fbCells (F.dropped r i) := by simp [fbCells, FB.dropped, hlen]
    rw [e4] at h4
    refine St.drop (L := gpH g) (h4.ac (fun y => ?_))
    have e5 := cnt_flat_get gpH y F.os i g hi
    simp only [fbH, fbR, FB.dropped, gpH, cnt_append, cnt_cons, cnt_nil] at *
    omega
  rw [List.length_map, hrv] at hD
  obtain ⟨c, f⟩ := fb_cells F h
  have c1 : ∀ k, w.cell? ⟨F.fb, k, none⟩ = (#[.int .i64 F.lines, rowV F.nr F.ns.length, rowV F.cr F.cs.length, .slice (some ⟨b, 0, none⟩) F.os.length (F.os.length + F.orr.k)] : Array Value)[k]? := by
    intro k; rw [c k]; unfold fbCells; rw [hrv]
  have hiI : (i : Int) < (F.os.length : Int) := by omega
  have HD := Lib.hid hD
  have HF := Lib.hid hfin
  clear h h1 c f hD hfin hr hi hrv hb hR
  go_enter Tryz.func52, Tryz.ntmps52
  go_wp2_with fail
  refine HD.out _ ?_
  intro r w' hr' h2
  obtain ⟨c2, f2, q⟩ := HF.out r w' hr' h2
  have Q := Lib.hid q
  clear h2 hr' HD HF q c1
  go_wp2_with fail
  exact Q.out

set_option maxHeartbeats 800000 in
theorem DropOrphan_no (F : FB) (hl : F.os.length ≤ 30) (i : Nat) (hi : F.os.length ≤ i) (hi2 : i ≤ 1000000) (h : St base w0 w (fbH F ++ L)) :
    Calls Tryz.prog 52 #[fP F, .int .i64 i] w fun e w' => e = .returned (.bool false) ∧ w' = w := by
  obtain ⟨c, f⟩ := fb_cells F h
  have hiI : (F.os.length : Int) ≤ (i : Int) := by omega
  clear h f
  go_enter Tryz.func52, Tryz.ntmps52
  go_wp2
  go_ret
  exact ⟨rfl, rfl⟩
end Go.Proofs.YtaojipegpjolcaaGreat
set_option linter.unusedVariables false
set_option linter.unusedSimpArgs false
namespace Go.Proofs.YtaojipegpjolcaaGreat
open Go.RowKit Go.Sort Go.Proofs.BodegaHeap
variable {base : Nat} {w0 w : World} {L : List Blk}

/-- All of a fabric but orphan i and node j. -/
abbrev fbZ (F : FB) (i j : Nat) : List Blk :=
  rowH F.nr 45 (F.ns.flatMap nodeC) ++ ((F.ns.eraseIdx j).flatMap nodeH ++ (rowH F.cr 84 (F.cs.flatMap cpC) ++ (F.cs.flatMap cpH ++ (rowH F.orr 85 (F.os.flatMap orC) ++ (F.os.eraseIdx i).flatMap gpH))))
theorem or_open {F : FB} {i j : Nat} {g : GP} {x : ND} (hi : F.os[i]? = some g) (hx : F.ns[j]? = some x) (h : St base w0 w (fbH F ++ L)) :
    St base w0 w (gpH g ++ (ndH x.bn x.bw x.N ++ ((F.fb, .cells (fbCells F) 76 (0, 0)) :: (fbZ F i j ++ L)))) := by
  refine h.ac (fun y => ?_)
  have e1 := cnt_flat_get gpH y F.os i g hi
  have e3 := cnt_flat_get nodeH y F.ns j x hx
  have e4 : cnt y (ndH x.bn x.bw x.N) = cnt y (nodeH x) := rfl
  simp only [fbH, fbR, fbZ, gpH, cnt_append, cnt_cons, cnt_nil] at *
  omega
def FB.orphed (F : FB) (i j : Nat) (g' : GP) (x : ND) (N' : Nd) : FB := { F with ns := F.ns.set j { x with N := N' }, os := F.os.set i g' }
theorem or_close {F : FB} {i j : Nat} {g g' : GP} {x : ND} {N' : Nd} (hi : F.os[i]? = some g) (hx : F.ns[j]? = some x) (hbp : g'.bp = g.bp)
    (h : St base w0 w (gpH g' ++ (ndH x.bn x.bw N' ++ ((F.fb, .cells (fbCells F) 76 (0, 0)) :: (fbZ F i j ++ L))))) : St base w0 w (fbH (F.orphed i j g' x N') ++ L) := by
  have hil : i < F.os.length := (List.getElem?_eq_some_iff.1 hi).1
  have hxl : j < F.ns.length := (List.getElem?_eq_some_iff.1 hx).1
  have hc : fbCells (F.orphed i j g' x N') = fbCells F := by simp [fbCells, FB.orphed]
  have hn : (F.ns.set j { x with N := N' }).flatMap nodeC = F.ns.flatMap nodeC := flatMap_set_same nodeC F.ns j x _ hx rfl
  have ho : (F.os.set i g').flatMap orC = F.os.flatMap orC := flatMap_set_same orC F.os i g _ hi (by simp [orC, hbp])
  refine h.ac (fun y => ?_)
  have e2 := cnt_flat_set gpH y F.os i g' hil
  have e3 := cnt_flat_set nodeH y F.ns j { x with N := N' } hxl
  have e4 : cnt y (ndH x.bn x.bw N') = cnt y (nodeH { x with N := N' }) := rfl
  have e5 : fbH (F.orphed i j g' x N') = (F.fb, .cells (fbCells F) 76 (0, 0)) :: (rowH F.nr 45 (F.ns.flatMap nodeC) ++ ((F.ns.set j { x with N := N' }).flatMap nodeH ++ (rowH F.cr 84 (F.cs.flatMap cpC) ++ (F.cs.flatMap cpH ++ (rowH F.orr 85 (F.os.flatMap orC) ++ (F.os.set i g').flatMap gpH))))) := by
    simp only [fbH, fbR, hc]
    simp only [FB.orphed, hn, ho]
  rw [e5]
  simp only [fbZ, gpH, cnt_append, cnt_cons, cnt_nil] at *
  omega

theorem orphed_set {F : FB} (hF : FbOk F) {i j : Nat} {g g' : GP} {x : ND} {N' : Nd} (hi : F.os[i]? = some g) (hx : F.ns[j]? = some x) (hN : N'.words.length = x.N.words.length) (hbp : g'.bp = g.bp) (hp : PrOk F.lines F.ns.length g') (hne : g'.gs ≠ []) : FbOk (F.orphed i j g' x N') := by
  have h := hF.setNd hx hN
  have ho : (F.os.set i g').flatMap orC = F.os.flatMap orC := flatMap_set_same orC F.os i g _ hi (by simp [orC, hbp])
  exact ⟨h.l0, h.l1, h.n0, h.n1, h.c0, h.c1, h.nodes, h.nr, h.cr, h.cs, by simp only [FB.orphed, List.length_set, ho]; exact hF.orr, fun q hq => by
    rcases List.mem_or_eq_of_mem_set hq with hq | rfl
    · exact h.os q hq
    · simp only [FB.orphed, List.length_set]; exact ⟨hp, hne⟩, by simp only [FB.orphed, List.length_set]; exact hF.olen⟩
theorem orphed_drop {F : FB} (hF : FbOk F) {i j : Nat} {g g' : GP} {x : ND} {N' : Nd} {r : Rw} (hi : F.os[i]? = some g) (hx : F.ns[j]? = some x) (hN : N'.words.length = x.N.words.length) (hr : RowOk r 1 (F.os.eraseIdx i).length ((F.os.eraseIdx i).flatMap orC)) : FbOk ((F.orphed i j g' x N').dropped r i) := by
  have h := hF.setNd hx hN
  have e : (F.os.set i g').eraseIdx i = F.os.eraseIdx i := List.eraseIdx_set_eq
  exact ⟨h.l0, h.l1, h.n0, h.n1, h.c0, h.c1, h.nodes, h.nr, h.cr, h.cs, by simp only [FB.dropped, FB.orphed, e]; exact hr, fun q hq => by
    simp only [FB.dropped, FB.orphed, e] at hq
    exact h.os q (List.mem_of_mem_eraseIdx hq), by
      simp only [FB.dropped, FB.orphed, e]
      have := hF.olen
      have : (F.os.eraseIdx i).length ≤ F.os.length := by rw [List.length_eraseIdx]; split <;> omega
      omega⟩
/-- An orphan dropped. -/
theorem FbOk.drop {F : FB} (hF : FbOk F) {i : Nat} {r : Rw} (hr : RowOk r 1 (F.os.eraseIdx i).length ((F.os.eraseIdx i).flatMap orC)) : FbOk (F.dropped r i) :=
  ⟨hF.l0, hF.l1, hF.n0, hF.n1, hF.c0, hF.c1, hF.nodes, hF.nr, hF.cr, hF.cs, hr, fun q hq => hF.os q (List.mem_of_mem_eraseIdx hq), by
      simp only [FB.dropped]
      have := hF.olen
      have : (F.os.eraseIdx i).length ≤ F.os.length := by rw [List.length_eraseIdx]; split <;> omega
      omega⟩

/-- One piece of an orphan. -/
def pStepOrphan (P : PF) (i : Nat) : PF :=
  match P.os[i]? with
  | some p =>
    match P.ns[p.nd.toNat]? with
    | some N =>
      if (pStepPair p N).1.vs.isEmpty then { P with ns := P.ns.set p.nd.toNat (pStepPair p N).2.1, os := P.os.eraseIdx i }
      else { P with ns := P.ns.set p.nd.toNat (pStepPair p N).2.1, os := P.os.set i (pStepPair p N).1 }
    | none => P
  | none => P
theorem pStepOrphan_pure {F : FB} {i j : Nat} {g g' : GP} {x : ND} {N' : Nd} {od : Option Dn} (hi : F.os[i]? = some g) (hj : g.nd = (j : Nat)) (hx : F.ns[j]? = some x) (hps : pStepPair g.pure x.N = (g'.pure, N', od)) :
    (g'.gs = [] → ∀ r, ((F.orphed i j g' x N').dropped r i).pure = pStepOrphan F.pure i) ∧ (g'.gs ≠ [] → (F.orphed i j g' x N').pure = pStepOrphan F.pure i) := by
  have e1 : F.pure.os[i]? = some g.pure := by simp [FB.pure, hi]
  have e2 : F.pure.ns[j]? = some x.N := by simp [FB.pure, hx]
  have e3 : g.pure.nd.toNat = j := by simp [GP.pure, hj]
  have e4 : (F.os.set i g').eraseIdx i = F.os.eraseIdx i := List.eraseIdx_set_eq
  have e : pStepOrphan F.pure i = if g'.pure.vs.isEmpty then { F.pure with ns := F.pure.ns.set j N', os := F.pure.os.eraseIdx i } else { F.pure with ns := F.pure.ns.set j N', os := F.pure.os.set i g'.pure } := by
    unfold pStepOrphan
    rw [e1]
    simp only
    rw [e3, e2]
    simp only
    rw [hps]
  rw [e]
  refine ⟨fun h r => ?_, fun h => ?_⟩
  · rw [if_pos (by simp [GP.pure, h])]
    simp only [FB.pure, FB.dropped, FB.orphed, List.map_set, e4, eraseIdx_map]
  · rw [if_neg (by simp [GP.pure, h])]
    simp only [FB.pure, FB.orphed, List.map_set]

set_option maxRecDepth 100000 in
set_option maxHeartbeats 4000000 in
theorem stepOrphan_calls (F : FB) (hF : FbOk F) (i : Nat) (g : GP) (hi : F.os[i]? = some g) (h : St base w0 w (fbH F ++ L)) (R : Ending → World → Prop)
    (hR : ∀ (F' : FB) w', FbOk F' → F'.fb = F.fb → F'.pure = pStepOrphan F.pure i → St base w0 w' (fbH F' ++ L) → R (.returned (.bool true)) w') :
    Calls Tryz.prog 39 #[fP F, .int .i64 i] w R := by
  have hil : i < F.os.length := (List.getElem?_eq_some_iff.1 hi).1
  have hn5 := hF.n1
  have hl98 := hF.l0
  have hos := hF.os g (List.mem_of_getElem? hi)
  obtain ⟨j, hj⟩ := Int.eq_ofNat_of_zero_le hos.1.nd0
  have hjl : j < F.ns.length := by have := hos.1.nd1; omega
  obtain ⟨x, hx⟩ : ∃ x, F.ns[j]? = some x := ⟨F.ns[j], by simp [hjl]⟩
  obtain ⟨b, hb⟩ := hF.orr.pos (by omega)
  obtain ⟨b3, hb3⟩ := hF.nr.pos (by omega)
  have hol : F.os.length ≤ 30 := by have := hF.olen; omega
  obtain ⟨c, f⟩ := fb_cells F h
  have c1 : ∀ k, w.cell? ⟨F.fb, k, none⟩ = (#[.int .i64 F.lines, .slice (some ⟨b3, 0, none⟩) F.ns.length (F.ns.length + F.nr.k), rowV F.cr F.cs.length, .slice (some ⟨b, 0, none⟩) F.os.length (F.os.length + F.orr.k)] : Array Value)[k]? := by
    intro k; rw [c k]; unfold fbCells
    rw [show rowV F.nr F.ns.length = .slice (some ⟨b3, 0, none⟩) F.ns.length (F.ns.length + F.nr.k) by simp [rowV, rowA, hb3], show rowV F.orr F.os.length = .slice (some ⟨b, 0, none⟩) F.os.length (F.os.length + F.orr.k) by simp [rowV, rowA, hb]]
  have c2 : w.cell? ⟨b, i, none⟩ = some (pP g.bp) := by
    have e := h.recCell (enc := orC) (s := 1) (fun _ => rfl) hb (fun p hp => ors_mem p hp) hi 0 (by decide)
    simpa using e
  have c3 : w.cell? ⟨b3, j, none⟩ = some (nP x.bn) := by
    have e := h.recCell (enc := nodeC) (s := 1) (fun _ => rfl) hb3 (fbR_nr F) hx 0 (by decide)
    simpa using e
  have hpn := PairNode_calls g (gp_cells g h.drew (or_mem (List.mem_of_getElem? hi)))
  rw [hj] at hpn
  have h2 := or_open hi hx h.drew
  have hnl := hF.nodes x (List.mem_of_getElem? hx)
  have hstep := fun R hR => Step_pair g F.lines F.ns.length hos.1 hos.2 x.bn x.bw x.N hnl (by omega) h2 R hR
  have hfin : ∀ (g' : GP) (N' : Nd) (od : Option DV) w', g'.bp = g.bp → PrOk F.lines F.ns.length g' → pStepPair g.pure x.N = (g'.pure, N', od.map (·.1)) → N'.words.length = x.N.words.length →
      St base w0 w' (gpH g' ++ (odH od ++ (ndH x.bn x.bw N' ++ ((F.fb, .cells (fbCells F) 76 (0, 0)) :: (fbZ F i j ++ L))))) →
      (Calls Tryz.prog 36 #[pP g.bp] w' fun e w'' => e = .returned (.int .i64 (g'.gs.length : Nat)) ∧ w'' = w') ∧
      (g'.gs ≠ [] → R (.returned (.bool true)) w') ∧ (g'.gs = [] → ∀ R', (∀ w'', R (.returned (.bool true)) w'' → R' (.returned (.bool true)) w'') → Calls Tryz.prog 52 #[fP F, .int .i64 i] w' R') := by
    intro g' N' od w' hbp hpr hps hnw h3
    have h4 : St base w0 w' (fbH (F.orphed i j g' x N') ++ L) := or_close hi hx hbp (St.drop (L := odH od) (h3.ac (fun y => by simp only [cnt_append, cnt_cons]; omega)))
    have hpure := pStepOrphan_pure hi hj hx hps
    have hget : (F.orphed i j g' x N').os[i]? = some g' := by simp [FB.orphed, hil]
    have hlen : (F.orphed i j g' x N').os.length = F.os.length := by simp [FB.orphed]
    refine ⟨?_, fun hne => hR _ w' (orphed_set hF hi hx hnw hbp hpr hne) rfl (hpure.2 hne) h4, fun he R' hR' => ?_⟩
    · rw [← hbp]
      exact Pending_calls g' (gp_cells g' h4 (or_mem (List.mem_of_getElem? hget)))
    · refine DropOrphan_yes (F.orphed i j g' x N') ?_ (by rw [hlen]; exact hol) i g' hget h4 R' (fun r w'' hr h5 => hR' w'' (hR _ w'' (orphed_drop hF hi hx hnw ?_) rfl (hpure.1 he r) h5))
      · have ho : (F.os.set i g').flatMap orC = F.os.flatMap orC := flatMap_set_same orC F.os i g _ hi (by simp [orC, hbp])
        rw [hlen]; simp only [FB.orphed, ho]; exact hF.orr
      · have e4 : (F.os.set i g').eraseIdx i = F.os.eraseIdx i := List.eraseIdx_set_eq
        simp only [FB.orphed, e4] at hr; exact hr
  have hiI : (i : Int) < (F.os.length : Int) := by omega
  have hjI : (j : Int) < (F.ns.length : Int) := by omega
  have HP := Lib.hid hpn
  have HS := Lib.hid hstep
  have HFN := Lib.hid hfin
  clear h h2 c f hF hi hx hb hb3 hos hj hnl hstep hfin hpn hR
  go_enter Tryz.func39, Tryz.ntmps39
  go_wp2_with fail
  refine wp_still_tail 9 (by kernel_rfl) (by kernel_rfl) ?_
  simp only [List.take_succ_cons, List.take_zero, List.drop_succ_cons, List.drop_zero]
  repeat still_step
  still_call HP.out
  repeat still_step
  refine wpStill_nil ?_
  go_wp2_with fail
  refine HS.out _ ?_
  intro g' N' od w' hbp hpr hps hnw hdv hgl h3
  obtain ⟨k1, k2, k3⟩ := HFN.out g' N' od w' hbp hpr hps hnw h3
  have K1 := Lib.hid k1
  have K2 := Lib.hid k2
  have K3 := Lib.hid k3
  clear h3 hbp hpr hps hnw hdv hgl k1 k2 k3 HS HFN c1 c2 c3 HP
  go_wp2_with fail
  (refine Calls.mono K1.out ?_; intro e w' hh; rw [hh.1, hh.2]; clear hh w' e)
  by_cases he : g'.gs = []
  · have hz : g'.gs.length = 0 := by rw [he]; rfl
    have K3' := Lib.hid (K3.out he)
    clear he K1 K2 K3
    rw [hz]
    clear hz
    go_wp2_with fail
    refine K3'.out _ ?_
    intro w'' hw
    go_wp2
    exact hw
  · have hz : 0 < g'.gs.length := List.length_pos_iff.2 he
    have hzI : ((g'.gs.length : Int) == 0) = false := by simp; omega
    have K2' := Lib.hid (K2.out he)
    clear he K1 K2 K3
    go_wp2
    exact K2'.out

set_option maxRecDepth 100000 in
set_option maxHeartbeats 4000000 in
theorem Step_orphan (F : FB) (hF : FbOk F) (i : Nat) (g : GP) (a b : Int) (hi : F.os[i]? = some g) (h : St base w0 w (fbH F ++ L)) (R : Ending → World → Prop)
    (hR : ∀ (F' : FB) w', FbOk F' → F'.fb = F.fb → F'.pure = pStepOrphan F.pure i → St base w0 w' (fbH F' ++ L) → R (.returned (.bool true)) w') :
    Calls Tryz.prog 22 #[fP F, chV ((i : Int), a, b)] w R := by
  have hS := fun R hR => stepOrphan_calls F hF i g hi (h.junk (.cells #[.int .i64 i, .int .i64 a, .int .i64 b] 51)) R hR
  have hil : i < F.os.length := (List.getElem?_eq_some_iff.1 hi).1
  have HS := Lib.hid hS
  have HR := Lib.hid hR
  have hiI : (0 : Int) ≤ (i : Int) := by omega
  have hol : F.os.length ≤ 30 := by have := hF.olen; omega
  clear hS h hF hi hR
  go_enter Tryz.func22, Tryz.ntmps22
  go_wp2_with fail
  refine HS.out _ ?_
  intro F' w' h1 h2 h3 h4
  have H9 := Lib.hid (HR.out F' w' h1 h2 h3 h4)
  clear h1 h2 h3 h4 HS HR
  go_wp2
  exact H9.out
end Go.Proofs.YtaojipegpjolcaaGreat
set_option linter.unusedVariables false
set_option linter.unusedSimpArgs false
namespace Go.Proofs.YtaojipegpjolcaaGreat
open Go.RowKit Go.Sort Go.Proofs.BodegaHeap
variable {base : Nat} {w0 w : World} {L : List Blk}

/-- The pairs of lanes that have pending verbs. -/
def pend (ls : List LN) : List GP := (ls.filter (fun l => !l.g.gs.isEmpty)).map (·.g)
theorem pend_len (ls : List LN) : (pend ls).length ≤ ls.length := by simp only [pend, List.length_map]; exact List.length_filter_le _ _
theorem pend_snoc (ls : List LN) (m : Nat) (l : LN) (h : ls[m]? = some l) : pend (ls.take (m + 1)) = pend (ls.take m) ++ (if l.g.gs.isEmpty then [] else [l.g]) := by
  have hm := (List.getElem?_eq_some_iff.1 h)
  rw [List.take_succ_eq_append_getElem hm.1, hm.2]
  unfold pend
  rw [List.filter_append, List.map_append]
  congr 1
  cases hh : l.g.gs.isEmpty <;> simp [hh]

def CP.dead (C : CP) : CP := { C with alive := false, lr := nilRw, ls := [], br := nilRw, ds := [], waiting := 0 }
def FB.died (F : FB) (c : Nat) (C : CP) (r : Rw) : FB := { F with cs := F.cs.set c C.dead, orr := r, os := F.os ++ pend C.ls }
theorem filter_dead (cs : List CP) (k : Nat) (C : CP) (hk : cs[k]? = some C) (ha : C.alive = true) : ((cs.set k C.dead).filter (·.alive)).length + 1 = (cs.filter (·.alive)).length := by
  induction cs generalizing k with
  | nil => simp at hk
  | cons c tl ih =>
    cases k with
    | zero => simp at hk; subst hk; simp [CP.dead, List.filter_cons, ha]
    | succ k => simp at hk; have := ih k hk; simp only [List.set_cons_succ, List.filter_cons]; split <;> (try simp only [List.length_cons]) <;> omega
theorem died_ok {F : FB} (hF : FbOk F) {c : Nat} {C : CP} (hc : F.cs[c]? = some C) (ha : C.alive = true) {r : Rw} (hr : RowOk r 1 (F.os ++ pend C.ls).length ((F.os ++ pend C.ls).flatMap orC)) : FbOk (F.died c C r) := by
  have hC := hF.cs c C hc
  have hd : CpOk F.lines F.ns.length c C.dead := ⟨nilRw_ok 2, fun i l hl => (by simp [CP.dead] at hl), nilRw_ok 2, fun d hd => (by cases hd), by simp [CP.dead], fun _ => rfl, fun e => (by cases e), fun _ => ⟨rfl, rfl⟩, rfl, by simp [CP.dead]⟩
  refine ⟨hF.l0, hF.l1, hF.n0, hF.n1, by simp only [FB.died, List.length_set]; exact hF.c0, by simp only [FB.died, List.length_set]; exact hF.c1, hF.nodes, hF.nr, by simp only [FB.died, List.length_set]; exact RowOk.setRec (enc := cpC) (s := 7) (fun _ => rfl) hF.cr c C.dead, ?_, hr, ?_, ?_⟩
  · intro i D hD
    simp only [FB.died] at hD
    by_cases hi : i = c
    · subst hi
      rw [List.getElem?_set_self (List.getElem?_eq_some_iff.1 hc).1] at hD
      cases hD
      exact hd
    · rw [List.getElem?_set_ne (Ne.symm hi)] at hD
      exact hF.cs i D hD
  · intro g hg
    simp only [FB.died, List.mem_append] at hg
    rcases hg with hg | hg
    · exact hF.os g hg
    · simp only [pend, List.mem_map, List.mem_filter] at hg
      obtain ⟨l, ⟨hl, hne⟩, rfl⟩ := hg
      obtain ⟨i, hi⟩ := List.getElem?_of_mem hl
      exact ⟨(hC.ls i l hi).p, by simpa using hne⟩
  · simp only [FB.died, List.length_append]
    have h1 := hF.olen
    have h2 := pend_len C.ls
    have h3 := hC.up ha
    have h4 := hF.n1
    have h5 := filter_dead F.cs c C hc ha
    omega
/-- What a list of lanes owns, parted: the pending pairs, and the rest. -/
def restH : List LN → List Blk
  | [] => []
  | l :: tl => (if l.g.gs.isEmpty then gpH l.g else []) ++ (rowH l.pl 3 (ints l.ps) ++ restH tl)
theorem cnt_rest (y : Blk) (ls : List LN) : cnt y (ls.flatMap lnH) = cnt y ((pend ls).flatMap gpH) + cnt y (restH ls) := by
  induction ls with
  | nil => simp [pend, restH, cnt_nil]
  | cons l tl ih =>
    have e : pend (l :: tl) = (if l.g.gs.isEmpty then [] else [l.g]) ++ pend tl := by
      unfold pend
      rw [List.filter_cons]
      cases l.g.gs.isEmpty <;> simp
    rw [e, List.flatMap_append, List.flatMap_cons, restH]
    simp only [lnH, cnt_append] at ih ⊢
    rw [ih]
    cases l.g.gs.isEmpty <;> simp only [if_true, Bool.false_eq_true, if_false, List.flatMap_cons, List.flatMap_nil, List.append_nil, cnt_nil] <;> omega

/-- A fabric whose row of orphans holds more than its orphans. -/
abbrev fbO (F : FB) (r : Rw) (os : List GP) : List Blk :=
  (F.fb, .cells (#[.int .i64 F.lines, rowV F.nr F.ns.length, rowV F.cr F.cs.length, rowV r os.length] : Array Value) 76 (0, 0)) :: (rowH r 85 (os.flatMap orC) ++ (rowH F.nr 45 (F.ns.flatMap nodeC) ++ (F.ns.flatMap nodeH ++ (rowH F.cr 84 (F.cs.flatMap cpC) ++ (F.cs.flatMap cpH ++ F.os.flatMap gpH)))))
theorem fbO_start (F : FB) (h : St base w0 w (fbH F ++ L)) : St base w0 w (fbO F F.orr F.os ++ L) := h.ac (fun y => by simp only [fbH, fbR, fbCells, fbO, cnt_append, cnt_cons]; omega)
theorem fbO_cr {F : FB} {r : Rw} {os : List GP} : ∀ p, p ∈ rowH F.cr 84 (F.cs.flatMap cpC) → p ∈ fbO F r os ++ L := by
  intro p hp; simp only [fbO, List.mem_append, List.mem_cons]; simp [hp]
theorem fbO_lanes {F : FB} {r : Rw} {os : List GP} {i : Nat} {C : CP} (hC : F.cs[i]? = some C) : ∀ p, p ∈ cpH C → p ∈ fbO F r os ++ L := by
  intro p hp
  have h1 : p ∈ F.cs.flatMap cpH := List.mem_flatMap.2 ⟨C, List.mem_of_getElem? hC, hp⟩
  simp only [fbO, List.mem_append, List.mem_cons]; simp [h1]
theorem die_close {F : FB} {c : Nat} {C : CP} (hc : F.cs[c]? = some C) {b : Nat} (hb : F.cr.blk = some b) {r : Rw} (h : St base w0 w (fbO F r (F.os ++ pend C.ls) ++ L)) :
    St base w0 ((((w.setCell ⟨b, c * 7, none⟩ (.bool false)).setCell ⟨b, c * 7 + 2, none⟩ (.slice none 0 0)).setCell ⟨b, c * 7 + 3, none⟩ (.slice none 0 0)).setCell ⟨b, c * 7 + 4, none⟩ (.int .i64 0)) (fbH (F.died c C r) ++ L) := by
  have hil : c < F.cs.length := (List.getElem?_eq_some_iff.1 hc).1
  have h3 : St base w0 w (rowH F.cr 84 (F.cs.flatMap cpC) ++ ((F.fb, .cells (#[.int .i64 F.lines, rowV F.nr F.ns.length, rowV F.cr F.cs.length, rowV r (F.os ++ pend C.ls).length] : Array Value) 76 (0, 0)) :: (rowH r 85 ((F.os ++ pend C.ls).flatMap orC) ++ (rowH F.nr 45 (F.ns.flatMap nodeC) ++ (F.ns.flatMap nodeH ++ (F.cs.flatMap cpH ++ (F.os.flatMap gpH ++ L))))))) := h.ac (fun y => by simp only [cnt_append, cnt_cons, cnt_nil]; omega)
  have h4 := h3.setRec (enc := cpC) (s := 7) (fun _ => rfl) hb hc 0 (by decide) (.bool false) ({ C with alive := false } : CP) (by simp [cpC])
  have h5 := h4.setRec (enc := cpC) (s := 7) (fun _ => rfl) hb (show (F.cs.set c ({ C with alive := false } : CP))[c]? = some { C with alive := false } by simp [hil]) 2 (by decide) (.slice none 0 0) ({ C with alive := false, lr := nilRw, ls := [] } : CP) (by simp [cpC, rowV, rowA, nilRw])
  rw [List.set_set] at h5
  have h6 := h5.setRec (enc := cpC) (s := 7) (fun _ => rfl) hb (show (F.cs.set c ({ C with alive := false, lr := nilRw, ls := [] } : CP))[c]? = some { C with alive := false, lr := nilRw, ls := [] } by simp [hil]) 3 (by decide) (.slice none 0 0) ({ C with alive := false, lr := nilRw, ls := [], br := nilRw, ds := [] } : CP) (by simp [cpC, rowV, rowA, nilRw])
  rw [List.set_set] at h6
  have h7 := h6.setRec (enc := cpC) (s := 7) (fun _ => rfl) hb (show (F.cs.set c ({ C with alive := false, lr := nilRw, ls := [], br := nilRw, ds := [] } : CP))[c]? = some { C with alive := false, lr := nilRw, ls := [], br := nilRw, ds := [] } by simp [hil]) 4 (by decide) (.int .i64 0) C.dead (by simp [cpC, CP.dead])
  rw [List.set_set] at h7
  refine St.drop (L := rowH C.lr 87 (C.ls.flatMap lnC) ++ (restH C.ls ++ (rowH C.br 94 (C.ds.flatMap dnC) ++ C.ds.flatMap dnH))) (h7.ac (fun y => ?_))
  have e1 := cnt_flat_get cpH y F.cs c C hc
  have e2 := cnt_flat_set cpH y F.cs c C.dead hil
  have e3 := cnt_rest y C.ls
  have e4 : cnt y (cpH C.dead) = 0 := by simp only [cpH, CP.dead, rowH_nil, List.flatMap_nil, List.append_nil, cnt_nil]
  simp only [fbH, fbR, fbCells, FB.died, cpH, List.length_set, List.flatMap_append, cnt_append, cnt_cons] at *
  omega
def pDie (P : PF) (c : Nat) : PF :=
  match P.cs[c]? with
  | some C => if C.alive then { P with cs := P.cs.set c { C with alive := false, ls := [], ds := [], waiting := 0 }, os := P.os ++ (C.ls.filter (fun l => !l.p.vs.isEmpty)).map (·.p) } else P
  | none => P
theorem pend_pure (ls : List LN) : (pend ls).map GP.pure = ((ls.map LN.pure).filter (fun l => !l.p.vs.isEmpty)).map (·.p) := by
  induction ls with
  | nil => rfl
  | cons l tl ih =>
    have e : pend (l :: tl) = (if l.g.gs.isEmpty then [] else [l.g]) ++ pend tl := by
      unfold pend
      rw [List.filter_cons]
      cases l.g.gs.isEmpty <;> simp
    have e2 : l.pure.p.vs.isEmpty = l.g.gs.isEmpty := by cases hh : l.g.gs <;> simp [LN.pure, GP.pure, hh]
    rw [e, List.map_append, ih, List.map_cons, List.filter_cons, e2]
    cases l.g.gs.isEmpty <;> simp [LN.pure]
theorem died_pure {F : FB} {c : Nat} {C : CP} (hc : F.cs[c]? = some C) (ha : C.alive = true) (r : Rw) : (F.died c C r).pure = pDie F.pure c := by
  have e1 : F.pure.cs[c]? = some C.pure := by simp [FB.pure, hc]
  have e2 : C.pure.alive = true := ha
  unfold pDie
  rw [e1]
  simp only
  rw [if_pos e2]
  simp only [FB.pure, FB.died, List.map_set, List.map_append, pend_pure]
  simp [CP.pure, CP.dead]

set_option maxRecDepth 100000 in
set_option maxHeartbeats 4000000 in
theorem Die_calls (F : FB) (hF : FbOk F) (c : Nat) (C : CP) (hc : F.cs[c]? = some C) (ha : C.alive = true) (h : St base w0 w (fbH F ++ L)) (R : Ending → World → Prop)
    (hR : ∀ (F' : FB) w', FbOk F' → F'.fb = F.fb → F'.pure = pDie F.pure c → St base w0 w' (fbH F' ++ L) → R (.returned (.bool true)) w') :
    Calls Tryz.prog 51 #[fP F, .int .i64 c] w R := by
  have hcl : c < F.cs.length := (List.getElem?_eq_some_iff.1 hc).1
  obtain ⟨b, hb⟩ := hF.cr.pos (by omega)
  have hn0 := hF.n0
  have hC := hF.cs c C hc
  have hup := hC.up ha
  obtain ⟨b2, hb2⟩ := hC.lr.pos (by omega)
  have hAl := Alive_calls F hF c C hc h
  have hcl2 := client_calls F c hcl b hb hF.c1 h
  rw [ha] at hAl
  have a2 := (CpAt.of h hb (fbR_cr F) hc).a2
  rw [show rowV C.lr C.ls.length = .slice (some ⟨b2, 0, none⟩) C.ls.length (C.ls.length + C.lr.k) by simp [rowV, rowA, hb2]] at a2
  have HAL := Lib.hid hAl
  have HCL := Lib.hid hcl2
  have HH := Lib.hid (fbO_start F h)
  have HR := Lib.hid hR
  have HF := Lib.hid hF
  have HC := Lib.hid hc
  have HB := Lib.hid hb
  have HB2 := Lib.hid hb2
  have HA := Lib.hid ha
  have hln : C.ls.length ≤ 5 := by have := hF.n1; omega
  have hol : F.os.length ≤ 30 := by have := hF.olen; omega
  clear h hR hF hc hb hb2 ha hcl2 hAl hC hup
  go_enter Tryz.func51, Tryz.ntmps51
  go_wp2_with (first | (go_at_call 53; (refine Calls.mono HAL.out ?_; intro e w' hh; rw [hh.1, hh.2]; clear hh w' e)) | (go_at_call 40; (refine Calls.mono HCL.out ?_; intro e w' hh; rw [hh.1, hh.2]; clear hh w' e)))
  clear a2
  go_loopw [20] (fun i wr => ∃ (m : Nat) (r : Rw), m ≤ C.ls.length ∧ i = .int .i64 m ∧ RowOk r 1 (F.os ++ pend (C.ls.take m)).length ((F.os ++ pend (C.ls.take m)).flatMap orC) ∧ St base w0 wr (fbO F r (F.os ++ pend (C.ls.take m)) ++ L)) (fun i wr => C.ls.length - (intOf i).toNat)
  case atStart => exact ⟨0, F.orr, Nat.zero_le _, rfl, by simpa [pend] using HF.out.orr, by simpa [pend] using HH.out⟩
  case round =>
    clear HH
    obtain ⟨m, r, hm, rfl, hr, hst⟩ := hrel
    by_cases hlt : m < C.ls.length
    · obtain ⟨l, hl⟩ : ∃ l, C.ls[m]? = some l := ⟨C.ls[m], by simp [hlt]⟩
      have hsn := pend_snoc C.ls m l hl
      obtain ⟨os, hos⟩ : ∃ os, os = F.os ++ pend (C.ls.take m) := ⟨_, rfl⟩
      rw [← hos] at hr hst
      have hosl : os.length ≤ 35 := by
        rw [hos, List.length_append]
        have := pend_len (C.ls.take m)
        rw [List.length_take] at this
        omega
      obtain ⟨W, hW⟩ : ∃ W, W = wr.alloc (.cells #[pP l.g.bp, rowV l.pl l.ps.length] 87) := ⟨_, rfl⟩
      obtain ⟨nb, hnb⟩ : ∃ n, n = wr.heap.size := ⟨_, rfl⟩
      have h1 : St base w0 W ((nb, .cells #[pP l.g.bp, rowV l.pl l.ps.length] 87 (0, 0)) :: (fbO F r os ++ L)) := by rw [hW]; exact hst.allocAt nb hnb _
      have l0 := hst.recCell (enc := lnC) (s := 2) (fun _ => rfl) HB2.out (fun p hp => fbO_lanes HC.out p (List.mem_append_left _ hp)) hl 0 (by decide)
      have l1 := hst.recCell (enc := lnC) (s := 2) (fun _ => rfl) HB2.out (fun p hp => fbO_lanes HC.out p (List.mem_append_left _ hp)) hl 1 (by decide)
      simp only [Nat.add_zero, List.getElem?_cons_zero, List.getElem?_cons_succ] at l0 l1
      have hgp := Pending_calls l.g (gp_cells l.g h1 (fun p hp => List.mem_cons_of_mem _ (fbO_lanes HC.out p (List.mem_append_right _ (List.mem_append_left _ (List.mem_flatMap.2 ⟨l, List.mem_of_getElem? hl, List.mem_append_left _ hp⟩))))))
      have hltI : (m : Int) < (C.ls.length : Int) := by omega
      by_cases hgs : l.g.gs = []
      · have hz : l.g.gs.length = 0 := by rw [hgs]; rfl
        rw [hz] at hgp
        have hsn2 : F.os ++ pend (C.ls.take (m + 1)) = os := by rw [hsn, hgs, hos]; simp
        have HS := Lib.hid hsn2
        have HGP := Lib.hid hgp
        have H1 := Lib.hid h1.tail
        have HRW := Lib.hid hr
        have HW := Lib.hid hW
        clear hsn hsn2 hgp h1 hr hst hW hl hgs hz hos hnb
        go_wp2_with fail
        rw [← HW.out]
        (refine Calls.mono HGP.out ?_; intro e w' hh; rw [hh.1, hh.2]; clear hh w' e)
        go_wp2
        go_roundw
        case rel => ((repeat apply Exists.intro (α := Value)); (first | refine ⟨?_, rfl⟩ | skip); (all_goals first | exact undef | skip)); exact ⟨m + 1, r, by omega, by go_num, by rw [HS.out]; exact HRW.out, by rw [HS.out]; exact H1.out⟩
        case measure => simp [intOf]; omega
      · have hz : 0 < l.g.gs.length := List.length_pos_iff.2 hgs
        have hzI : (0 : Int) < (l.g.gs.length : Int) := by omega
        have hsn2 : F.os ++ pend (C.ls.take (m + 1)) = os ++ [l.g] := by rw [hsn, hos, if_neg (by simpa using hgs)]; simp
        have HS2 := Lib.hid hsn2
        have HGP := Lib.hid hgp
        have H1 := Lib.hid h1
        have HRW := Lib.hid hr
        have HW := Lib.hid hW
        clear hsn hsn2 hgp h1 hr hst hW hl hgs hz hos
        subst hnb
        go_wp2_with fail
        rw [← HW.out]
        (refine Calls.mono HGP.out ?_; intro e w' hh; rw [hh.1, hh.2]; clear hh w' e)
        go_wp2_with fail
        obtain ⟨WD, hWD⟩ : ∃ W', W' = W.drew := ⟨_, rfl⟩
        obtain ⟨KK, hKK⟩ : ∃ K : List Blk, K = [(F.fb, .cells (#[.int .i64 F.lines, rowV F.nr F.ns.length, rowV F.cr F.cs.length, rowV r os.length] : Array Value) 76 (0, 0)), (wr.heap.size, .cells #[pP l.g.bp, rowV l.pl l.ps.length] 87 (0, 0))] := ⟨_, rfl⟩
        have h4 : St base w0 WD ((wr.heap.size, .cells #[pP l.g.bp, rowV l.pl l.ps.length] 87 (0, 0)) :: (fbO F r os ++ L)) := by rw [hWD]; exact H1.out.drew
        have hg4 : ∀ W, Holds KK W → (∀ k, W.cell? ⟨F.fb, k, none⟩ = (#[.int .i64 F.lines, rowV F.nr F.ns.length, rowV F.cr F.cs.length, rowV r os.length] : Array Value)[k]?) ∧ (∀ k, W.frozen? ⟨F.fb, k, none⟩ = false) ∧ (∀ k, W.cell? ⟨wr.heap.size, k, none⟩ = (#[pP l.g.bp, rowV l.pl l.ps.length] : Array Value)[k]?) :=
          fun W hb => ⟨hb.cells (t := 76) (fr := (0, 0)) (by simp [hKK]), hb.frozen (t := 76) (cs := #[.int .i64 F.lines, rowV F.nr F.ns.length, rowV F.cr F.cs.length, rowV r os.length]) (by simp [hKK]), hb.cells (t := 87) (fr := (0, 0)) (by simp [hKK])⟩
        have hs4 : ∀ W M, St base w0 W M → (∀ p, p ∈ KK → p ∈ M) → Holds KK W := fun W M h hm => Holds.of h hm
        have hh := hs4 WD _ h4 (by rw [hKK]; intro p hp; simp only [List.mem_cons, List.not_mem_nil, or_false] at hp; rcases hp with rfl | rfl <;> simp)
        have HS := Lib.hid hs4
        have HG := Lib.hid hg4
        have HKK := Lib.hid hKK
        have H4 := Lib.hid h4
        have HWD := Lib.hid hWD
        clear h4 hg4 hs4 hKK hWD H1 l0 l1
        refine wp_region_T (S := Holds KK) [11] (by kernel_rfl) (by rw [← HWD.out]; exact hh) ?_
        rw [← HWD.out]
        refine wpAnyT_takeL (i := 0) (v := ?_) rfl (by kernel_rfl) (by kernel_rfl) (by kernel_rfl) (by kernel_rfl) (fun _ _ _ h => h) (Or.inl ⟨by rfl, ?_⟩) hh ?_
        rotate_left
        · intro wS hSw; have hGot := HG.out _ hSw; clear hSw; go_split_ands; go_simp; try with_reducible rfl
        try simp only [Act.put, List.setIfInBounds_toArray, List.set_cons_zero, List.set_cons_succ]
        refine wpAnyT_takeL (i := 1) (v := ?_) rfl (by kernel_rfl) (by kernel_rfl) (by kernel_rfl) (by kernel_rfl) (fun _ _ _ h => h) (Or.inl ⟨by rfl, ?_⟩) hh ?_
        rotate_left
        · intro wS hSw; have hGot := HG.out _ hSw; clear hSw; go_split_ands; go_simp; try with_reducible rfl
        try simp only [Act.put, List.setIfInBounds_toArray, List.set_cons_zero, List.set_cons_succ]
        refine wpAnyT_takeL (i := 2) (v := ?_) rfl (by kernel_rfl) (by kernel_rfl) (by kernel_rfl) (by kernel_rfl) (fun _ _ _ h => h) (Or.inl ⟨by rfl, ?_⟩) hh ?_
        rotate_left
        · intro wS hSw; have hGot := HG.out _ hSw; clear hSw; go_split_ands; go_simp; try with_reducible rfl
        try simp only [Act.put, List.setIfInBounds_toArray, List.set_cons_zero, List.set_cons_succ]
        refine wpAnyT_takeL (i := 3) (v := ?_) rfl (by kernel_rfl) (by kernel_rfl) (by kernel_rfl) (by kernel_rfl) (fun _ _ _ h => h) (Or.inl ⟨by rfl, ?_⟩) hh ?_
        rotate_left
        · intro wS hSw; have hGot := HG.out _ hSw; clear hSw; go_split_ands; go_simp; try with_reducible rfl
        try simp only [Act.put, List.setIfInBounds_toArray, List.set_cons_zero, List.set_cons_succ]
        refine wpAnyT_takeL (i := 4) (v := ?_) rfl (by kernel_rfl) (by kernel_rfl) (by kernel_rfl) (by kernel_rfl) (fun _ _ _ h => h) (Or.inl ⟨by rfl, ?_⟩) hh ?_
        rotate_left
        · intro wS hSw; have hGot := HG.out _ hSw; clear hSw; go_split_ands; go_simp; try with_reducible rfl
        try simp only [Act.put, List.setIfInBounds_toArray, List.set_cons_zero, List.set_cons_succ]
        refine wpAnyT_takeL (i := 5) (v := ?_) rfl (by kernel_rfl) (by kernel_rfl) (by kernel_rfl) (by kernel_rfl) (fun _ _ _ h => h) (Or.inl ⟨by rfl, ?_⟩) hh ?_
        rotate_left
        · intro wS hSw; have hGot := HG.out _ hSw; clear hSw; go_split_ands; go_simp; try with_reducible rfl
        try simp only [Act.put, List.setIfInBounds_toArray, List.set_cons_zero, List.set_cons_succ]
        refine wpAnyT_takeL (i := 6) (v := ?_) rfl (by kernel_rfl) (by kernel_rfl) (by kernel_rfl) (by kernel_rfl) (fun _ _ _ h => h) (Or.inl ⟨by rfl, ?_⟩) hh ?_
        rotate_left
        · intro wS hSw; have hGot := HG.out _ hSw; clear hSw; go_split_ands; go_simp; try with_reducible rfl
        try simp only [Act.put, List.setIfInBounds_toArray, List.set_cons_zero, List.set_cons_succ]
        refine wpAnyT_oneL (i := 7) (by kernel_rfl) rfl (fun K hK => ?_)
        rw [if_pos (by rfl)]
        go_wp2_with fail
        have h5 : St base w0 WD (rowH r 85 (os.flatMap orC) ++ ((wr.heap.size, .cells #[pP l.g.bp, rowV l.pl l.ps.length] 87 (0, 0)) :: ((F.fb, .cells (#[.int .i64 F.lines, rowV F.nr F.ns.length, rowV F.cr F.cs.length, rowV r os.length] : Array Value) 76 (0, 0)) :: (rowH F.nr 45 (F.ns.flatMap nodeC) ++ (F.ns.flatMap nodeH ++ (rowH F.cr 84 (F.cs.flatMap cpC) ++ (F.cs.flatMap cpH ++ (F.os.flatMap gpH ++ L)))))))) := H4.out.ac (fun y => by simp only [cnt_append, cnt_cons, cnt_nil]; omega)
        have hh5 := HS.out _ _ (H4.out.junk (.cells #[pP l.g.bp] 85)) (by rw [HKK.out]; intro p hp; simp only [List.mem_cons, List.not_mem_nil, or_false] at hp; rcases hp with rfl | rfl <;> simp)
        have H5 := Lib.hid h5
        clear h5 H4
        refine (hK).out _ _ (fun _ => hh5) (fun _ => ?_)
        clear hK
        refine wpAnyT_oneL (i := 8) (by kernel_rfl) rfl (fun K hK => ?_)
        rw [if_pos (by rfl)]
        refine step_appendN elem_or _ _ rfl r os.length _ rfl HRW.out H5.out #[pP l.g.bp] rfl rfl (by simp [Value.oneCell']) (by omega) ?_
        intro rv' w7 hrv h7 _
        have e1 : os.flatMap orC ++ #[pP l.g.bp].toList = (os ++ [l.g]).flatMap orC := by simp [List.flatMap_append]
        rw [e1] at hrv h7
        have hh7 := HS.out _ _ h7 (by rw [HKK.out]; intro p hp; simp only [List.mem_cons, List.not_mem_nil, or_false] at hp; rcases hp with rfl | rfl <;> simp)
        have h8 : St base w0 w7 ((F.fb, .cells (#[.int .i64 F.lines, rowV F.nr F.ns.length, rowV F.cr F.cs.length, rowV r os.length] : Array Value) 76 (0, 0)) :: (rowH rv' 85 ((os ++ [l.g]).flatMap orC) ++ ((wr.heap.size, .cells #[pP l.g.bp, rowV l.pl l.ps.length] 87 (0, 0)) :: (rowH F.nr 45 (F.ns.flatMap nodeC) ++ (F.ns.flatMap nodeH ++ (rowH F.cr 84 (F.cs.flatMap cpC) ++ (F.cs.flatMap cpH ++ (F.os.flatMap gpH ++ L)))))))) := h7.ac (fun y => by simp only [cnt_append, cnt_cons, cnt_nil]; omega)
        have h9 := h8.set 3 (rowV rv' (os.length + 1))
        obtain ⟨c8, f8, _⟩ := HG.out _ hh7
        have H9 := Lib.hid h9
        have HRV := Lib.hid hrv
        simp only [Act.put, List.setIfInBounds_toArray, List.set_cons_zero, List.set_cons_succ]
        clear hrv h7 h8 h9 e1 hh5 hh H5
        refine (hK).out _ _ (fun _ => hh7) (fun _ => ?_)
        clear hK
        refine wpAnyT_oneL (i := 9) (by kernel_rfl) rfl (fun K hK => ?_)
        rw [if_pos (by rfl)]
        go_wp2_with fail
        refine (hK).out _ _ (fun _ => hh7) (fun _ => ?_)
        clear hK
        refine wpAnyT_takeL (i := 10) (v := ?_) rfl (by kernel_rfl) (by kernel_rfl) (by kernel_rfl) (by kernel_rfl) (fun _ _ _ h => h) (Or.inl ⟨by rfl, ?_⟩) hh7 ?_
        rotate_left
        · intro wS hSw; have hGot := HG.out _ hSw; clear hSw; go_split_ands; go_simp; try with_reducible rfl
        try simp only [Act.put, List.setIfInBounds_toArray, List.set_cons_zero, List.set_cons_succ]
        refine wpAnyT_oneL (i := 11) (by kernel_rfl) rfl (fun K hK => ?_)
        rw [if_pos (by rfl)]
        go_wp2_with fail
        refine (hK).out _ _ (fun h => by cases h) (fun _ => ?_)
        clear hK
        refine wpAnyT_done (by kernel_rfl) ?_ _
        go_wp2_with fail
        go_roundw
        case rel =>
          ((repeat apply Exists.intro (α := Value)); (first | refine ⟨?_, rfl⟩ | skip); (all_goals first | exact undef | skip))
          refine ⟨m + 1, rv', by omega, by go_num, by rw [HS2.out]; simpa using HRV.out, ?_⟩
          rw [HS2.out]
          have e := H9.out
          refine St.drop (L := [(wr.heap.size, .cells #[pP l.g.bp, rowV l.pl l.ps.length] 87 (0, 0))]) (e.ac (fun y => ?_))
          simp only [fbO, List.length_append, List.length_singleton, cnt_append, cnt_cons, cnt_nil]
          have e2 : (#[.int .i64 F.lines, rowV F.nr F.ns.length, rowV F.cr F.cs.length, rowV r os.length] : Array Value).setIfInBounds 3 (rowV rv' (os.length + 1)) = #[.int .i64 F.lines, rowV F.nr F.ns.length, rowV F.cr F.cs.length, rowV rv' (os.length + 1)] := rfl
          rw [e2]
          omega
        case measure => simp [intOf]; omega
    · obtain rfl : m = C.ls.length := by omega
      rw [List.take_length] at hr hst
      have hat := CpAt.of hst HB.out fbO_cr HC.out
      have h9 := HR.out _ _ (died_ok HF.out HC.out HA.out hr) rfl (died_pure HC.out HA.out r) (die_close HC.out HB.out hst)
      obtain ⟨a0, a1, a2, a3, a4, a5, a6, fr⟩ := hat
      have H9 := Lib.hid h9
      clear hst hr h9 a1 a5 a6
      go_wp2
      exact H9.out
end Go.Proofs.YtaojipegpjolcaaGreat
set_option linter.unusedVariables false
set_option linter.unusedSimpArgs false
namespace Go.Proofs.YtaojipegpjolcaaGreat
open Go.RowKit Go.Sort Go.Proofs.BodegaHeap
variable {base : Nat} {w0 w : World} {L : List Blk}

/-- One piece of the pair that is chosen. -/
def pStep (P : PF) (c : Ch) : PF := if 0 ≤ c.1 then pStepOrphan P c.1.toNat else pStepLive P c.2.1.toNat c.2.2.toNat

theorem chL_mem {i : Nat} {ls : List PL} {c : Ch} : ∀ {j : Nat}, c ∈ chL i j ls → ∃ (k : Nat) (l : PL), ls[k]? = some l ∧ l.p.vs.isEmpty = false ∧ c = (-1, (i : Int), ((j + k : Nat) : Int)) := by
  induction ls with
  | nil => intro j h; simp [chL] at h
  | cons x tl ih =>
    intro j h
    simp only [chL, List.mem_append] at h
    rcases h with h | h
    · cases he : x.p.vs.isEmpty with
      | true => rw [he] at h; simp at h
      | false => rw [he] at h; simp at h; exact ⟨0, x, rfl, he, by rw [h]; simp⟩
    · obtain ⟨k, l, h1, h2, h3⟩ := ih h
      exact ⟨k + 1, l, by simpa using h1, h2, by rw [h3]; congr 2; omega⟩
theorem chCs_mem {cs : List PC} {c : Ch} : ∀ {i : Nat}, c ∈ chCs i cs → ∃ (k : Nat) (C : PC) (j : Nat) (l : PL), cs[k]? = some C ∧ C.ls[j]? = some l ∧ l.p.vs.isEmpty = false ∧ c = (-1, ((i + k : Nat) : Int), (j : Int)) := by
  induction cs with
  | nil => intro i h; simp [chCs] at h
  | cons x tl ih =>
    intro i h
    simp only [chCs, List.mem_append] at h
    rcases h with h | h
    · obtain ⟨j, l, h1, h2, h3⟩ := chL_mem h
      exact ⟨0, x, j, l, rfl, h1, h2, by rw [h3]; simp⟩
    · obtain ⟨k, C, j, l, h1, h2, h3, h4⟩ := ih h
      exact ⟨k + 1, C, j, l, by simpa using h1, h2, h3, by rw [h4]; congr 2; congr 1; omega⟩
theorem chO_mem {os : List PP} {c : Ch} : ∀ {i : Nat}, c ∈ chO i os → ∃ (k : Nat) (p : PP), os[k]? = some p ∧ c = (((i + k : Nat) : Int), p.cl, p.nd) := by
  induction os with
  | nil => intro i h; simp [chO] at h
  | cons x tl ih =>
    intro i h
    simp only [chO, List.mem_cons] at h
    rcases h with rfl | h
    · exact ⟨0, x, rfl, by simp⟩
    · obtain ⟨k, p, h1, h2⟩ := ih h
      exact ⟨k + 1, p, by simpa using h1, by rw [h2]; congr 1; omega⟩

theorem Step_calls_ch (F : FB) (hF : FbOk F) (c : Ch) (hc : c ∈ pChoices F.pure) (h : St base w0 w (fbH F ++ L)) (R : Ending → World → Prop)
    (hR : ∀ (F' : FB) w', FbOk F' → F'.fb = F.fb → F'.pure = pStep F.pure c → St base w0 w' (fbH F' ++ L) → R (.returned (.bool true)) w') :
    Calls Tryz.prog 22 #[fP F, chV c] w R := by
  simp only [pChoices, List.mem_append] at hc
  rcases hc with hc | hc
  · obtain ⟨i, PC0, j, pl, h1, h2, h3, rfl⟩ := chCs_mem hc
    obtain ⟨C, hC, rfl⟩ := pure_get h1
    simp only [CP.pure, List.getElem?_map, Option.map_eq_some_iff] at h2
    obtain ⟨l, hl, rfl⟩ := h2
    have hjl : j < C.ls.length := (List.getElem?_eq_some_iff.1 hl).1
    have hjn : j < F.ns.length := by have := (hF.cs i C hC).lanes; omega
    obtain ⟨x, hx⟩ : ∃ x, F.ns[j]? = some x := ⟨F.ns[j], by simp [hjn]⟩
    rw [Nat.zero_add] at hR ⊢
    have e : pStep F.pure (-1, (i : Int), (j : Int)) = pStepLive F.pure i j := by unfold pStep; rw [if_neg (by simp)]; rfl
    rw [e] at hR
    refine Step_live F hF i j C l x hC hl hx ?_ h R hR
    intro hgs
    simp [LN.pure, GP.pure, hgs] at h3
  · obtain ⟨k, p, h1, rfl⟩ := chO_mem hc
    simp only [FB.pure, List.getElem?_map, Option.map_eq_some_iff] at h1
    obtain ⟨g, hg, rfl⟩ := h1
    rw [Nat.zero_add] at hR ⊢
    have e : pStep F.pure ((k : Int), g.pure.cl, g.pure.nd) = pStepOrphan F.pure k := by unfold pStep; rw [if_pos (by simp)]; rfl
    rw [e] at hR
    exact Step_orphan F hF k g _ _ hg h R hR

/-- A slice of numbers that came from outside. -/
def ArgI (base : Nat) (w0 : World) (A : Option Addr) (xs : List Int) : Prop := ∀ (k : Nat) x, xs[k]? = some x → ∃ ad : Addr, A = some ad ∧ ad.block < base ∧ w0.cell? (ad.add k) = some (.int .i64 x)
theorem ArgI.cell {A : Option Addr} {xs : List Int} (ha : ArgI base w0 A xs) (h : St base w0 w L) {k : Nat} {x : Int} (hx : xs[k]? = some x) : ∃ ad : Addr, A = some ad ∧ w.cell? (ad.add k) = some (.int .i64 x) := by
  obtain ⟨ad, h1, h2, h3⟩ := ha k x hx
  refine ⟨ad, h1, ?_⟩
  rw [h.below.cell (p := ad.add k) (by unfold Addr.add; split <;> exact h2)]
  exact h3

def pRunStep (P : PF) (sched : List Int) (n : Nat) : PF × Bool :=
  if pChoices P = [] then (P, false)
  else (pStep P ((pChoices P).getD (match sched[n]? with | some x => (pick x ((pChoices P).length : Nat)).toNat | none => 0) (0, 0, 0)), true)

set_option maxRecDepth 100000 in
set_option maxHeartbeats 4000000 in
theorem runStep_calls (F : FB) (hF : FbOk F) (A : Option Addr) (sched : List Int) (cc : Nat) (ha : ArgI base w0 A sched) (hs : ∀ x ∈ sched, -9223372036854775808 ≤ x ∧ x ≤ 9223372036854775807) (hsl : sched.length ≤ maxLen) (n : Nat) (hn : n ≤ 1000000) (h : St base w0 w (fbH F ++ L)) (R : Ending → World → Prop)
    (hR : ∀ (F' : FB) w', FbOk F' → F'.fb = F.fb → F'.pure = (pRunStep F.pure sched n).1 → St base w0 w' (fbH F' ++ L) → R (.returned (.bool (pRunStep F.pure sched n).2)) w') :
    Calls Tryz.prog 34 #[fP F, .slice A sched.length cc, .int .i64 n] w R := by
  have hch := fun R hR => Choices_calls (R := R) F hF h hR
  have hlen := hF.choices
  have HCH := Lib.hid hch
  have HR := Lib.hid hR
  have HF := Lib.hid hF
  have HA := Lib.hid ha
  have HS := Lib.hid hs
  unfold maxLen at hsl
  have HH := Lib.hid h
  obtain ⟨cs, hcs⟩ : ∃ cs, cs = pChoices F.pure := ⟨_, rfl⟩
  have hpr : pRunStep F.pure sched n = if cs = [] then (F.pure, false) else (pStep F.pure (cs.getD (match sched[n]? with | some x => (pick x (cs.length : Nat)).toNat | none => 0) (0, 0, 0)), true) := by rw [hcs]; rfl
  rw [← hcs] at hlen HCH
  have HPR := Lib.hid hpr
  have HCS := Lib.hid hcs
  clear hch hR hF ha hs h hpr hcs
  go_enter Tryz.func34, Tryz.ntmps34
  go_wp2_with fail
  refine HCH.out _ ?_
  intro r w2 hr h2
  by_cases hz : cs = []
  · have hz0 : cs.length = 0 := by rw [hz]; rfl
    have hp := HPR.out
    rw [if_pos hz] at hp
    have h3 : St base w0 w2 (fbH F ++ L) := h2.drop
    have H9 := HR.out F w2 HF.out rfl (by rw [hp]) h3
    rw [hp] at H9
    have H9 := Lib.hid H9
    clear hr h2 hz hp h3
    rw [hz0]
    clear hz0
    go_wp2
    exact H9.out
  · have hl0 : 0 < cs.length := List.length_pos_iff.2 hz
    have hp := HPR.out
    rw [if_neg hz] at hp
    obtain ⟨b, hb⟩ := hr.pos (by omega)
    have hrv : rowV r cs.length = .slice (some ⟨b, 0, none⟩) cs.length (cs.length + r.k) := by simp [rowV, rowA, hb]
    rw [hrv]
    have hstep : ∀ k : Nat, k < cs.length → pRunStep F.pure sched n = (pStep F.pure (cs.getD k (0, 0, 0)), true) → ∃ c : Ch, w2.cell? ⟨b, k * 3, none⟩ = some (.int .i64 c.1) ∧ w2.cell? ⟨b, k * 3 + 1, none⟩ = some (.int .i64 c.2.1) ∧ w2.cell? ⟨b, k * 3 + 2, none⟩ = some (.int .i64 c.2.2) ∧
        ∀ R' : Ending → World → Prop, (∀ w', R (.returned (.bool true)) w' → R' (.returned (.bool true)) w') → Calls Tryz.prog 22 #[fP F, chV c] w2 R' := by
      intro k hk hpk
      obtain ⟨c, hc⟩ : ∃ c, cs[k]? = some c := ⟨cs[k], by simp [hk]⟩
      have d0 := h2.recCell (enc := chC) (s := 3) (fun _ => rfl) hb (fun p hp => List.mem_append_left _ hp) hc 0 (by decide)
      have d1 := h2.recCell (enc := chC) (s := 3) (fun _ => rfl) hb (fun p hp => List.mem_append_left _ hp) hc 1 (by decide)
      have d2 := h2.recCell (enc := chC) (s := 3) (fun _ => rfl) hb (fun p hp => List.mem_append_left _ hp) hc 2 (by decide)
      simp only [Nat.add_zero, List.getElem?_cons_zero, List.getElem?_cons_succ] at d0 d1 d2
      refine ⟨c, d0, d1, d2, fun R' hR' => Step_calls_ch F HF.out c (by rw [← HCS.out]; exact List.mem_of_getElem? hc) h2.drop R' (fun F' w' q1 q2 q3 q4 => hR' w' ?_)⟩
      have hcg : cs.getD k (0, 0, 0) = c := by rw [List.getD_eq_getElem?_getD, hc]; rfl
      rw [hcg] at hpk
      have := HR.out F' w' q1 q2 (by rw [hpk]; exact q3) q4
      rw [hpk] at this
      exact this
    have hl0I : ((cs.length : Int) == 0) = false := by rw [beq_eq_false_iff_ne]; omega
    have hl0N : (cs.length == 0) = false := by rw [beq_eq_false_iff_ne]; omega
    have HST := Lib.hid hstep
    by_cases hns : n < sched.length
    · obtain ⟨x, hx⟩ : ∃ x, sched[n]? = some x := ⟨sched[n], by simp [hns]⟩
      obtain ⟨ad, hA, hcell⟩ := HA.out.cell h2 hx
      have hxr := HS.out x (List.mem_of_getElem? hx)
      have hpk := Pick_calls w2 x (cs.length : Nat) hxr (by omega)
      obtain ⟨k, hk⟩ := Int.eq_ofNat_of_zero_le (pick_lo x (cs.length : Nat))
      have hkl : k < cs.length := by have := pick_hi x (cs.length : Nat) (by omega); omega
      rw [hx] at hp
      simp only [hk, Int.toNat_natCast] at hp
      rw [hk] at hpk
      obtain ⟨c, d0, d1, d2, hst⟩ := HST.out k hkl hp
      have HPK := Lib.hid hpk
      have HSTP := Lib.hid hst
      have hnsI : (n : Int) < (sched.length : Int) := by omega
      have hkI : (k : Int) < (cs.length : Int) := by omega
      subst hA
      clear hp hr h2 hz hx hxr hpk hst HST hstep hrv hb hl0 hk
      go_wp2_with fail
      (refine Calls.mono HPK.out ?_; intro e w' hh; rw [hh.1, hh.2]; clear hh w' e)
      go_wp2_with fail
      refine HSTP.out _ ?_
      intro w' hw
      go_wp2
      exact hw
    · have hx : sched[n]? = none := List.getElem?_eq_none (by omega)
      rw [hx] at hp
      simp only at hp
      obtain ⟨c, d0, d1, d2, hst⟩ := HST.out 0 hl0 hp
      simp only [Nat.zero_mul, Nat.zero_add] at d0 d1 d2
      have HSTP := Lib.hid hst
      have hnsI : ¬ (n : Int) < (sched.length : Int) := by omega
      have hkI : (0 : Int) < (cs.length : Int) := by omega
      clear hp hr h2 hz hx hst HST hstep hrv hb hl0
      go_wp2_with fail
      refine HSTP.out _ ?_
      intro w' hw
      go_wp2
      exact hw

set_option maxRecDepth 100000 in
set_option maxHeartbeats 1600000 in
theorem Word_run (F : FB) (hF : FbOk F) (k : Nat) (x : ND) (hx : F.ns[k]? = some x) (hup : x.N.down = false) (at_ : Nat) (v : Int) (hv : x.N.words[at_]? = some v) (h : St base w0 w (fbH F ++ L)) (R : Ending → World → Prop)
    (hR : ∀ w', St base w0 w' (fbH F ++ L) → R (.returned (.tuple #[.int .u64 v, .bool true])) w') :
    Calls Tryz.prog 26 #[fP F, .int .i64 k, .int .i64 at_] w R := by
  have hnd := Node_calls F k x hx hF.nr hF.n1 h
  have hat := (List.getElem?_eq_some_iff.1 hv).1
  have hwl := hF.nodes x (List.mem_of_getElem? hx)
  have hl1 := hF.l1
  have hst : St base w0 w (ndH x.bn x.bw x.N ++ ((F.fb, .cells (fbCells F) 76 (0, 0)) :: (rowH F.nr 45 (F.ns.flatMap nodeC) ++ ((F.ns.eraseIdx k).flatMap nodeH ++ (rowH F.cr 84 (F.cs.flatMap cpC) ++ (F.cs.flatMap cpH ++ (rowH F.orr 85 (F.os.flatMap orC) ++ (F.os.flatMap gpH ++ L)))))))) := by
    refine h.ac (fun y => ?_)
    have e3 := cnt_flat_get nodeH y F.ns k x hx
    have e4 : cnt y (ndH x.bn x.bw x.N) = cnt y (nodeH x) := rfl
    simp only [fbH, fbR, cnt_append, cnt_cons] at *
    omega
  have hrd := fun R => Read_calls (R := R) x.bn x.bw x.N (by omega) hup at_ 1 (by omega) (by omega) (by omega) (NdAt.of hst) h
  have hd1 : ((x.N.words.drop (at_ : Int).toNat).take (1 : Int).toNat) = [v] := by
    rw [Int.toNat_natCast, List.drop_eq_getElem_cons hat]
    have := (List.getElem?_eq_some_iff.1 hv).2
    simp [this]
  rw [hd1] at hrd
  have HRD := Lib.hid hrd
  have HND := Lib.hid hnd
  have HR := Lib.hid hR
  clear h hst hrd hd1 hwl hat hv hx hF hnd hR
  go_enter Tryz.func26, Tryz.ntmps26
  go_wp2_with fail
  (refine Calls.mono HND.out ?_; intro e w' hh; rw [hh.1, hh.2]; clear hh w' e)
  go_wp2_with fail
  refine HRD.out _ ?_
  intro r w2 hr h2
  obtain ⟨b, hb⟩ := hr.pos (by decide)
  have c1 : w2.cell? ⟨b, 0, none⟩ = some (.int .u64 v) := h2.row_cell hb (fun p hp => List.mem_append_left _ hp) 0 (by simp)
  have eb : rowV r (1 : Int).toNat = .slice (some ⟨b, 0, none⟩) 1 (1 + r.k) := by simp [rowV, rowA, hb]
  rw [eb]
  have H9 := Lib.hid (HR.out w2 h2.drop)
  clear hr h2 hb HR HRD eb
  go_wp2
  exact H9.out
end Go.Proofs.YtaojipegpjolcaaGreat
