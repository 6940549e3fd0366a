/- PaxosStays: the law's walk. The statement PaxosStays: the row's step (the guide's frame at this function), over the walk of SW. -/
import Derived.Test.YtaojipegpjolcaaGreatGO
import Derived.StillTailTactics
import Derived.Test.YtaojipegpjolcaaGreatRows
import Derived.WalkKit
import Derived.ProofKit
import Derived.OpenShut
import Derived.ChangeOld
import Derived.Below
import Derived.Lib.SmallJoins
set_option linter.unusedVariables false
set_option linter.unusedSimpArgs false
namespace Go.Proofs.YtaojipegpjolcaaGreat
open Go.RowKit Go.Sort Go.Proofs.BodegaHeap
variable {base : Nat} {w0 w : World} {L : List Blk}

abbrev usB (ub : Nat) (us : List Bool) : Blk := (ub, .cells (us.map Value.bool).toArray 58 (0, 0))
/-- Between two proposers, in memory. -/
structure StR (w : World) (n fb ub : Nat) (tb bo : Int) (k : Nat) (any : Bool) (value : Int) (F : FB) (us : List Bool) (wr : World) : Prop where
  fb : F.fb = fb
  ok : FbOk F
  rng : PRng F.pure
  sp : SP n tb any value F.pure
  boots : Boots bo k F.pure
  ul : us.length = 120
  st : St w.heap.size w wr (fbH F ++ [usB ub us])
theorem StR.ns {w : World} {n fb ub : Nat} {tb bo : Int} {k : Nat} {any : Bool} {value : Int} {F : FB} {us : List Bool} {wr : World} (h : StR w n fb ub tb bo k any value F us wr) : F.ns.length = n := by
  have := h.sp.len; simpa [FB.pure] using this
theorem SP.mono {n : Nat} {tb tb' : Int} {any : Bool} {value : Int} {P : PF} (h : SP n tb any value P) (hb : tb ≤ tb') : SP n tb' any value P :=
  ⟨h.len, h.door, h.cl, fun c hc => by
    obtain ⟨tr, po, h1, h2, h3⟩ := h.cs c hc
    exact ⟨tr, po, h1, h2, by omega⟩, h.os, h.cons⟩
theorem Boots.mono {b b' : Int} {P : PF} (h : Boots b 0 P) (hb : b ≤ b') : Boots b' 0 P := fun i N hN => by
  obtain ⟨h1, h2, h3⟩ := h i N hN
  rw [if_neg (Nat.not_lt_zero _)] at h2 ⊢
  exact ⟨h1, by omega, h3⟩
def stK (n c : Nat) (r v : Int) : TK := ⟨2, c, stJ n c r v, nilRw, [], false, false, 0, 0⟩
theorem stK_ok (F : FB) {n c : Nat} {r v : Int} (hn : F.ns.length = n) (hc : F.cs.length = 6) (n1 : 1 ≤ n) (n5 : n ≤ 5) (c6 : c < 6) (r1 : 1 ≤ r) (r2 : r ≤ 20) (v1 : 1 ≤ v) (v2 : v ≤ 20) : TsOk F [stK n c r v] :=
  ⟨fun t ht => by
    rw [List.mem_singleton] at ht
    subst ht
    exact ⟨c, by omega, ⟨rfl, rfl, stJ_valid n1 n5 c6 r1 r2 v1 v2, ⟨by simp only [stK, stJ]; omega, by simp only [stK, stJ]; omega⟩, by rw [hn]; rfl, by simp [stK, stJ], by simp [stK, stJ], ⟨nilRw_ok 1, fun g hg => (by cases hg), by simp [stK]⟩, fun d hd => (by cases hd), by simp [stK]⟩, fun _ => by simp [stK]⟩⟩
/-- What Alone leaves. -/
theorem st_facts {n : Nat} (h0 : 1 ≤ n) (h1 : n ≤ 5) (hodd : n % 2 = 1) {tb bo : Int} (htb : tb ≤ 1000) {any : Bool} {value : Int} {F F' : FB} {t' : TK} (hP : SP n tb any value F.pure) (hdn : downs F.pure ≤ n / 2) (hbo : Boots bo 0 F.pure) {c : Nat} (hc : c < 6) {r v : Int} (r0 : 1 ≤ r) (r1 : r ≤ 20) (v0 : 1 ≤ v) (v1 : v ≤ 20)
    (e1 : F'.pure = (pDrive F.pure [(stK n c r v).pure] [] 20000).1) (e2 : [t'.pure] = (pDrive F.pure [(stK n c r v).pure] [] 20000).2) :
    StEnd any value v t'.pure ∧ Boots bo 0 F'.pure ∧ (t'.code = 0 → SP n (tb + 3) true t'.value F'.pure) ∧ (t'.code = 8 → SP n (tb + 3) any value F'.pure) := by
  obtain ⟨P', q, e, k1, k2, k3, k4⟩ := stays_pure h0 h1 hodd htb hP hdn hbo hc r0 r1 v0 v1
  have e' : pDrive F.pure [(stK n c r v).pure] [] 20000 = (P', [q]) := e
  rw [e'] at e1 e2
  simp only at e1 e2
  obtain rfl : t'.pure = q := by simpa using e2
  rw [← e1] at k2 k3 k4
  exact ⟨k1, k2, k3, k4⟩
theorem us_cell {ub : Nat} {us : List Bool} {k : Nat} {u : Bool} (h : St base w0 w (L ++ [usB ub us])) (hk : us[k]? = some u) : w.cell? ⟨ub, k, none⟩ = some (.bool u) := by
  rw [h.cells (cs := (us.map Value.bool).toArray) (t := 58) (fr := (0, 0)) (List.mem_append_right _ (by simp)) k]
  simp [hk]

theorem tdiv6 {x : Int} (h : I64 x) : I64 (x.tdiv 6) := by
  obtain ⟨h1, h2⟩ := h
  rcases Int.le_total 0 x with hx | hx
  · rw [Int.tdiv_eq_ediv_of_nonneg hx]; constructor <;> omega
  · obtain ⟨y, rfl⟩ : ∃ y, x = -y := ⟨-x, by omega⟩
    rw [Int.neg_tdiv, Int.tdiv_eq_ediv_of_nonneg (by omega)]; constructor <;> omega
theorem us_put {us : List Bool} {k : Nat} : ((us.map Value.bool).toArray).setIfInBounds k (.bool true) = ((us.set k true).map Value.bool).toArray := by
  simp [List.map_set]
theorem us_zero : Tryz.zeroCells58 = ((List.replicate 120 false).map Value.bool).toArray := by kernel_rfl
theorem fresh_SP {n : Nat} (n1 : 1 ≤ n) (n5 : n ≤ 5) : SP n 0 false 0 (pFresh n 6 98) ∧ Boots 1 0 (pFresh n 6 98) := by
  obtain ⟨f1, f2, f3, f4⟩ := fresh_facts n1 n5
  refine ⟨⟨by simp [pFresh], fun N hN => ?_, by simp [pFresh], fun c hc => ?_, rfl, ?_⟩, fun i N hN => ?_⟩
  · simp only [pFresh] at hN
    rw [List.eq_of_mem_replicate hN]
    exact ⟨f1, fun c hc => Int.le_of_eq (f3 c hc)⟩
  · refine ⟨0, 0, ?_, by decide, by decide⟩
    simp only [pFresh, List.getElem?_map, List.getElem?_range hc, Option.map_some]
    rfl
  · have hw : ∀ x ∈ (pFresh n 6 98).ns.map w11, x = 0 := fun x hx => by
      obtain ⟨N, hN, rfl⟩ := List.mem_map.1 hx
      simp only [pFresh] at hN
      rw [List.eq_of_mem_replicate hN]
      exact f2 11 (by decide) (by decide)
    exact ⟨fun x hx => by rw [hw x hx]; decide, fun _ x hx => by rw [hw x hx]; decide, fun e => (by cases e), fun e => (by cases e), fun e => (by cases e)⟩
  · have hm := List.mem_of_getElem? hN
    simp only [pFresh] at hm
    rw [List.eq_of_mem_replicate hm]
    have e : (fmtNd n 98).words.getD 1 0 = 1 := f4
    rw [e, if_neg (Nat.not_lt_zero _)]
    exact ⟨by decide, by decide, fun q => by omega⟩

def pickN (t : Int) (n : Nat) : Nat := (pick (IntKind.i64.wrap t) n).toNat
theorem pickN_eq {t : Int} {n : Nat} : pick (IntKind.i64.wrap t) n = (pickN t n : Nat) := by
  have := pick_lo (IntKind.i64.wrap t) n
  unfold pickN; omega
theorem pickN_lt {t : Int} {n : Nat} (h : 1 ≤ n) : pickN t n < n := by
  have h1 := pick_lo (IntKind.i64.wrap t) n
  have h2 := pick_hi (IntKind.i64.wrap t) n (by omega)
  unfold pickN; omega
theorem wrap_I64 (t : Int) : I64 (IntKind.i64.wrap t) := by
  rw [IntWalk.i64_left]
  unfold wrap64 I64
  omega
theorem pickN_calls (t : Int) (n : Nat) (hn : n ≤ 100) (W : World) : Calls Tryz.prog 14 #[.int .i64 (IntKind.i64.wrap t), .int .i64 n] W fun e w' => e = .returned (.int .i64 ((pickN t n : Nat) : Int)) ∧ w' = W := by
  rw [← pickN_eq]
  exact Pick_calls W _ n (wrap_I64 t) (by omega)
def bnOf (F : FB) (i : Nat) : Nat := match F.ns[i]? with
  | some x => x.bn
  | none => 0
theorem Node_any (F : FB) (hF : FbOk F) (i : Nat) (hi : i < F.ns.length) (h : St base w0 w (fbH F ++ L)) : Calls Tryz.prog 19 #[fP F, .int .i64 i] w fun e w' => e = .returned (nP (bnOf F i)) ∧ w' = w := by
  obtain ⟨x, hx⟩ : ∃ x, F.ns[i]? = some x := ⟨F.ns[i], by simp [hi]⟩
  have e : bnOf F i = x.bn := by unfold bnOf; rw [hx]
  rw [e]
  exact Node_calls F i x hx hF.nr hF.n1 h
theorem Fail_any (F : FB) (hF : FbOk F) (i : Nat) (hi : i < F.ns.length) (h : St base w0 w (fbH F ++ L)) (R : Ending → World → Prop)
    (hR : ∀ F' w', NdOut F F' (pFail F.pure i) → St base w0 w' (fbH F' ++ L) → R (.returned (.tuple #[])) w') :
    Calls Tryz.prog 24 #[nP (bnOf F i)] w R := by
  obtain ⟨x, hx⟩ : ∃ x, F.ns[i]? = some x := ⟨F.ns[i], by simp [hi]⟩
  have e : bnOf F i = x.bn := by unfold bnOf; rw [hx]
  rw [e]
  exact Fail_fb F hF i x hx h R hR

set_option maxRecDepth 100000 in
set_option maxHeartbeats 16000000 in
theorem PaxosStays_calls (w : World) (A B : Option Addr) (rounds down : List Int) (ca cb : Nat) (nodes : Int) (hA : ArgI w.heap.size w A rounds) (hAr : ∀ x ∈ rounds, I64 x) (hAl : rounds.length ≤ maxLen) (hB : ArgI w.heap.size w B down) (hBr : ∀ x ∈ down, I64 x) (hBl : down.length ≤ maxLen) (hn : I64 nodes) :
    Calls Tryz.prog 5 #[.slice A rounds.length ca, .slice B down.length cb, .int .i64 nodes] w fun e w' => e = .returned (.bool true) ∧ Below w.heap.size w w' := by
  unfold maxLen at hAl hBl
  have p1 := fun W => Pick_calls W nodes 3 hn (by decide)
  have q1 := pick_lo nodes 3
  have q2 := pick_hi nodes 3 (by decide)
  obtain ⟨a, ha⟩ : ∃ a, a = pick nodes 3 := ⟨_, rfl⟩
  rw [← ha] at p1 q1 q2
  obtain ⟨m, rfl⟩ := Int.eq_ofNat_of_zero_le q1
  have P1 := Lib.hid p1
  have HA := Lib.hid hA
  have HAR := Lib.hid hAr
  have HB := Lib.hid hB
  have HBR := Lib.hid hBr
  clear p1 ha hA hAr hB hBr
  by_cases hlong : 20 < rounds.length
  · have hlI : (20 : Int) < (rounds.length : Int) := by omega
    go_enter Tryz.func5, Tryz.ntmps5
    go_wp2_with fail
    (refine Calls.mono (P1.out _) ?_; intro e w' hh; rw [hh.1, hh.2]; clear hh w' e)
    go_wp2
    go_ret
    exact ⟨rfl, Below.refl _ _⟩
  · have hlI : ¬ (20 : Int) < (rounds.length : Int) := by omega
    go_enter Tryz.func5, Tryz.ntmps5
    go_wp2_with fail
    (refine Calls.mono (P1.out _) ?_; intro e w' hh; rw [hh.1, hh.2]; clear hh w' e)
    go_wp2_with fail
    obtain ⟨n, hn1⟩ : ∃ n : Nat, n = 2 * m + 1 := ⟨_, rfl⟩
    rw [show (2 * (m : Int) + 1) = (n : Int) by omega]
    have n1 : 1 ≤ n := by omega
    have n5 : n ≤ 5 := by omega
    have hodd : n % 2 = 1 := by omega
    have HODD := Lib.hid hodd
    clear hn1 q1 q2 P1 hodd
    have hfr := fun R hR => Fresh_calls (base := w.heap.size) (w0 := w) (w := w) (L := []) n 6 98 n1 n5 (by decide) (by decide) (by decide) (by decide) (St.start w) R hR
    refine hfr _ ?_
    rintro fb w1 ⟨F, hF, rfl, hp, h1⟩
    have haw := awake_calls w1
    have HAW := Lib.hid haw
    have H1 := Lib.hid h1
    have HP := Lib.hid hp
    have HF := Lib.hid hF
    obtain ⟨fb, hfb⟩ : ∃ x, x = F.fb := ⟨_, rfl⟩
    have hpt : Value.pointer (some ⟨F.fb, 0, none⟩) = .pointer (some ⟨fb, 0, none⟩) := by rw [hfb]
    rw [hpt]
    have HFB := Lib.hid hfb
    clear haw h1 hp hF hfb hpt hfr
    go_wp2_with fail
    refine HAW.out.mono ?_
    rintro e w2 ⟨rfl, hb2⟩
    have h2 := H1.out.grow hb2
    have H2 := Lib.hid h2
    clear h2 hb2 H1 HAW
    go_wp2_with fail
    obtain ⟨ub, hub⟩ : ∃ x, x = w2.heap.size := ⟨_, rfl⟩
    obtain ⟨W, hW⟩ : ∃ W, W = w2.alloc (.cells Tryz.zeroCells58 58) := ⟨_, rfl⟩
    rw [← hub, ← hW]
    have hstart : StR w n fb ub 0 1 0 false 0 F (List.replicate 120 false) W := by
      have h3 := H2.out.alloc (.cells Tryz.zeroCells58 58)
      rw [us_zero, ← hub] at h3
      rw [us_zero] at hW
      obtain ⟨s1, s2⟩ := fresh_SP n1 n5
      refine ⟨HFB.out.symm, HF.out, by rw [HP.out]; exact pFresh_rng n 6 98 n5, by rw [HP.out]; exact s1, by rw [HP.out]; exact s2, by simp, ?_⟩
      rw [hW]
      exact h3.ac (fun y => by simp only [usB, fbH, fbR, cnt_append, cnt_cons, cnt_nil]; omega)
    have HS := Lib.hid hstart
    clear hstart H2 HF HP HFB hub hW
    go_loopw [9, 10, 12] (fun a b i wr => ∃ (q : Nat) (any : Bool) (value : Int) (F : FB) (us : List Bool), q ≤ rounds.length ∧ a = .int .u64 value ∧ b = .bool any ∧ i = .int .i64 q ∧ StR w n fb ub (3 * q) (1 + q) 0 any value F us wr) (fun a b i wr => rounds.length - (intOf i).toNat)
    case atStart => exact ⟨0, false, 0, F, _, Nat.zero_le _, rfl, rfl, rfl, HS.out⟩
    case round =>
      clear HS F
      obtain ⟨q, any, value, F, us, hq, rfl, rfl, rfl, hs⟩ := hrel
      by_cases hlt : q < rounds.length
      · obtain ⟨x, hx⟩ : ∃ x, rounds[q]? = some x := ⟨rounds[q], by simp [hlt]⟩
        obtain ⟨ad, hAd, hcell⟩ := HA.out.cell hs.st hx
        have hcl : ∀ d os, (grow (redrawn wr d) os).cell? (ad.add q) = some (.int .i64 x) := fun d os => by
          obtain ⟨ad', h1, h2⟩ := HA.out.cell (hs.st.grow (below_regrown wr d os)) hx
          rw [hAd] at h1
          cases h1
          exact h2
        have hxr := HAR.out x (List.mem_of_getElem? hx)
        have hp1 := regrown (W := wr) (fun w' _ => (Pick_calls w' x 6 hxr (by decide)).mono fun e w'' h => ⟨h.1, h.2 ▸ Below.refl _ _⟩)
        obtain ⟨y, hy⟩ : ∃ y, y = IntKind.i64.wrap (x.tdiv 6) := ⟨_, rfl⟩
        have hx6 : I64 y := by rw [hy, IntWalk.i64_left, IntWalk.wrap64_in _ (tdiv6 hxr)]; exact tdiv6 hxr
        have hp2 := regrown (W := wr) (fun w' _ => (Pick_calls w' y 20 hx6 (by decide)).mono fun e w'' h => ⟨h.1, h.2 ▸ Below.refl _ _⟩)
        have b1 := pick_lo x 6
        have b2 := pick_hi x 6 (by decide)
        have b3 := pick_lo y 20
        have b4 := pick_hi y 20 (by decide)
        obtain ⟨c0, hc0⟩ : ∃ y, y = pick x 6 := ⟨_, rfl⟩
        obtain ⟨r0, hr0⟩ : ∃ z, z = pick y 20 := ⟨_, rfl⟩
        rw [← hc0] at hp1 b1 b2
        rw [← hr0] at hp2 b3 b4
        obtain ⟨c, rfl⟩ := Int.eq_ofNat_of_zero_le b1
        obtain ⟨r, rfl⟩ := Int.eq_ofNat_of_zero_le b3
        have hltI : (q : Int) < (rounds.length : Int) := by omega
        subst hAd
        rw [hy] at hp2
        have HP1 := Lib.hid hp1
        have HP2 := Lib.hid hp2
        have HCL := Lib.hid hcl
        have HSR := Lib.hid hs
        clear hp1 hp2 hcl hcell hs hx hxr hx6 hr0 hy hc0
        clear y
        go_wp2_with fail
        have hcl := HCL.out
        refine wp_region_quiet_below (by kernel_rfl) (by kernel_rfl) ?_
        iterate 4 quiet_step (fail)
        quiet_step (exact HP1.out _ _)
        iterate 5 quiet_step (fail)
        quiet_step (exact HP2.out _ _)
        iterate 2 quiet_step (fail)
        refine wpQuiet_nil ?_
        intro w3 hw3
        have hb3 := quiet_out hw3
        have c6 : c < 6 := by omega
        have r20 : r < 20 := by omega
        have hs3 : StR w n fb ub (3 * q) (1 + q) 0 any value F us w3 := { HSR.out with st := HSR.out.st.grow hb3 }
        obtain ⟨u, hu⟩ : ∃ u, us[c * 20 + r]? = some u := ⟨us[c * 20 + r]'(by have := hs3.ul; omega), by simp [show c * 20 + r < us.length by have := hs3.ul; omega]⟩
        have huc := us_cell hs3.st hu
        have huf : w3.frozen? ⟨ub, c * 20 + r, none⟩ = false := hs3.st.frozen (cs := (us.map Value.bool).toArray) (t := 58) (List.mem_append_right _ (by simp)) _
        have c6I : (c : Int) < 6 := by omega
        have r20I : (r : Int) < 20 := by omega
        have HS3 := Lib.hid hs3
        clear hw3 hb3 hs3 HSR HCL hcl hu b1 b2 b3 b4 HP1 HP2
        cases u with
        | true =>
          go_wp2
          go_roundw
          case rel => exact ⟨q + 1, any, value, F, us, by omega, rfl, rfl, by go_num, { HS3.out with sp := HS3.out.sp.mono (by omega), boots := HS3.out.boots.mono (by omega) }⟩
          case measure => simp [intOf]; omega
        | false =>
          have hs4 : StR w n fb ub (3 * q) (1 + q) 0 any value F (us.set (c * 20 + r) true) (w3.setCell ⟨ub, c * 20 + r, none⟩ (.bool true)) := by
            have h := (HS3.out.st.ac (M := usB ub us :: (fbH F ++ [])) (fun y => by simp only [usB, fbH, fbR, cnt_append, cnt_cons, cnt_nil]; omega)).set (c * 20 + r) (.bool true)
            rw [us_put] at h
            exact { HS3.out with ul := by rw [List.length_set]; exact HS3.out.ul, st := h.ac (fun y => by simp only [usB, fbH, fbR, cnt_append, cnt_cons, cnt_nil]; omega) }
          obtain ⟨us2, hus2⟩ : ∃ z, z = us.set (c * 20 + r) true := ⟨_, rfl⟩
          rw [← hus2] at hs4
          have HS4 := Lib.hid hs4
          clear hs4 HS3 hus2
          go_wp2_with fail
          clear huc huf
          go_loopw [15] (fun i wr => ∃ (k : Nat) (F : FB), k ≤ n ∧ i = .int .i64 k ∧ StR w n fb ub (3 * q) (1 + q) k any value F us2 wr) (fun i wr => n - (intOf i).toNat)
          case atStart => exact ⟨0, F, Nat.zero_le _, rfl, HS4.out⟩
          case round =>
            clear HS4 F
            obtain ⟨k, F, hk, rfl, hs⟩ := hrel
            by_cases hltk : k < n
            · have hltkI : (k : Int) < (n : Int) := by omega
              have hns := hs.ns
              obtain ⟨y, hy⟩ : ∃ y, F.ns[k]? = some y := ⟨F.ns[k]'(by omega), by simp [show k < F.ns.length by omega]⟩
              have hnode := Node_calls F k y hy hs.ok.nr hs.ok.n1 hs.st
              rw [show fP F = .pointer (some ⟨fb, 0, none⟩) by simp only [fP, hs.fb]] at hnode
              have hback := fun R hR => Back_fb (R := R) F hs.ok hs.rng k y hy hs.st hR
              have HNODE := Lib.hid hnode
              have HBACK := Lib.hid hback
              have HSR := Lib.hid hs
              clear hnode hback hs hy hns
              go_wp2_with fail
              (refine Calls.mono HNODE.out ?_; intro e w' hh; rw [hh.1, hh.2]; clear hh w' e)
              go_wp2_with fail
              refine HBACK.out _ ?_
              intro r2 F' w5 hd5 h5
              have hs5 : StR w n fb ub (3 * q) (1 + q) (k + 1) any value F' us2 w5 :=
                ⟨hd5.fb.trans HSR.out.fb, hd5.ok, by rw [hd5.pure]; exact pBack_rng HSR.out.rng k, by rw [hd5.pure]; exact pBack_SP HSR.out.sp k, by rw [hd5.pure]; exact pBack_boots HSR.out.sp (by omega) HSR.out.boots, HSR.out.ul, h5⟩
              have HS5 := Lib.hid hs5
              clear hd5 h5 hs5 HBACK HNODE HSR
              go_wp2
              go_roundw
              case rel => exact ⟨k + 1, F', by omega, by go_num, HS5.out⟩
              case measure => simp [intOf]; omega
            · obtain rfl : n = k := by omega
              have hdz := downs_zero hs.sp.len hs.boots
              have hs6 : StR w n fb ub (3 * q) (1 + q + 1) 0 any value F us2 wr := { hs with boots := hs.boots.weak }
              have HDZ := Lib.hid hdz
              have HS6 := Lib.hid hs6
              clear hs hdz hs6
              go_wp2_with fail
              go_loopw [16] (fun i wr => ∃ (k : Nat) (F : FB), k ≤ n / 2 ∧ i = .int .i64 k ∧ downs F.pure ≤ k ∧ StR w n fb ub (3 * q) (1 + q + 1) 0 any value F us2 wr) (fun i wr => n - (intOf i).toNat)
              case atStart => exact ⟨0, F, Nat.zero_le _, rfl, Nat.le_of_eq HDZ.out, HS6.out⟩
              case round =>
                clear HS6 HDZ F
                obtain ⟨k, F, hk, rfl, hdn, hs⟩ := hrel
                by_cases hgo : k < n / 2 ∧ q < down.length
                · obtain ⟨hk2, hqd⟩ := hgo
                  have hk2I : (k : Int) < (n : Int) / 2 := by omega
                  have hqdI : (q : Int) < (down.length : Int) := by omega
                  obtain ⟨z, hz⟩ : ∃ z, down[q]? = some z := ⟨down[q], by simp [hqd]⟩
                  obtain ⟨bd, hBd, _⟩ := HB.out.cell hs.st hz
                  have hzr := HBR.out z (List.mem_of_getElem? hz)
                  have hcl2 : ∀ W L', St w.heap.size w W L' → W.cell? (bd.add q) = some (.int .i64 z) := fun W L' hW => by
                    obtain ⟨bd', h1, h2⟩ := HB.out.cell hW hz
                    rw [hBd] at h1
                    cases h1
                    exact h2
                  subst hBd
                  have HCL2 := Lib.hid hcl2
                  have HSR := Lib.hid hs
                  have HZR := Lib.hid hzr
                  clear hcl2 hs hzr hz
                  go_wp2_with fail
                  obtain ⟨W, hW⟩ : ∃ W, W = wr.drew := ⟨_, rfl⟩
                  have hsW : StR w n fb ub (3 * q) (1 + q + 1) 0 any value F us2 W := by rw [hW]; exact { HSR.out with st := HSR.out.st.drew }
                  have hns := hsW.ns
                  have hcell2 := HCL2.out W _ hsW.st
                  have hpk2 := Pick_calls W z 2 HZR.out (by decide)
                  have hp2l := pick_lo z 2
                  have hp2h := pick_hi z 2 (by decide)
                  obtain ⟨p2, hp2⟩ : ∃ p, p = pick z 2 := ⟨_, rfl⟩
                  rw [← hp2] at hpk2 hp2l hp2h
                  have hpkn := fun t => pickN_calls t n (by omega) W
                  have hnode := fun (i : Nat) (hi : i < n) => Node_any F hsW.ok i (by omega) hsW.st
                  rw [show fP F = .pointer (some ⟨fb, 0, none⟩) by simp only [fP, hsW.fb]] at hnode
                  have HPK2 := Lib.hid hpk2
                  have HPKN := Lib.hid hpkn
                  have HNODE := Lib.hid hnode
                  have HSW := Lib.hid hsW
                  have HW := Lib.hid hW
                  clear hpk2 hpkn hnode hsW hns hp2 hW HSR HCL2
                  refine wp_region_still_tail 17 (by kernel_rfl) (by kernel_rfl) ?_
                  simp only [List.take_succ_cons, List.take_zero, List.drop_succ_cons, List.drop_zero]
                  change wpStill _ _ (World.drew _) (fun a' => wpList _ _ _ _ a' (World.drew _)) _ _
                  rw [← HW.out]
                  iterate 10 still_step
                  still_call (HPK2.out)
                  iterate 4 still_step
                  still_call (HPKN.out _)
                  still_call (HNODE.out _ (pickN_lt n1))
                  refine wpStill_nil ?_
                  go_wp2_with fail
                  refine Fail_any F HSW.out.ok _ (by rw [HSW.out.ns]; exact pickN_lt n1) HSW.out.st _ ?_
                  intro F' w5 hd5 h5
                  have hdw : downs F'.pure ≤ k + 1 := by rw [hd5.pure]; exact Nat.le_trans (pFail_downs _ _) (by omega)
                  have hs5 : StR w n fb ub (3 * q) (1 + q + 1) 0 any value F' us2 w5 :=
                    ⟨hd5.fb.trans HSW.out.fb, hd5.ok, by rw [hd5.pure]; exact pFail_rng HSW.out.rng _, by rw [hd5.pure]; exact pFail_SP HSW.out.sp _, by rw [hd5.pure]; exact pFail_boots HSW.out.boots _, HSW.out.ul, h5⟩
                  have HS5 := Lib.hid hs5
                  have HDW := Lib.hid hdw
                  clear hd5 h5 hs5 hdw HPK2 HPKN HNODE HSW HW hcell2
                  go_wp2
                  go_roundw
                  case rel => exact ⟨k + 1, F', by omega, by go_num, HDW.out, HS5.out⟩
                  case measure => simp [intOf]; omega
                · have hcase : (¬ (k : Int) < (n : Int) / 2) ∨ ((k : Int) < (n : Int) / 2 ∧ ¬ (q : Int) < (down.length : Int)) := by omega
                  have hnl := hs.ns
                  have hcl6 : F.cs.length = 6 := by have := hs.sp.cl; simpa [FB.pure] using this
                  have hal := fun R hR => Alone_calls (base := w.heap.size) (w0 := w) (w := wr) (L := [usB ub us2]) F hs.ok hs.rng (stK n c ((r : Int) + 1) ((q : Int) + 1)) (stK_ok F hnl hcl6 n1 n5 c6 (by omega) (by omega) (by omega) (by omega)) hs.st R hR
                  rw [show fP F = .pointer (some ⟨fb, 0, none⟩) by simp only [fP, hs.fb]] at hal
                  have hpp := fun F' t' => st_facts (F' := F') (t' := t') n1 n5 HODD.out (by omega) hs.sp (by omega) hs.boots c6 (r := (r : Int) + 1) (v := (q : Int) + 1) (by omega) (by omega) (by omega) (by omega)
                  have HAL := Lib.hid hal
                  have HPP := Lib.hid hpp
                  have HFB := Lib.hid hs.fb
                  have HUL := Lib.hid hs.ul
                  clear hal hpp hs hnl hcl6 hgo hdn
                  rcases hcase with hk2I | ⟨hk2I, hqdI⟩
                  all_goals
                    go_wp2_with fail
                    refine HAL.out _ ?_
                    intro F' t' w3 g1 g2 g3 g4 g5 g6 g7 g8 h3
                    obtain ⟨⟨e1, e2, e3⟩, e4, e5, e6⟩ := HPP.out F' t' g6 g7
                    have hmk : ∀ any' value', SP n (3 * q + 3) any' value' F'.pure → StR w n fb ub (3 * q + 3) (1 + q + 1) 0 any' value' F' us2 (w3.alloc (.cells (tkCs t') 54)) := fun any' value' hsp =>
                      ⟨g2.trans HFB.out, g1, g5, hsp, e4, HUL.out, St.drop (L := tkG t') ((h3.junk (.cells (tkCs t') 54)).ac (fun y => by simp only [usB, fbH, fbR, cnt_append, cnt_cons, cnt_nil]; omega))⟩
                    obtain ⟨kind, client, job, rr, gts, over, bad, code, val⟩ := t'
                    simp only [TK.pure] at e1 e2 e3 e5 e6
                    subst e1 e2
                    have HMK := Lib.hid hmk
                    have HE5 := Lib.hid e5
                    have HE6 := Lib.hid e6
                    clear hmk e4 e5 e6 g1 g2 g3 g4 g5 g6 g7 g8 h3 HAL HPP HFB HUL
                    rcases e3 with ⟨rfl, e3⟩ | rfl
                    · cases any with
                      | true =>
                        rw [if_pos rfl] at e3
                        subst e3
                        have HS7 := Lib.hid (HMK.out _ _ (HE5.out rfl))
                        clear HMK HE5 HE6
                        go_wp2
                        go_roundw
                        case rel => exact ⟨q + 1, true, val, F', us2, by omega, rfl, rfl, by go_num, { HS7.out with sp := HS7.out.sp.mono (by omega), boots := HS7.out.boots.mono (by omega) }⟩
                        case measure => simp [intOf]; omega
                      | false =>
                        rw [if_neg (by simp)] at e3
                        subst e3
                        have HS7 := Lib.hid (HMK.out _ _ (HE5.out rfl))
                        clear HMK HE5 HE6
                        go_wp2
                        go_roundw
                        case rel => exact ⟨q + 1, true, (q : Int) + 1, F', us2, by omega, rfl, rfl, by go_num, { HS7.out with sp := HS7.out.sp.mono (by omega), boots := HS7.out.boots.mono (by omega) }⟩
                        case measure => simp [intOf]; omega
                    · have HS7 := Lib.hid (HMK.out _ _ (HE6.out rfl))
                      clear HMK HE5 HE6
                      go_wp2
                      go_roundw
                      case rel => exact ⟨q + 1, any, value, F', us2, by omega, rfl, rfl, by go_num, { HS7.out with sp := HS7.out.sp.mono (by omega), boots := HS7.out.boots.mono (by omega) }⟩
                      case measure => simp [intOf]; omega
      · obtain rfl : rounds.length = q := by omega
        have HZ := Lib.hid hs.st.below
        clear hs
        go_wp2
        go_ret
        exact ⟨rfl, HZ.out⟩
end Go.Proofs.YtaojipegpjolcaaGreat
set_option linter.unusedVariables false
namespace Go.Proofs.YtaojipegpjolcaaGreat.lawPaxosStays
open Go.ChangeShapes Go.WideShapes Go.ChangeAt Go.RowKit Go.Joins Go.Deep

theorem own : ownKnob Tryz.prog.godebug = none := by kernel_rfl
theorem laidOut : laidOutB Tryz.prog = true := by kernel_rfl

set_option maxRecDepth 100000 in
theorem lifted (os : Os) (started : os.Started) (H : Type) (enc : TypeId × Value → H) :
    ReturnsInHanded {} Tryz.checked os 5 .any (Rows.paxosStaysSpec.pre6 enc Tryz.prog Tryz.f5 Rows.paxosStaysRow.domain false) (Rows.paxosStaysSpec.post enc Tryz.prog Tryz.f5 false true false false) := by
  refine returnsInHanded_of_change (C := Tryz.checked) own started (by kernel_rfl) Tryz.func5
    (ChangeSpec.witness6 (enc := enc) (C := Tryz.checked) false ⟨#[], #[.slice none 0 0, .slice none 0 0, .int .i64 0], []⟩ 8 (by kernel_rfl) (by kernel_rfl) (by kernel_rfl) (by kernel_rfl)) ?_
  intro W base args ds gs before hval0 hW hcnd _
  have hval : ∀ (j : Nat) t v, Tryz.f5.params[j]? = some t → args[j]? = some v → Value.okWide Tryz.prog W .any base t v := hval0
  have hW' := hW
  obtain ⟨p, q, hA0, hV, rfl, hfz, hnd⟩ := hW
  have hA : DataW.TrodAll enc Tryz.prog W 0 (fun _ => true) true Tryz.f5.params.toList args.toList ds p := hA0
  rw [Tryz.params5] at hA hval
  obtain ⟨v0, v1, v2, d0, d1, d2, p0, p1, p2, rfl, rfl, rfl, h0, h1, h2⟩ := trodAll_three hA
  obtain ⟨rfl, rfl⟩ := trodVars_none hV
  have lt0 : ∀ x ∈ p0, x.block < W.heap.size := by obtain ⟨m, hm⟩ := h0; exact DataW.trod_lt m _ _ _ hm
  have lt1 : ∀ x ∈ p1, x.block < W.heap.size := by obtain ⟨m, hm⟩ := h1; exact DataW.trod_lt m _ _ _ hm
  have k0 := h0
  have k1 := h1
  obtain ⟨A, rounds, ca, rfl, hra, hrr, hrl⟩ := ints_arg (hval 0 34 v0 rfl rfl) h0
  obtain ⟨B, down, cb, rfl, hda, hdr, hdl⟩ := ints_arg (hval 1 34 v1 rfl rfl) h1
  obtain ⟨n, rfl, rfl, rfl, wn⟩ := open_int Tryz.underlying3 (hval 2 3 v2 rfl rfl) h2
  clear hA0 hval0
  refine (PaxosStays_calls W A B rounds down ca cb n hra hrr hrl hda hdr hdl (int_bounds wn)).mono fun e W' ⟨he, bel⟩ => ?_
  subst he
  exact ⟨_, rfl, _, _, _, [], _, [], hW', trodAll_mk1 (shut_bool Tryz.underlying4 _), (trodAll_cons_mk (Below.trod laidOut (by kernel_rfl) (of_decide_eq_true (by kernel_rfl)) k0 bel lt0) (trodAll_cons_mk (Below.trod laidOut (by kernel_rfl) (of_decide_eq_true (by kernel_rfl)) k1 bel lt1) (trodAll_cons_mk (shut_int Tryz.underlying3 wn) trodAll_mk0))), rfl, bel.frame _, fun h => by cases h⟩

theorem over : Rows.paxosStaysRow.holds Tryz.pinned (OpenSpec.ofChange Rows.paxosStaysSpec) :=
  OpenClaim.holds_of_wide 5 Tryz.f5 rfl rfl rfl rfl rfl rfl rfl ⟨rfl, rfl, rfl, rfl, rfl⟩ rfl rfl rfl rfl rfl (by kernel_rfl) Tryz.func5 (by kernel_rfl)
    (of_decide_eq_true (by kernel_rfl)) (by unfold Func.isWrapper; first | (rw [if_pos (by decide +kernel)]; kernel_rfl) | (rw [if_neg (by decide +kernel)]; exact ⟨rfl, rfl⟩))
    (fun os started H enc _ => lifted os started H enc)

theorem proved : Rows.PaxosStaysSaid := over
#print axioms proved
end Go.Proofs.YtaojipegpjolcaaGreat.lawPaxosStays
