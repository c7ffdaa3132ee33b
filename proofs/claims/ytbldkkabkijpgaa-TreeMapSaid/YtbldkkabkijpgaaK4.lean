/- Part 4 of the proof: lemmas that the row of the law leans on; nothing is assumed. -/
import Derived.Test.YtbldkkabkijpgaaK3
namespace Go.Proofs.Ytbldkkabkijpgaa
open Go.Am

/-- Lists of lists of calls. -/
def opsK : Kd (List OpT) where
  n := 1
  bs := 24
  pos := by decide
  rel D σ cs l := ∃ v, cs = [v] ∧ SlR opK D σ v l
  len := by rintro _ _ _ _ ⟨v, rfl, _⟩; rfl
  one := by
    rintro _ _ _ _ ⟨v, rfl, h⟩
    obtain ⟨_, _, rfl⟩ := h.shape
    rfl
  step := by rintro _ _ _ _ _ _ ⟨v, rfl, h⟩ hm; exact ⟨v, rfl, h.step hm⟩

theorem shr {X Y : List Nat} {τ : AHeap} (h : ∀ q ∈ Y, q ∈ X) : Mv X τ Y τ := ⟨Nat.le_refl _, fun _ _ _ => rfl, fun q _ hq => h q hq⟩

set_option linter.unusedSimpArgs false
section
variable {A : AProg} (hA : Prg A)
include hA

/-- What stands in the heap in TreeMap's loop: the pages, the maps, the roots, the map. -/
structure Mp (hb : Nat) (N Mm Mr : List Nat) (τ : AHeap) (H : List NodeT) (vm vr vl : Value) (maps : List (List OpT)) (roots : List RefT) (l : List OpT) : Prop where
  is : (heapStore hA hb).is (Mm ++ Mr) N τ H
  hm : Own opsK (N ++ Mr) τ Mm vm maps
  hr : Own refK (N ++ Mm) τ Mr vr roots
  hl : SlR opK (N ++ (Mm ++ Mr)) τ vl l

variable {hA}
theorem Mp.lt {hb N Mm Mr τ H vm vr vl maps roots l} (g : Mp hA hb N Mm Mr τ H vm vr vl maps roots l) : (∀ q ∈ Mm ++ Mr, q < τ.size) ∧ ∀ q ∈ N ++ (Mm ++ Mr), q < τ.size :=
  have h := lt_app g.hm.lt g.hr.lt (Nat.le_refl _)
  ⟨h, lt_app (fun q hq => (heapStore hA hb).lt g.is q hq) h (Nat.le_refl _)⟩

theorem Mp.call {hb N Mm Mr τ H vm vr vl maps roots l N' τ' H'} (g : Mp hA hb N Mm Mr τ H vm vr vl maps roots l) (hi : (heapStore hA hb).is (Mm ++ Mr) N' τ' H') (h : Mv N τ N' τ') : Mp hA hb N' Mm Mr τ' H' vm vr vl maps roots l :=
  ⟨hi, g.hm.step (h.post Mr), g.hr.step (h.post Mm), g.hl.step (h.post (Mm ++ Mr))⟩

theorem Mp.fresh {hb N Mm Mr τ H vm vr vl maps roots l M τ'} (g : Mp hA hb N Mm Mr τ H vm vr vl maps roots l) (h : Mv [] τ M τ') : Mp hA hb N Mm Mr τ' H vm vr vl maps roots l :=
  ⟨(heapStore hA hb).step g.is (h.any _), g.hm.step (h.any _), g.hr.step (h.any _), g.hl.step (h.any _)⟩

theorem Mp.list {hb N Mm Mr τ H vm vr vl maps roots l vl' l'} (g : Mp hA hb N Mm Mr τ H vm vr vl maps roots l) (h : SlR opK (N ++ (Mm ++ Mr)) τ vl' l') : Mp hA hb N Mm Mr τ H vm vr vl' maps roots l' := ⟨g.is, g.hm, g.hr, h⟩

theorem Mp.roots {hb N Mm Mr τ H vm vr vl maps roots l Mr' τ' vr' roots'} (g : Mp hA hb N Mm Mr τ H vm vr vl maps roots l) (ho : Own refK (N ++ Mm) τ' Mr' vr' roots') (h : Mv Mr τ Mr' τ') : Mp hA hb N Mm Mr' τ' H vm vr' vl maps roots' l :=
  ⟨(heapStore hA hb).step g.is (h.pre Mm), g.hm.step (h.pre N), ho, g.hl.step ((h.pre Mm).pre N)⟩

theorem Mp.maps {hb N Mm Mr τ H vm vr vl maps roots l Mm' τ' vm' maps'} (g : Mp hA hb N Mm Mr τ H vm vr vl maps roots l) (ho : Own opsK (N ++ Mr) τ' Mm' vm' maps') (h : Mv Mm τ Mm' τ') : Mp hA hb N Mm' Mr τ' H vm' vr vl maps' roots l :=
  ⟨(heapStore hA hb).step g.is (h.post Mr), ho, g.hr.step (h.pre N), g.hl.step ((h.post Mr).pre N)⟩

theorem Mp.push {hb N Mm Mr τ H vm vr vl maps roots l} (g : Mp hA hb N Mm Mr τ H vm vr vl maps roots l) (x : ABlk) : Mp hA hb N Mm Mr (τ.push x) H vm vr vl maps roots l := g.fresh (Mv.push [] τ x)

variable (hA)

/-- All roots still lead to what they led to. -/
def AllOk (H : List NodeT) (roots : List RefT) (maps : List (List OpT)) : Prop := ∀ (j : Nat) r m, roots[j]? = some r → maps[j]? = some m → ∃ h es, Tree H h r es ∧ Rep m es ∧ es.length ≤ 41

omit hA in
theorem AllOk.mono {H : List NodeT} {roots : List RefT} {maps : List (List OpT)} (X : List NodeT) (a : AllOk H roots maps) : AllOk (H ++ X) roots maps := fun j r m h1 h2 => by
  obtain ⟨h, es, t, k⟩ := a j r m h1 h2
  exact ⟨h, es, t.mono X, k⟩

omit hA in
theorem AllOk.snoc {H : List NodeT} {roots : List RefT} {maps : List (List OpT)} (a : AllOk H roots maps) (hl : roots.length = maps.length) {h : Nat} {r : RefT} {es : List Ent} {l : List OpT} (t : Tree H h r es) (k : Rep l es) (he : es.length ≤ 41) : AllOk H (roots ++ [r]) (maps ++ [l]) := fun j r' m h1 h2 => by
  rcases Nat.lt_trichotomy j roots.length with hj | hj | hj
  · rw [List.getElem?_append_left hj] at h1
    rw [List.getElem?_append_left (by omega)] at h2
    exact a j r' m h1 h2
  · subst hj
    rw [List.getElem?_append_right (Nat.le_refl _), Nat.sub_self] at h1
    rw [hl, List.getElem?_append_right (Nat.le_refl _), Nat.sub_self] at h2
    obtain rfl := Option.some.inj h1
    obtain rfl := Option.some.inj h2
    exact ⟨h, es, t, k, he⟩
  · rw [List.getElem?_eq_none (by simp; omega)] at h1
    simp at h1

set_option maxHeartbeats 2000000 in
theorem c11 {σ vr} {raw : List OpT} (hvr : vr = .slice none 0 0 ∨ ∃ base, vr = .slice base raw.length (raw.length + 5)) (hr : SlR opK [] σ vr raw) : C A 11 [vr] σ fun r _ => r = .bool true := by
  refine C_fn s11 (hA.at rfl) ?_
  obtain ⟨br, cr, rfl⟩ := hr.shape
  simp only [s11, sx, argsFr, Sq, SI.wanted, AFr.ev, AFr.evV, AFr.get, AFr.box, AFr.put, AFr.setb, AV.val, callee, evArgs, aBin, aUn, oneCell, cellsOf, Value.cells, evParts, evElems, evAll, fillP, zeros, RetK, resAll, resOf, tupleOf, bnd, intOf?, AFr.keep, RefT.cells, undef, Nat.reduceBEq, Nat.reduceAdd, Nat.reduceMul, Nat.reduceLeDiff, Nat.reduceEqDiff, reduceCtorEq, Int.reduceEq, Int.reduceLT, Int.reduceLE, Int.reduceAdd, Int.reduceSub]
  refine Or.inl (c13 hA (D0 := []) (by simp) (fun σ1 hh1 hm1 => ?_))
  simp only [sx, argsFr, Sq, SI.wanted, AFr.ev, AFr.evV, AFr.get, AFr.box, AFr.put, AFr.setb, AV.val, callee, evArgs, aBin, aUn, oneCell, cellsOf, Value.cells, evParts, evElems, evAll, fillP, zeros, RetK, resAll, resOf, tupleOf, bnd, intOf?, AFr.keep, RefT.cells, undef, Nat.reduceBEq, Nat.reduceAdd, Nat.reduceMul, Nat.reduceLeDiff, Nat.reduceEqDiff, reduceCtorEq, Int.reduceEq, Int.reduceLT, Int.reduceLE, Int.reduceAdd, Int.reduceSub, aEq]
  refine Or.inl (c14 hA (heapStore hA σ.size) (D0 := []) (N := [] ++ [σ.size]) (s := []) ⟨[], rfl, hh1, by simp⟩ (by simp) (fun e s' N' σ2 hw he hi hm => ?_) (fun root s' N' σ2 hw hi2 hm2 => ?_))
  · simp [heapStore] at hw
  have hw : refN 0 = root ∧ [⟨true, [], []⟩] = s' := by simpa [heapStore] using hw
  obtain ⟨rfl, rfl⟩ := hw
  have t0 : Tree [(⟨true, [], []⟩ : NodeT)] 0 (refN 0) [] := ⟨⟨⟨true, [], []⟩, rfl, rfl, by simp [sizeP], .inl rfl⟩, List.Pairwise.nil⟩
  simp only [sx, argsFr, Sq, SI.wanted, AFr.ev, AFr.evV, AFr.get, AFr.box, AFr.put, AFr.setb, AV.val, callee, evArgs, aBin, aUn, oneCell, cellsOf, Value.cells, evParts, evElems, evAll, fillP, zeros, RetK, resAll, resOf, tupleOf, bnd, intOf?, AFr.keep, RefT.cells, undef, Nat.reduceBEq, Nat.reduceAdd, Nat.reduceMul, Nat.reduceLeDiff, Nat.reduceEqDiff, reduceCtorEq, Int.reduceEq, Int.reduceLT, Int.reduceLE, Int.reduceAdd, Int.reduceSub, Array.size_push]
  have hmA : Mv [] σ N' σ2 := hm1.trans hm2
  have hr2 : SlR opK N' σ2 (.slice br raw.length cr) raw := hr.step hmA
  have hN2 : ∀ q ∈ N', q < σ2.size := fun q hq => (heapStore hA σ.size).lt hi2 q hq
  have hro := Own.newRow (K := refK) (D := N') (σ := σ2) (e := 4) (c := 5) (cells := [.int .u64 (refN 0).key, .int .i64 (refN 0).seg, .int .i64 (refN 0).off, .int .i64 (refN 0).len]) (xs := [refN 0]) rfl hN2 rfl (show 1 * 32 ≤ maxN by decide) rfl (Kd.list_one rfl)
  refine Sr_app (K := opsK) (D := N' ++ [σ2.size]) (N := []) (xs := []) (ys := [[]]) (new := [.slice none 0 0]) (v := .slice none 0 0) (by simp only [sx, argsFr, Sq, SI.wanted, AFr.ev, AFr.evV, AFr.get, AFr.box, AFr.put, AFr.setb, AV.val, callee, evArgs, aBin, aUn, oneCell, cellsOf, Value.cells, evParts, evElems, evAll, fillP, zeros, RetK, resAll, resOf, tupleOf, bnd, intOf?, AFr.keep, RefT.cells, undef, Nat.reduceBEq, Nat.reduceAdd, Nat.reduceMul, Nat.reduceLeDiff, Nat.reduceEqDiff, reduceCtorEq, Int.reduceEq, Int.reduceLT, Int.reduceLE, Int.reduceAdd, Int.reduceSub]) .nil rfl (by decide) (by simp [srcOf, AFr.ev, AFr.get, AFr.put, List.lookup, Array.getElem_push]) rfl (Kd.list_one ⟨_, rfl, .nil⟩) rfl
    (by unfold maxN; simp) (fun vm Mm τ1 hom hmm => ?_) (fun q hq => by
      simp only [List.mem_append, List.mem_singleton] at hq
      rcases hq with hq | hq
      · have := hN2 q hq; simp; omega
      · simp; omega)
  have hmv1 : Mv [] σ2 (Mm ++ [σ2.size]) τ1 := ((Mv.new [] σ2 _).trans (Mv.push _ _ _)).trans (hmm.post [σ2.size])
  have g0 : Mp hA σ.size N' Mm [σ2.size] τ1 [⟨true, [], []⟩] vm (.slice (some ⟨σ2.size, 0, none⟩) 1 5) (.slice none 0 0) [[]] [refN 0] [] :=
    ⟨(heapStore hA σ.size).step hi2 hmv1, hom, (hro.step (Mv.push _ _ _)).step (by simpa using hmm.pre N'), .nil⟩
  have hr3 : SlR opK (N' ++ (Mm ++ [σ2.size])) τ1 (.slice br raw.length cr) raw := hr2.step (by simpa using hmv1.pre N')
  obtain ⟨bm, cm, rfl⟩ := hom.shape
  simp only [sx, argsFr, Sq, SI.wanted, AFr.ev, AFr.evV, AFr.get, AFr.box, AFr.put, AFr.setb, AV.val, callee, evArgs, aBin, aUn, oneCell, cellsOf, Value.cells, evParts, evElems, evAll, fillP, zeros, RetK, resAll, resOf, tupleOf, bnd, intOf?, AFr.keep, RefT.cells, undef, Nat.reduceBEq, Nat.reduceAdd, Nat.reduceMul, Nat.reduceLeDiff, Nat.reduceEqDiff, reduceCtorEq, Int.reduceEq, Int.reduceLT, Int.reduceLE, Int.reduceAdd, Int.reduceSub]
  refine Or.inl (c15x hA (most := 40) hvr hr3 (fun b3 c3 hsl => ?_))
  simp only [sx, argsFr, Sq, SI.wanted, AFr.ev, AFr.evV, AFr.get, AFr.box, AFr.put, AFr.setb, AV.val, callee, evArgs, aBin, aUn, oneCell, cellsOf, Value.cells, evParts, evElems, evAll, fillP, zeros, RetK, resAll, resOf, tupleOf, bnd, intOf?, AFr.keep, RefT.cells, undef, Nat.reduceBEq, Nat.reduceAdd, Nat.reduceMul, Nat.reduceLeDiff, Nat.reduceEqDiff, reduceCtorEq, Int.reduceEq, Int.reduceLT, Int.reduceLE, Int.reduceAdd, Int.reduceSub]
  have hraw : (raw.take 40).length ≤ 40 := by simp; omega
  generalize raw.take 40 = l at hsl hraw
  have all0 : AllOk [(⟨true, [], []⟩ : NodeT)] [refN 0] [[]] := by
    have := AllOk.snoc (H := [(⟨true, [], []⟩ : NodeT)]) (roots := []) (maps := []) (fun j r m h => by simp at h) rfl t0 Rep.nil (by simp)
    exact this
  refine Lp_ind (fun i => l.length - i) (fun i f τ => ∃ H h root es N Mm Mr vm vr vl maps roots lc, f.keep [3, 4, 6, 7, 8, 40, 41, 42] [4] =
      some ⟨[(3, .v (.pointer (some ⟨σ.size, 0, none⟩))), (4, .l 4 0), (6, .v vm), (7, .v vl), (8, .v vr), (40, .v (.slice b3 l.length c3)), (41, .v (.int .i64 l.length)), (42, .v (.int .i64 i))], [(4, RefT.cells root)]⟩ ∧
    i ≤ l.length ∧ Mp hA σ.size N Mm Mr τ H vm vr vl maps roots lc ∧ Tree H h root es ∧ Rep lc es ∧ es.length ≤ i ∧ H.length ≤ 1 + 60 * i ∧ roots.length = i + 1 ∧ maps.length = i + 1 ∧ AllOk H roots maps ∧
    SlR opK (N ++ (Mm ++ Mr)) τ (.slice b3 l.length c3) l) ?_ 0 _ _ ⟨_, 0, refN 0, [], N', Mm, _, _, _, _, _, _, _, rfl, Nat.zero_le _, g0, t0, Rep.nil, Nat.le_refl _, by simp, rfl, rfl, all0, hsl⟩
  clear g0 hsl hr3 hmv1 hro hom hmm hmA hr2 hm1 hm2 hi2
  rintro i f τ ⟨H, h, root, es, N, Mm, Mr, vm, vr, vl, maps, roots, lc, hkp, hi, g, ht, rep, hes, hH, hrl, hml, hall, hsl⟩ ih
  rw [St_seq, St_keep hkp]
  clear hkp
  simp only [sx, argsFr, Sq, SI.wanted, AFr.ev, AFr.evV, AFr.get, AFr.box, AFr.put, AFr.setb, AV.val, callee, evArgs, aBin, aUn, oneCell, cellsOf, Value.cells, evParts, evElems, evAll, fillP, zeros, RetK, resAll, resOf, tupleOf, bnd, intOf?, AFr.keep, RefT.cells, undef, Nat.reduceBEq, Nat.reduceAdd, Nat.reduceMul, Nat.reduceLeDiff, Nat.reduceEqDiff, reduceCtorEq, Int.reduceEq, Int.reduceLT, Int.reduceLE, Int.reduceAdd, Int.reduceSub]
  refine Cd_split (fun hc => ?_) (fun hc => ?_)
  · have hi' : i < l.length := by simpa using hc
    have hw : IntKind.i64.wrap ((i : Int) + 1) = ((i + 1 : Nat) : Int) := wrap_up (by omega)
    have hsl0 := hsl
    obtain ⟨b, off, cs5, e5, m5, cells, rfl, hb, hcut, y, hy, hys⟩ := hsl.atN (j := 5) rfl (List.getElem?_eq_getElem hi')
    subst hy
    obtain ⟨b6, c6, rfl⟩ := hys.shape
    obtain ⟨bv, cv, hvl⟩ := g.hl.shape
    subst hvl
    have hlc := rep.len
    have hh6 := ht.low_height (by omega)
    by_cases hd : l[i].d = 1
    · simp only [sx, argsFr, Sq, SI.wanted, AFr.ev, AFr.evV, AFr.get, AFr.box, AFr.put, AFr.setb, AV.val, callee, evArgs, aBin, aUn, oneCell, cellsOf, Value.cells, evParts, evElems, evAll, fillP, zeros, RetK, resAll, resOf, tupleOf, bnd, intOf?, AFr.keep, RefT.cells, undef, Nat.reduceBEq, Nat.reduceAdd, Nat.reduceMul, Nat.reduceLeDiff, Nat.reduceEqDiff, reduceCtorEq, Int.reduceEq, Int.reduceLT, Int.reduceLE, Int.reduceAdd, Int.reduceSub, hb, hi', hcut, hd]
      obtain ⟨hyes, hno⟩ := deleteT_ok hA σ.size l[i].name ht (by omega) (by omega)
      have hdl : (del l[i].name es).length ≤ es.length := List.length_filter_le _ _
      by_cases hf : ∃ e ∈ es, e.name = l[i].name
      · obtain ⟨to, X, h', hdel, ht', hX, hh1, hh2⟩ := hyes hf
        have hhas : (hasP lc l[i].name).isSome = true := by
          rw [hasP_none]
          obtain ⟨e, he, hen⟩ := hf
          obtain ⟨o, ho, rfl⟩ := rep.mem he
          exact ⟨o, ho, hen⟩
        refine Or.inl (c37 hA (heapStore hA σ.size) g.is g.lt.1 hdel (fun N2 τ2 hi2 hm2 => ?_))
        have g1 := g.call hi2 hm2
        simp only [sx, argsFr, Sq, SI.wanted, AFr.ev, AFr.evV, AFr.get, AFr.box, AFr.put, AFr.setb, AV.val, callee, evArgs, aBin, aUn, oneCell, cellsOf, Value.cells, evParts, evElems, evAll, fillP, zeros, RetK, resAll, resOf, tupleOf, bnd, intOf?, AFr.keep, RefT.cells, undef, Nat.reduceBEq, Nat.reduceAdd, Nat.reduceMul, Nat.reduceLeDiff, Nat.reduceEqDiff, reduceCtorEq, Int.reduceEq, Int.reduceLT, Int.reduceLE, Int.reduceAdd, Int.reduceSub]
        refine Or.inl (c45 hA g1.hl ?_)
        rw [hhas]
        simp only [sx, argsFr, Sq, SI.wanted, AFr.ev, AFr.evV, AFr.get, AFr.box, AFr.put, AFr.setb, AV.val, callee, evArgs, aBin, aUn, oneCell, cellsOf, Value.cells, evParts, evElems, evAll, fillP, zeros, RetK, resAll, resOf, tupleOf, bnd, intOf?, AFr.keep, RefT.cells, undef, Nat.reduceBEq, Nat.reduceAdd, Nat.reduceMul, Nat.reduceLeDiff, Nat.reduceEqDiff, reduceCtorEq, Int.reduceEq, Int.reduceLT, Int.reduceLE, Int.reduceAdd, Int.reduceSub, aEq, beq_self_eq_true]
        refine Or.inl (c38 hA g1.hl g1.lt.2 (by omega) (fun vl' M τ3 hol hml3 => ?_))
        have g1 := (g1.fresh hml3).list hol.sl
        have rep' := rep.del l[i].name
        generalize lc.filter (fun o => decide (o.name ≠ l[i].name)) = lq at *
        obtain ⟨bx, cx, rfl⟩ := hol.shape
        simp only [sx, argsFr, Sq, SI.wanted, AFr.ev, AFr.evV, AFr.get, AFr.box, AFr.put, AFr.setb, AV.val, callee, evArgs, aBin, aUn, oneCell, cellsOf, Value.cells, evParts, evElems, evAll, fillP, zeros, RetK, resAll, resOf, tupleOf, bnd, intOf?, AFr.keep, RefT.cells, undef, Nat.reduceBEq, Nat.reduceAdd, Nat.reduceMul, Nat.reduceLeDiff, Nat.reduceEqDiff, reduceCtorEq, Int.reduceEq, Int.reduceLT, Int.reduceLE, Int.reduceAdd, Int.reduceSub]
        have hlen' : (lq).length ≤ 41 := by have := (rep').len; omega
        have g2 := (g1).push (.row (RefT.cells to) 4 .W)
        simp only [RefT.cells] at g2
        refine Sr_app (K := refK) (D := N2 ++ Mm) (N := Mr) (v := vr) (ys := [to]) (new := RefT.cells to) (by simp only [sx, argsFr, Sq, SI.wanted, AFr.ev, AFr.evV, AFr.get, AFr.box, AFr.put, AFr.setb, AV.val, callee, evArgs, aBin, aUn, oneCell, cellsOf, Value.cells, evParts, evElems, evAll, fillP, zeros, RetK, resAll, resOf, tupleOf, bnd, intOf?, AFr.keep, RefT.cells, undef, Nat.reduceBEq, Nat.reduceAdd, Nat.reduceMul, Nat.reduceLeDiff, Nat.reduceEqDiff, reduceCtorEq, Int.reduceEq, Int.reduceLT, Int.reduceLE, Int.reduceAdd, Int.reduceSub]) g2.hr rfl (by decide) (by simp [srcOf, AFr.ev, AFr.get, AFr.put, List.lookup, RefT.cells]) rfl (Kd.list_one rfl) rfl
          (by unfold maxN; simp only [List.length_singleton]; omega) (fun v3 Mr3 τ3 ho3 hm3 => ?_) (fun q hq => g2.lt.2 q (by simp only [List.mem_append] at hq ⊢; grind))
        have g3 := g2.roots ho3 hm3
        have hraw3 := (((hsl0.step (hm2.post (Mm ++ Mr))).step (hml3.any _)).step (Mv.push _ _ _)).step ((hm3.pre Mm).pre N2)
        obtain ⟨b30, c30, rfl⟩ := ho3.shape
        simp only [sx, argsFr, Sq, SI.wanted, AFr.ev, AFr.evV, AFr.get, AFr.box, AFr.put, AFr.setb, AV.val, callee, evArgs, aBin, aUn, oneCell, cellsOf, Value.cells, evParts, evElems, evAll, fillP, zeros, RetK, resAll, resOf, tupleOf, bnd, intOf?, AFr.keep, RefT.cells, undef, Nat.reduceBEq, Nat.reduceAdd, Nat.reduceMul, Nat.reduceLeDiff, Nat.reduceEqDiff, reduceCtorEq, Int.reduceEq, Int.reduceLT, Int.reduceLE, Int.reduceAdd, Int.reduceSub]
        have g4 := g3.push (.row [.slice bx (lq).length cx] 1 .W)
        have hraw4 := hraw3.step (Mv.push _ τ3 (.row [.slice bx (lq).length cx] 1 .W))
        refine Sr_app (K := opsK) (D := N2 ++ Mr3) (N := Mm) (v := vm) (ys := [lq]) (new := [.slice bx (lq).length cx]) (by simp only [sx, argsFr, Sq, SI.wanted, AFr.ev, AFr.evV, AFr.get, AFr.box, AFr.put, AFr.setb, AV.val, callee, evArgs, aBin, aUn, oneCell, cellsOf, Value.cells, evParts, evElems, evAll, fillP, zeros, RetK, resAll, resOf, tupleOf, bnd, intOf?, AFr.keep, RefT.cells, undef, Nat.reduceBEq, Nat.reduceAdd, Nat.reduceMul, Nat.reduceLeDiff, Nat.reduceEqDiff, reduceCtorEq, Int.reduceEq, Int.reduceLT, Int.reduceLE, Int.reduceAdd, Int.reduceSub]) g4.hm rfl (by decide) (by simp [srcOf, AFr.ev, AFr.get, AFr.put, List.lookup]) rfl (Kd.list_one ⟨_, rfl, g4.hl.step (shr (fun q hq => by simp only [List.mem_append] at hq ⊢; grind))⟩) rfl
          (by unfold maxN; simp only [List.length_singleton]; omega) (fun v5 Mm5 τ5 ho5 hm5 => ?_) (fun q hq => g4.lt.2 q (by simp only [List.mem_append] at hq ⊢; grind))
        have g5 := g4.maps ho5 hm5
        have hraw5 := hraw4.step ((hm5.post Mr3).pre N2)
        obtain ⟨b50, c50, rfl⟩ := ho5.shape
        simp only [sx, argsFr, Sq, SI.wanted, AFr.ev, AFr.evV, AFr.get, AFr.box, AFr.put, AFr.setb, AV.val, callee, evArgs, aBin, aUn, oneCell, cellsOf, Value.cells, evParts, evElems, evAll, fillP, zeros, RetK, resAll, resOf, tupleOf, bnd, intOf?, AFr.keep, RefT.cells, undef, Nat.reduceBEq, Nat.reduceAdd, Nat.reduceMul, Nat.reduceLeDiff, Nat.reduceEqDiff, reduceCtorEq, Int.reduceEq, Int.reduceLT, Int.reduceLE, Int.reduceAdd, Int.reduceSub]
        refine Or.inl (c39 hA g5.is g5.lt.1 ht' (by omega) (by omega) (g5.hl.step (shr (fun q hq => by simp [hq]))) rep' (fun N6 τ6 hi6 hm6 => ?_))
        simp only [sx, argsFr, Sq, SI.wanted, AFr.ev, AFr.evV, AFr.get, AFr.box, AFr.put, AFr.setb, AV.val, callee, evArgs, aBin, aUn, oneCell, cellsOf, Value.cells, evParts, evElems, evAll, fillP, zeros, RetK, resAll, resOf, tupleOf, bnd, intOf?, AFr.keep, RefT.cells, undef, Nat.reduceBEq, Nat.reduceAdd, Nat.reduceMul, Nat.reduceLeDiff, Nat.reduceEqDiff, reduceCtorEq, Int.reduceEq, Int.reduceLT, Int.reduceLE, Int.reduceAdd, Int.reduceSub]
        refine ih (i + 1) _ _ (by omega) ⟨H ++ X, h', to, del l[i].name es, N6, Mm5, Mr3, _, _, _, _, _, _, ?_, by omega, g5.call hi6 hm6, ht', rep', by omega, by rw [List.length_append]; omega, by simp only [List.length_append, List.length_singleton]; omega, by simp only [List.length_append, List.length_singleton]; omega,
          AllOk.snoc (hall.mono X) (by omega) ht' rep' (by omega), hraw5.step (hm6.post (Mm5 ++ Mr3))⟩
        simp only [sx, argsFr, Sq, SI.wanted, AFr.ev, AFr.evV, AFr.get, AFr.box, AFr.put, AFr.setb, AV.val, callee, evArgs, aBin, aUn, oneCell, cellsOf, Value.cells, evParts, evElems, evAll, fillP, zeros, RetK, resAll, resOf, tupleOf, bnd, intOf?, AFr.keep, RefT.cells, undef, Nat.reduceBEq, Nat.reduceAdd, Nat.reduceMul, Nat.reduceLeDiff, Nat.reduceEqDiff, reduceCtorEq, Int.reduceEq, Int.reduceLT, Int.reduceLE, Int.reduceAdd, Int.reduceSub, hw]
      · have hhas : (hasP lc l[i].name).isSome = false := by
          rw [Bool.eq_false_iff, Ne, hasP_none]
          rintro ⟨o, ho, hon⟩
          exact hf ⟨entS o, rep.got ho, hon⟩
        refine Or.inl (c37 hA (heapStore hA σ.size) g.is g.lt.1 (hno hf) (fun N2 τ2 hi2 hm2 => ?_))
        have g1 := g.call hi2 hm2
        simp only [sx, argsFr, Sq, SI.wanted, AFr.ev, AFr.evV, AFr.get, AFr.box, AFr.put, AFr.setb, AV.val, callee, evArgs, aBin, aUn, oneCell, cellsOf, Value.cells, evParts, evElems, evAll, fillP, zeros, RetK, resAll, resOf, tupleOf, bnd, intOf?, AFr.keep, RefT.cells, undef, Nat.reduceBEq, Nat.reduceAdd, Nat.reduceMul, Nat.reduceLeDiff, Nat.reduceEqDiff, reduceCtorEq, Int.reduceEq, Int.reduceLT, Int.reduceLE, Int.reduceAdd, Int.reduceSub]
        refine Or.inl (c45 hA g1.hl ?_)
        rw [hhas]
        simp only [sx, argsFr, Sq, SI.wanted, AFr.ev, AFr.evV, AFr.get, AFr.box, AFr.put, AFr.setb, AV.val, callee, evArgs, aBin, aUn, oneCell, cellsOf, Value.cells, evParts, evElems, evAll, fillP, zeros, RetK, resAll, resOf, tupleOf, bnd, intOf?, AFr.keep, RefT.cells, undef, Nat.reduceBEq, Nat.reduceAdd, Nat.reduceMul, Nat.reduceLeDiff, Nat.reduceEqDiff, reduceCtorEq, Int.reduceEq, Int.reduceLT, Int.reduceLE, Int.reduceAdd, Int.reduceSub, aEq, beq_self_eq_true]
        refine Be_ref hA root root (.inr rfl) ?_
        simp only [sx, argsFr, Sq, SI.wanted, AFr.ev, AFr.evV, AFr.get, AFr.box, AFr.put, AFr.setb, AV.val, callee, evArgs, aBin, aUn, oneCell, cellsOf, Value.cells, evParts, evElems, evAll, fillP, zeros, RetK, resAll, resOf, tupleOf, bnd, intOf?, AFr.keep, RefT.cells, undef, Nat.reduceBEq, Nat.reduceAdd, Nat.reduceMul, Nat.reduceLeDiff, Nat.reduceEqDiff, reduceCtorEq, Int.reduceEq, Int.reduceLT, Int.reduceLE, Int.reduceAdd, Int.reduceSub, decide_true]
        refine Or.inl (c38 hA g1.hl g1.lt.2 (by omega) (fun vl' M τ3 hol hml3 => ?_))
        have g1 := (g1.fresh hml3).list hol.sl
        have rep' := rep.del l[i].name
        rw [del_none hf] at rep'
        generalize lc.filter (fun o => decide (o.name ≠ l[i].name)) = lq at *
        obtain ⟨bx, cx, rfl⟩ := hol.shape
        simp only [sx, argsFr, Sq, SI.wanted, AFr.ev, AFr.evV, AFr.get, AFr.box, AFr.put, AFr.setb, AV.val, callee, evArgs, aBin, aUn, oneCell, cellsOf, Value.cells, evParts, evElems, evAll, fillP, zeros, RetK, resAll, resOf, tupleOf, bnd, intOf?, AFr.keep, RefT.cells, undef, Nat.reduceBEq, Nat.reduceAdd, Nat.reduceMul, Nat.reduceLeDiff, Nat.reduceEqDiff, reduceCtorEq, Int.reduceEq, Int.reduceLT, Int.reduceLE, Int.reduceAdd, Int.reduceSub]
        have hlen' : (lq).length ≤ 41 := by have := (rep').len; omega
        have g2 := (g1).push (.row (RefT.cells root) 4 .W)
        simp only [RefT.cells] at g2
        refine Sr_app (K := refK) (D := N2 ++ Mm) (N := Mr) (v := vr) (ys := [root]) (new := RefT.cells root) (by simp only [sx, argsFr, Sq, SI.wanted, AFr.ev, AFr.evV, AFr.get, AFr.box, AFr.put, AFr.setb, AV.val, callee, evArgs, aBin, aUn, oneCell, cellsOf, Value.cells, evParts, evElems, evAll, fillP, zeros, RetK, resAll, resOf, tupleOf, bnd, intOf?, AFr.keep, RefT.cells, undef, Nat.reduceBEq, Nat.reduceAdd, Nat.reduceMul, Nat.reduceLeDiff, Nat.reduceEqDiff, reduceCtorEq, Int.reduceEq, Int.reduceLT, Int.reduceLE, Int.reduceAdd, Int.reduceSub]) g2.hr rfl (by decide) (by simp [srcOf, AFr.ev, AFr.get, AFr.put, List.lookup, RefT.cells]) rfl (Kd.list_one rfl) rfl
          (by unfold maxN; simp only [List.length_singleton]; omega) (fun v3 Mr3 τ3 ho3 hm3 => ?_) (fun q hq => g2.lt.2 q (by simp only [List.mem_append] at hq ⊢; grind))
        have g3 := g2.roots ho3 hm3
        have hraw3 := (((hsl0.step (hm2.post (Mm ++ Mr))).step (hml3.any _)).step (Mv.push _ _ _)).step ((hm3.pre Mm).pre N2)
        obtain ⟨b30, c30, rfl⟩ := ho3.shape
        simp only [sx, argsFr, Sq, SI.wanted, AFr.ev, AFr.evV, AFr.get, AFr.box, AFr.put, AFr.setb, AV.val, callee, evArgs, aBin, aUn, oneCell, cellsOf, Value.cells, evParts, evElems, evAll, fillP, zeros, RetK, resAll, resOf, tupleOf, bnd, intOf?, AFr.keep, RefT.cells, undef, Nat.reduceBEq, Nat.reduceAdd, Nat.reduceMul, Nat.reduceLeDiff, Nat.reduceEqDiff, reduceCtorEq, Int.reduceEq, Int.reduceLT, Int.reduceLE, Int.reduceAdd, Int.reduceSub]
        have g4 := g3.push (.row [.slice bx (lq).length cx] 1 .W)
        have hraw4 := hraw3.step (Mv.push _ τ3 (.row [.slice bx (lq).length cx] 1 .W))
        refine Sr_app (K := opsK) (D := N2 ++ Mr3) (N := Mm) (v := vm) (ys := [lq]) (new := [.slice bx (lq).length cx]) (by simp only [sx, argsFr, Sq, SI.wanted, AFr.ev, AFr.evV, AFr.get, AFr.box, AFr.put, AFr.setb, AV.val, callee, evArgs, aBin, aUn, oneCell, cellsOf, Value.cells, evParts, evElems, evAll, fillP, zeros, RetK, resAll, resOf, tupleOf, bnd, intOf?, AFr.keep, RefT.cells, undef, Nat.reduceBEq, Nat.reduceAdd, Nat.reduceMul, Nat.reduceLeDiff, Nat.reduceEqDiff, reduceCtorEq, Int.reduceEq, Int.reduceLT, Int.reduceLE, Int.reduceAdd, Int.reduceSub]) g4.hm rfl (by decide) (by simp [srcOf, AFr.ev, AFr.get, AFr.put, List.lookup]) rfl (Kd.list_one ⟨_, rfl, g4.hl.step (shr (fun q hq => by simp only [List.mem_append] at hq ⊢; grind))⟩) rfl
          (by unfold maxN; simp only [List.length_singleton]; omega) (fun v5 Mm5 τ5 ho5 hm5 => ?_) (fun q hq => g4.lt.2 q (by simp only [List.mem_append] at hq ⊢; grind))
        have g5 := g4.maps ho5 hm5
        have hraw5 := hraw4.step ((hm5.post Mr3).pre N2)
        obtain ⟨b50, c50, rfl⟩ := ho5.shape
        simp only [sx, argsFr, Sq, SI.wanted, AFr.ev, AFr.evV, AFr.get, AFr.box, AFr.put, AFr.setb, AV.val, callee, evArgs, aBin, aUn, oneCell, cellsOf, Value.cells, evParts, evElems, evAll, fillP, zeros, RetK, resAll, resOf, tupleOf, bnd, intOf?, AFr.keep, RefT.cells, undef, Nat.reduceBEq, Nat.reduceAdd, Nat.reduceMul, Nat.reduceLeDiff, Nat.reduceEqDiff, reduceCtorEq, Int.reduceEq, Int.reduceLT, Int.reduceLE, Int.reduceAdd, Int.reduceSub]
        refine Or.inl (c39 hA g5.is g5.lt.1 ht (by omega) (by omega) (g5.hl.step (shr (fun q hq => by simp [hq]))) rep' (fun N6 τ6 hi6 hm6 => ?_))
        simp only [sx, argsFr, Sq, SI.wanted, AFr.ev, AFr.evV, AFr.get, AFr.box, AFr.put, AFr.setb, AV.val, callee, evArgs, aBin, aUn, oneCell, cellsOf, Value.cells, evParts, evElems, evAll, fillP, zeros, RetK, resAll, resOf, tupleOf, bnd, intOf?, AFr.keep, RefT.cells, undef, Nat.reduceBEq, Nat.reduceAdd, Nat.reduceMul, Nat.reduceLeDiff, Nat.reduceEqDiff, reduceCtorEq, Int.reduceEq, Int.reduceLT, Int.reduceLE, Int.reduceAdd, Int.reduceSub]
        refine ih (i + 1) _ _ (by omega) ⟨H, h, root, es, N6, Mm5, Mr3, _, _, _, _, _, _, ?_, by omega, g5.call hi6 hm6, ht, rep', by omega, by omega, by simp only [List.length_append, List.length_singleton]; omega, by simp only [List.length_append, List.length_singleton]; omega,
          AllOk.snoc hall (by omega) ht rep' (by omega), hraw5.step (hm6.post (Mm5 ++ Mr3))⟩
        simp only [sx, argsFr, Sq, SI.wanted, AFr.ev, AFr.evV, AFr.get, AFr.box, AFr.put, AFr.setb, AV.val, callee, evArgs, aBin, aUn, oneCell, cellsOf, Value.cells, evParts, evElems, evAll, fillP, zeros, RetK, resAll, resOf, tupleOf, bnd, intOf?, AFr.keep, RefT.cells, undef, Nat.reduceBEq, Nat.reduceAdd, Nat.reduceMul, Nat.reduceLeDiff, Nat.reduceEqDiff, reduceCtorEq, Int.reduceEq, Int.reduceLT, Int.reduceLE, Int.reduceAdd, Int.reduceSub, hw]
    · by_cases hd3 : l[i].d = 3
      · have n31 : ¬ ((3 : Int) = 1) := by decide
        simp only [sx, argsFr, Sq, SI.wanted, AFr.ev, AFr.evV, AFr.get, AFr.box, AFr.put, AFr.setb, AV.val, callee, evArgs, aBin, aUn, oneCell, cellsOf, Value.cells, evParts, evElems, evAll, fillP, zeros, RetK, resAll, resOf, tupleOf, bnd, intOf?, AFr.keep, RefT.cells, undef, Nat.reduceBEq, Nat.reduceAdd, Nat.reduceMul, Nat.reduceLeDiff, Nat.reduceEqDiff, reduceCtorEq, Int.reduceEq, Int.reduceLT, Int.reduceLE, Int.reduceAdd, Int.reduceSub, hb, hi', hcut, hd3, n31]
        obtain ⟨to, nm, X, hmv, hXl, hnm, htm, hMvd⟩ := ht.move hA σ.size l[i].segs (by omega) (by omega)
        refine Or.inl (c20 hA (heapStore hA σ.size) (D0 := Mm ++ Mr) g.is hys g.lt.1 (fun e5 s5 N5 τ5 hmv5 _ _ _ => by rw [hmv] at hmv5; simp at hmv5) (fun to5 n5 s5 N5 τ5 hmv5 hi5 hm5 => ?_))
        rw [hmv] at hmv5
        simp only [Prod.mk.injEq, Except.ok.injEq] at hmv5
        obtain ⟨⟨rfl, rfl⟩, rfl⟩ := hmv5
        have g1 := g.call hi5 hm5
        simp only [sx, argsFr, Sq, SI.wanted, AFr.ev, AFr.evV, AFr.get, AFr.box, AFr.put, AFr.setb, AV.val, callee, evArgs, aBin, aUn, oneCell, cellsOf, Value.cells, evParts, evElems, evAll, fillP, zeros, RetK, resAll, resOf, tupleOf, bnd, intOf?, AFr.keep, RefT.cells, undef, Nat.reduceBEq, Nat.reduceAdd, Nat.reduceMul, Nat.reduceLeDiff, Nat.reduceEqDiff, reduceCtorEq, Int.reduceEq, Int.reduceLT, Int.reduceLE, Int.reduceAdd, Int.reduceSub]
        have hlen' : (lc).length ≤ 41 := by have := (rep).len; omega
        have g2 := (g1).push (.row (RefT.cells to) 4 .W)
        simp only [RefT.cells] at g2
        refine Sr_app (K := refK) (D := N5 ++ Mm) (N := Mr) (v := vr) (ys := [to]) (new := RefT.cells to) (by simp only [sx, argsFr, Sq, SI.wanted, AFr.ev, AFr.evV, AFr.get, AFr.box, AFr.put, AFr.setb, AV.val, callee, evArgs, aBin, aUn, oneCell, cellsOf, Value.cells, evParts, evElems, evAll, fillP, zeros, RetK, resAll, resOf, tupleOf, bnd, intOf?, AFr.keep, RefT.cells, undef, Nat.reduceBEq, Nat.reduceAdd, Nat.reduceMul, Nat.reduceLeDiff, Nat.reduceEqDiff, reduceCtorEq, Int.reduceEq, Int.reduceLT, Int.reduceLE, Int.reduceAdd, Int.reduceSub]) g2.hr rfl (by decide) (by simp [srcOf, AFr.ev, AFr.get, AFr.put, List.lookup, RefT.cells]) rfl (Kd.list_one rfl) rfl
          (by unfold maxN; simp only [List.length_singleton]; omega) (fun v3 Mr3 τ3 ho3 hm3 => ?_) (fun q hq => g2.lt.2 q (by simp only [List.mem_append] at hq ⊢; grind))
        have g3 := g2.roots ho3 hm3
        have hraw3 := ((hsl0.step (hm5.post (Mm ++ Mr))).step (Mv.push _ _ _)).step ((hm3.pre Mm).pre N5)
        obtain ⟨b30, c30, rfl⟩ := ho3.shape
        simp only [sx, argsFr, Sq, SI.wanted, AFr.ev, AFr.evV, AFr.get, AFr.box, AFr.put, AFr.setb, AV.val, callee, evArgs, aBin, aUn, oneCell, cellsOf, Value.cells, evParts, evElems, evAll, fillP, zeros, RetK, resAll, resOf, tupleOf, bnd, intOf?, AFr.keep, RefT.cells, undef, Nat.reduceBEq, Nat.reduceAdd, Nat.reduceMul, Nat.reduceLeDiff, Nat.reduceEqDiff, reduceCtorEq, Int.reduceEq, Int.reduceLT, Int.reduceLE, Int.reduceAdd, Int.reduceSub]
        have g4 := g3.push (.row [.slice bv (lc).length cv] 1 .W)
        have hraw4 := hraw3.step (Mv.push _ τ3 (.row [.slice bv (lc).length cv] 1 .W))
        refine Sr_app (K := opsK) (D := N5 ++ Mr3) (N := Mm) (v := vm) (ys := [lc]) (new := [.slice bv (lc).length cv]) (by simp only [sx, argsFr, Sq, SI.wanted, AFr.ev, AFr.evV, AFr.get, AFr.box, AFr.put, AFr.setb, AV.val, callee, evArgs, aBin, aUn, oneCell, cellsOf, Value.cells, evParts, evElems, evAll, fillP, zeros, RetK, resAll, resOf, tupleOf, bnd, intOf?, AFr.keep, RefT.cells, undef, Nat.reduceBEq, Nat.reduceAdd, Nat.reduceMul, Nat.reduceLeDiff, Nat.reduceEqDiff, reduceCtorEq, Int.reduceEq, Int.reduceLT, Int.reduceLE, Int.reduceAdd, Int.reduceSub]) g4.hm rfl (by decide) (by simp [srcOf, AFr.ev, AFr.get, AFr.put, List.lookup]) rfl (Kd.list_one ⟨_, rfl, g4.hl.step (shr (fun q hq => by simp only [List.mem_append] at hq ⊢; grind))⟩) rfl
          (by unfold maxN; simp only [List.length_singleton]; omega) (fun v5 Mm5 τ5 ho5 hm5 => ?_) (fun q hq => g4.lt.2 q (by simp only [List.mem_append] at hq ⊢; grind))
        have g5 := g4.maps ho5 hm5
        have hraw5 := hraw4.step ((hm5.post Mr3).pre N5)
        obtain ⟨b50, c50, rfl⟩ := ho5.shape
        simp only [sx, argsFr, Sq, SI.wanted, AFr.ev, AFr.evV, AFr.get, AFr.box, AFr.put, AFr.setb, AV.val, callee, evArgs, aBin, aUn, oneCell, cellsOf, Value.cells, evParts, evElems, evAll, fillP, zeros, RetK, resAll, resOf, tupleOf, bnd, intOf?, AFr.keep, RefT.cells, undef, Nat.reduceBEq, Nat.reduceAdd, Nat.reduceMul, Nat.reduceLeDiff, Nat.reduceEqDiff, reduceCtorEq, Int.reduceEq, Int.reduceLT, Int.reduceLE, Int.reduceAdd, Int.reduceSub]
        refine Or.inl (c39 hA g5.is g5.lt.1 htm (by omega) (by omega) (g5.hl.step (shr (fun q hq => by simp [hq]))) rep (fun N6 τ6 hi6 hm6 => ?_))
        simp only [sx, argsFr, Sq, SI.wanted, AFr.ev, AFr.evV, AFr.get, AFr.box, AFr.put, AFr.setb, AV.val, callee, evArgs, aBin, aUn, oneCell, cellsOf, Value.cells, evParts, evElems, evAll, fillP, zeros, RetK, resAll, resOf, tupleOf, bnd, intOf?, AFr.keep, RefT.cells, undef, Nat.reduceBEq, Nat.reduceAdd, Nat.reduceMul, Nat.reduceLeDiff, Nat.reduceEqDiff, reduceCtorEq, Int.reduceEq, Int.reduceLT, Int.reduceLE, Int.reduceAdd, Int.reduceSub]
        refine ih (i + 1) _ _ (by omega) ⟨H ++ X, h, to, es, N6, Mm5, Mr3, _, _, _, _, _, _, ?_, by omega, g5.call hi6 hm6, htm, rep, by omega, by rw [List.length_append]; omega, by simp only [List.length_append, List.length_singleton]; omega, by simp only [List.length_append, List.length_singleton]; omega,
          AllOk.snoc (hall.mono X) (by omega) htm rep (by omega), hraw5.step (hm6.post (Mm5 ++ Mr3))⟩
        simp only [sx, argsFr, Sq, SI.wanted, AFr.ev, AFr.evV, AFr.get, AFr.box, AFr.put, AFr.setb, AV.val, callee, evArgs, aBin, aUn, oneCell, cellsOf, Value.cells, evParts, evElems, evAll, fillP, zeros, RetK, resAll, resOf, tupleOf, bnd, intOf?, AFr.keep, RefT.cells, undef, Nat.reduceBEq, Nat.reduceAdd, Nat.reduceMul, Nat.reduceLeDiff, Nat.reduceEqDiff, reduceCtorEq, Int.reduceEq, Int.reduceLT, Int.reduceLE, Int.reduceAdd, Int.reduceSub, hw]
      · simp only [sx, argsFr, Sq, SI.wanted, AFr.ev, AFr.evV, AFr.get, AFr.box, AFr.put, AFr.setb, AV.val, callee, evArgs, aBin, aUn, oneCell, cellsOf, Value.cells, evParts, evElems, evAll, fillP, zeros, RetK, resAll, resOf, tupleOf, bnd, intOf?, AFr.keep, RefT.cells, undef, Nat.reduceBEq, Nat.reduceAdd, Nat.reduceMul, Nat.reduceLeDiff, Nat.reduceEqDiff, reduceCtorEq, Int.reduceEq, Int.reduceLT, Int.reduceLE, Int.reduceAdd, Int.reduceSub, hb, hi', hcut, hd, hd3]
        refine Or.inl (c17 hA (o := l[i]) hys g.lt.2 (fun v7 M τ1 ho7 hm7 => ?_))
        obtain ⟨b7, c7, rfl⟩ := ho7.shape
        have g0 := g.fresh hm7
        simp only [sx, argsFr, Sq, SI.wanted, AFr.ev, AFr.evV, AFr.get, AFr.box, AFr.put, AFr.setb, AV.val, callee, evArgs, aBin, aUn, oneCell, cellsOf, Value.cells, evParts, evElems, evAll, fillP, zeros, RetK, resAll, resOf, tupleOf, bnd, intOf?, AFr.keep, RefT.cells, undef, Nat.reduceBEq, Nat.reduceAdd, Nat.reduceMul, Nat.reduceLeDiff, Nat.reduceEqDiff, reduceCtorEq, Int.reduceEq, Int.reduceLT, Int.reduceLE, Int.reduceAdd, Int.reduceSub]
        obtain ⟨to, X, h', hput, ht', hX, hh1, hh2⟩ := putT_ok hA σ.size (entS l[i]) ht (by omega) (by omega)
        have hil := (ins_len (entS l[i]) es ht.srt).2
        refine Or.inl (c16 hA (heapStore hA σ.size) (D0 := Mm ++ Mr) (e := entS l[i]) g0.is (by simpa [entS] using ho7.sl) g0.lt.1 hput (fun N2 τ2 hi2 hm2 => ?_))
        have g1 := g0.call hi2 hm2
        simp only [sx, argsFr, Sq, SI.wanted, AFr.ev, AFr.evV, AFr.get, AFr.box, AFr.put, AFr.setb, AV.val, callee, evArgs, aBin, aUn, oneCell, cellsOf, Value.cells, evParts, evElems, evAll, fillP, zeros, RetK, resAll, resOf, tupleOf, bnd, intOf?, AFr.keep, RefT.cells, undef, Nat.reduceBEq, Nat.reduceAdd, Nat.reduceMul, Nat.reduceLeDiff, Nat.reduceEqDiff, reduceCtorEq, Int.reduceEq, Int.reduceLT, Int.reduceLE, Int.reduceAdd, Int.reduceSub]
        refine ⟨rfl, ?_⟩
        refine Or.inl (c38 hA g1.hl g1.lt.2 (by omega) (fun vl' M3 τ3 hol hml3 => ?_))
        have hys3 : SlR intK (M3 ++ (N2 ++ (Mm ++ Mr))) τ3 _ l[i].segs := ((hys.step (hm7.any _)).step (hm2.post (Mm ++ Mr))).step (hml3.mono (by simp) (by simp))
        have g2 := g1.fresh hml3
        have rep' := rep.put l[i]
        have hfl : (lc.filter (fun o => decide (o.name ≠ l[i].name))).length ≤ lc.length := List.length_filter_le _ _
        generalize lc.filter (fun o => decide (o.name ≠ l[i].name)) = lq at *
        obtain ⟨bx0, cx0, rfl⟩ := hol.shape
        simp only [sx, argsFr, Sq, SI.wanted, AFr.ev, AFr.evV, AFr.get, AFr.box, AFr.put, AFr.setb, AV.val, callee, evArgs, aBin, aUn, oneCell, cellsOf, Value.cells, evParts, evElems, evAll, fillP, zeros, RetK, resAll, resOf, tupleOf, bnd, intOf?, AFr.keep, RefT.cells, undef, Nat.reduceBEq, Nat.reduceAdd, Nat.reduceMul, Nat.reduceLeDiff, Nat.reduceEqDiff, reduceCtorEq, Int.reduceEq, Int.reduceLT, Int.reduceLE, Int.reduceAdd, Int.reduceSub]
        refine Sr_app (K := opK) (D := N2 ++ (Mm ++ Mr)) (N := M3) (ys := [l[i]]) (new := [.int .i64 l[i].d, .string l[i].name, .string l[i].value, .slice b6 l[i].segs.length c6, .int .i64 l[i].back]) (by simp only [sx, argsFr, Sq, SI.wanted, AFr.ev, AFr.evV, AFr.get, AFr.box, AFr.put, AFr.setb, AV.val, callee, evArgs, aBin, aUn, oneCell, cellsOf, Value.cells, evParts, evElems, evAll, fillP, zeros, RetK, resAll, resOf, tupleOf, bnd, intOf?, AFr.keep, RefT.cells, undef, Nat.reduceBEq, Nat.reduceAdd, Nat.reduceMul, Nat.reduceLeDiff, Nat.reduceEqDiff, reduceCtorEq, Int.reduceEq, Int.reduceLT, Int.reduceLE, Int.reduceAdd, Int.reduceSub]) hol rfl (by decide) (by simp [srcOf, AFr.ev, AFr.get, AFr.put, List.lookup]) rfl (Kd.list_one ⟨_, rfl, hys3⟩) rfl
          (by unfold maxN; simp only [List.length_singleton]; omega) (fun v8 M8 τ8 ho8 hm8 => ?_) g2.lt.2
        have hmf : Mv [] τ2 M8 τ8 := hml3.trans hm8
        have g1 := (g1.fresh hmf).list ho8.sl
        obtain ⟨bx, cx, rfl⟩ := ho8.shape
        simp only [sx, argsFr, Sq, SI.wanted, AFr.ev, AFr.evV, AFr.get, AFr.box, AFr.put, AFr.setb, AV.val, callee, evArgs, aBin, aUn, oneCell, cellsOf, Value.cells, evParts, evElems, evAll, fillP, zeros, RetK, resAll, resOf, tupleOf, bnd, intOf?, AFr.keep, RefT.cells, undef, Nat.reduceBEq, Nat.reduceAdd, Nat.reduceMul, Nat.reduceLeDiff, Nat.reduceEqDiff, reduceCtorEq, Int.reduceEq, Int.reduceLT, Int.reduceLE, Int.reduceAdd, Int.reduceSub]
        refine ⟨rfl, ?_⟩
        have hlen' : ((lq ++ [l[i]])).length ≤ 41 := by have := (rep').len; omega
        have g2 := (g1).push (.row (RefT.cells to) 4 .W)
        simp only [RefT.cells] at g2
        refine Sr_app (K := refK) (D := N2 ++ Mm) (N := Mr) (v := vr) (ys := [to]) (new := RefT.cells to) (by simp only [sx, argsFr, Sq, SI.wanted, AFr.ev, AFr.evV, AFr.get, AFr.box, AFr.put, AFr.setb, AV.val, callee, evArgs, aBin, aUn, oneCell, cellsOf, Value.cells, evParts, evElems, evAll, fillP, zeros, RetK, resAll, resOf, tupleOf, bnd, intOf?, AFr.keep, RefT.cells, undef, Nat.reduceBEq, Nat.reduceAdd, Nat.reduceMul, Nat.reduceLeDiff, Nat.reduceEqDiff, reduceCtorEq, Int.reduceEq, Int.reduceLT, Int.reduceLE, Int.reduceAdd, Int.reduceSub]) g2.hr rfl (by decide) (by simp [srcOf, AFr.ev, AFr.get, AFr.put, List.lookup, RefT.cells]) rfl (Kd.list_one rfl) rfl
          (by unfold maxN; simp only [List.length_singleton]; omega) (fun v3 Mr3 τ3 ho3 hm3 => ?_) (fun q hq => g2.lt.2 q (by simp only [List.mem_append] at hq ⊢; grind))
        have g3 := g2.roots ho3 hm3
        have hraw3 := ((((hsl0.step (hm7.any _)).step (hm2.post (Mm ++ Mr))).step (hmf.any _)).step (Mv.push _ _ _)).step ((hm3.pre Mm).pre N2)
        obtain ⟨b30, c30, rfl⟩ := ho3.shape
        simp only [sx, argsFr, Sq, SI.wanted, AFr.ev, AFr.evV, AFr.get, AFr.box, AFr.put, AFr.setb, AV.val, callee, evArgs, aBin, aUn, oneCell, cellsOf, Value.cells, evParts, evElems, evAll, fillP, zeros, RetK, resAll, resOf, tupleOf, bnd, intOf?, AFr.keep, RefT.cells, undef, Nat.reduceBEq, Nat.reduceAdd, Nat.reduceMul, Nat.reduceLeDiff, Nat.reduceEqDiff, reduceCtorEq, Int.reduceEq, Int.reduceLT, Int.reduceLE, Int.reduceAdd, Int.reduceSub]
        have g4 := g3.push (.row [.slice bx ((lq ++ [l[i]])).length cx] 1 .W)
        have hraw4 := hraw3.step (Mv.push _ τ3 (.row [.slice bx ((lq ++ [l[i]])).length cx] 1 .W))
        refine Sr_app (K := opsK) (D := N2 ++ Mr3) (N := Mm) (v := vm) (ys := [(lq ++ [l[i]])]) (new := [.slice bx ((lq ++ [l[i]])).length cx]) (by simp only [sx, argsFr, Sq, SI.wanted, AFr.ev, AFr.evV, AFr.get, AFr.box, AFr.put, AFr.setb, AV.val, callee, evArgs, aBin, aUn, oneCell, cellsOf, Value.cells, evParts, evElems, evAll, fillP, zeros, RetK, resAll, resOf, tupleOf, bnd, intOf?, AFr.keep, RefT.cells, undef, Nat.reduceBEq, Nat.reduceAdd, Nat.reduceMul, Nat.reduceLeDiff, Nat.reduceEqDiff, reduceCtorEq, Int.reduceEq, Int.reduceLT, Int.reduceLE, Int.reduceAdd, Int.reduceSub]) g4.hm rfl (by decide) (by simp [srcOf, AFr.ev, AFr.get, AFr.put, List.lookup]) rfl (Kd.list_one ⟨_, rfl, g4.hl.step (shr (fun q hq => by simp only [List.mem_append] at hq ⊢; grind))⟩) rfl
          (by unfold maxN; simp only [List.length_singleton]; omega) (fun v5 Mm5 τ5 ho5 hm5 => ?_) (fun q hq => g4.lt.2 q (by simp only [List.mem_append] at hq ⊢; grind))
        have g5 := g4.maps ho5 hm5
        have hraw5 := hraw4.step ((hm5.post Mr3).pre N2)
        obtain ⟨b50, c50, rfl⟩ := ho5.shape
        simp only [sx, argsFr, Sq, SI.wanted, AFr.ev, AFr.evV, AFr.get, AFr.box, AFr.put, AFr.setb, AV.val, callee, evArgs, aBin, aUn, oneCell, cellsOf, Value.cells, evParts, evElems, evAll, fillP, zeros, RetK, resAll, resOf, tupleOf, bnd, intOf?, AFr.keep, RefT.cells, undef, Nat.reduceBEq, Nat.reduceAdd, Nat.reduceMul, Nat.reduceLeDiff, Nat.reduceEqDiff, reduceCtorEq, Int.reduceEq, Int.reduceLT, Int.reduceLE, Int.reduceAdd, Int.reduceSub]
        refine Or.inl (c39 hA g5.is g5.lt.1 ht' (by omega) (by omega) (g5.hl.step (shr (fun q hq => by simp [hq]))) rep' (fun N6 τ6 hi6 hm6 => ?_))
        simp only [sx, argsFr, Sq, SI.wanted, AFr.ev, AFr.evV, AFr.get, AFr.box, AFr.put, AFr.setb, AV.val, callee, evArgs, aBin, aUn, oneCell, cellsOf, Value.cells, evParts, evElems, evAll, fillP, zeros, RetK, resAll, resOf, tupleOf, bnd, intOf?, AFr.keep, RefT.cells, undef, Nat.reduceBEq, Nat.reduceAdd, Nat.reduceMul, Nat.reduceLeDiff, Nat.reduceEqDiff, reduceCtorEq, Int.reduceEq, Int.reduceLT, Int.reduceLE, Int.reduceAdd, Int.reduceSub]
        refine ih (i + 1) _ _ (by omega) ⟨H ++ X, h', to, ins (entS l[i]) es, N6, Mm5, Mr3, _, _, _, _, _, _, ?_, by omega, g5.call hi6 hm6, ht', rep', by omega, by rw [List.length_append]; omega, by simp only [List.length_append, List.length_singleton]; omega, by simp only [List.length_append, List.length_singleton]; omega,
          AllOk.snoc (hall.mono X) (by omega) ht' rep' (by omega), hraw5.step (hm6.post (Mm5 ++ Mr3))⟩
        simp only [sx, argsFr, Sq, SI.wanted, AFr.ev, AFr.evV, AFr.get, AFr.box, AFr.put, AFr.setb, AV.val, callee, evArgs, aBin, aUn, oneCell, cellsOf, Value.cells, evParts, evElems, evAll, fillP, zeros, RetK, resAll, resOf, tupleOf, bnd, intOf?, AFr.keep, RefT.cells, undef, Nat.reduceBEq, Nat.reduceAdd, Nat.reduceMul, Nat.reduceLeDiff, Nat.reduceEqDiff, reduceCtorEq, Int.reduceEq, Int.reduceLT, Int.reduceLE, Int.reduceAdd, Int.reduceSub, hw]
  · obtain ⟨bR, cR, hvR⟩ := g.hr.shape
    subst hvR
    obtain ⟨bM, cM, hvM⟩ := g.hm.shape
    subst hvM
    simp only [sx, argsFr, Sq, SI.wanted, AFr.ev, AFr.evV, AFr.get, AFr.box, AFr.put, AFr.setb, AV.val, callee, evArgs, aBin, aUn, oneCell, cellsOf, Value.cells, evParts, evElems, evAll, fillP, zeros, RetK, resAll, resOf, tupleOf, bnd, intOf?, AFr.keep, RefT.cells, undef, Nat.reduceBEq, Nat.reduceAdd, Nat.reduceMul, Nat.reduceLeDiff, Nat.reduceEqDiff, reduceCtorEq, Int.reduceEq, Int.reduceLT, Int.reduceLE, Int.reduceAdd, Int.reduceSub]
    clear ih hc hsl
    have hlen : roots.length ≤ 41 := by omega
    refine Lp_ind (fun j => roots.length - j) (fun j f τ => ∃ N, j ≤ roots.length ∧ f.keep [3, 6, 8, 137, 138] [] =
      some ⟨[(3, .v (.pointer (some ⟨σ.size, 0, none⟩))), (6, .v (.slice bM maps.length cM)), (8, .v (.slice bR roots.length cR)), (137, .v (.int .i64 roots.length)), (138, .v (.int .i64 j))], []⟩ ∧
      Mp hA σ.size N Mm Mr τ H (.slice bM maps.length cM) (.slice bR roots.length cR) vl maps roots lc) ?_ 0 _ _ ⟨N, Nat.zero_le _, rfl, g⟩
    clear g
    rintro j f τ ⟨N, hj, hkp, g⟩ ih
    rw [St_seq, St_keep hkp]
    clear hkp
    simp only [sx, argsFr, Sq, SI.wanted, AFr.ev, AFr.evV, AFr.get, AFr.box, AFr.put, AFr.setb, AV.val, callee, evArgs, aBin, aUn, oneCell, cellsOf, Value.cells, evParts, evElems, evAll, fillP, zeros, RetK, resAll, resOf, tupleOf, bnd, intOf?, AFr.keep, RefT.cells, undef, Nat.reduceBEq, Nat.reduceAdd, Nat.reduceMul, Nat.reduceLeDiff, Nat.reduceEqDiff, reduceCtorEq, Int.reduceEq, Int.reduceLT, Int.reduceLE, Int.reduceAdd, Int.reduceSub]
    refine Cd_split (fun hc => ?_) (fun hc => ?_)
    · have hj' : j < roots.length := by simpa using hc
      have hjm : j < maps.length := by omega
      have hw : IntKind.i64.wrap ((j : Int) + 1) = ((j + 1 : Nat) : Int) := wrap_up (by omega)
      obtain ⟨b2, off2, cs2, e2, m2, cells2, rfl, hb2, hcut2, hrel2⟩ := g.hr.sl.atN (j := 4) rfl (List.getElem?_eq_getElem hj')
      have hrel2 : cells2 = RefT.cells roots[j] := hrel2
      subst hrel2
      obtain ⟨b7, off7, cs7, e7, m7, u7, rfl, hb7, hcut7, v7, hv7, hu7⟩ := g.hm.sl.at1 (List.getElem?_eq_getElem hjm) rfl
      simp only [List.cons.injEq, and_true] at hv7
      subst hv7
      obtain ⟨b8, c8, rfl⟩ := hu7.shape
      obtain ⟨h, es, t, rep, h41⟩ := hall j _ _ (List.getElem?_eq_getElem hj') (List.getElem?_eq_getElem hjm)
      have hh6 := t.low_height (by omega)
      simp only [RefT.cells] at hcut2
      simp only [sx, argsFr, Sq, SI.wanted, AFr.ev, AFr.evV, AFr.get, AFr.box, AFr.put, AFr.setb, AV.val, callee, evArgs, aBin, aUn, oneCell, cellsOf, Value.cells, evParts, evElems, evAll, fillP, zeros, RetK, resAll, resOf, tupleOf, bnd, intOf?, AFr.keep, RefT.cells, undef, Nat.reduceBEq, Nat.reduceAdd, Nat.reduceMul, Nat.reduceLeDiff, Nat.reduceEqDiff, reduceCtorEq, Int.reduceEq, Int.reduceLT, Int.reduceLE, Int.reduceAdd, Int.reduceSub, hj', hjm, hb2, hcut2, hb7, hcut7]
      refine Or.inl (c39 hA g.is g.lt.1 t (by omega) (by omega) (hu7.step (shr (fun q hq => by simp [hq]))) rep (fun N6 τ6 hi6 hm6 => ?_))
      simp only [sx, argsFr, Sq, SI.wanted, AFr.ev, AFr.evV, AFr.get, AFr.box, AFr.put, AFr.setb, AV.val, callee, evArgs, aBin, aUn, oneCell, cellsOf, Value.cells, evParts, evElems, evAll, fillP, zeros, RetK, resAll, resOf, tupleOf, bnd, intOf?, AFr.keep, RefT.cells, undef, Nat.reduceBEq, Nat.reduceAdd, Nat.reduceMul, Nat.reduceLeDiff, Nat.reduceEqDiff, reduceCtorEq, Int.reduceEq, Int.reduceLT, Int.reduceLE, Int.reduceAdd, Int.reduceSub]
      refine ⟨rfl, ih (j + 1) _ _ (by omega) ⟨N6, by omega, ?_, g.call hi6 hm6⟩⟩
      simp only [sx, argsFr, Sq, SI.wanted, AFr.ev, AFr.evV, AFr.get, AFr.box, AFr.put, AFr.setb, AV.val, callee, evArgs, aBin, aUn, oneCell, cellsOf, Value.cells, evParts, evElems, evAll, fillP, zeros, RetK, resAll, resOf, tupleOf, bnd, intOf?, AFr.keep, RefT.cells, undef, Nat.reduceBEq, Nat.reduceAdd, Nat.reduceMul, Nat.reduceLeDiff, Nat.reduceEqDiff, reduceCtorEq, Int.reduceEq, Int.reduceLT, Int.reduceLE, Int.reduceAdd, Int.reduceSub, hw]
    · simp only [sx, argsFr, Sq, SI.wanted, AFr.ev, AFr.evV, AFr.get, AFr.box, AFr.put, AFr.setb, AV.val, callee, evArgs, aBin, aUn, oneCell, cellsOf, Value.cells, evParts, evElems, evAll, fillP, zeros, RetK, resAll, resOf, tupleOf, bnd, intOf?, AFr.keep, RefT.cells, undef, Nat.reduceBEq, Nat.reduceAdd, Nat.reduceMul, Nat.reduceLeDiff, Nat.reduceEqDiff, reduceCtorEq, Int.reduceEq, Int.reduceLT, Int.reduceLE, Int.reduceAdd, Int.reduceSub]
end
end Go.Proofs.Ytbldkkabkijpgaa
