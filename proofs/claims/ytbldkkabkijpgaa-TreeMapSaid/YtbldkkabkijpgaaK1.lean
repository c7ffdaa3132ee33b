/- Part 1 of the proof: lemmas that the row of the law leans on; nothing is assumed. -/
import Derived.ChangeArms
import Derived.KernelRfl
import Derived.Laws.BitsLemmas
import Derived.Laws.Strings
import Derived.Test.YtbldkkabkijpgaaProg
import GoSem.ClaimJoined
import Derived.Test.YtbldkkabkijpgaaK0
namespace Go.Am

def FEq (f g : AFr) : Prop := f.get = g.get ∧ f.box = g.box

theorem FEq.refl (f : AFr) : FEq f f := ⟨rfl, rfl⟩
theorem FEq.symm {f g : AFr} (h : FEq f g) : FEq g f := ⟨h.1.symm, h.2.symm⟩
theorem FEq.trans {f g k : AFr} (h : FEq f g) (h' : FEq g k) : FEq f k := ⟨h.1.trans h'.1, h.2.trans h'.2⟩

/-- The label names what is touched. -/
def Lab.box : Lab → Option Nat
  | .lr k | .lw k => some k
  | _ => none
def Lab.heap : Lab → Bool
  | .hr | .hw | .he => true
  | _ => false

section
variable {f g : AFr} {σ τ σ1 : AHeap} {d : Option Nat}

theorem evV_congr {x : Operand} (h : g.ev x = f.ev x) : g.evV x = f.evV x := by unfold AFr.evV; rw [h]

theorem evParts_congr : ∀ {ps : List (Nat × Nat × Operand)}, (∀ x ∈ ps.map (·.2.2), g.ev x = f.ev x) → evParts g ps = evParts f ps
  | [], _ => rfl
  | (o, n, x) :: r, h => by
    simp only [evParts, evV_congr (h x (by simp)), evParts_congr (ps := r) fun y hy => h y (by simp at hy ⊢; exact .inr hy)]

theorem evElems_congr {e : Nat} : ∀ {ps : List (Nat × Operand)}, (∀ x ∈ ps.map (·.2), g.ev x = f.ev x) → evElems g e ps = evElems f e ps
  | [], _ => rfl
  | (o, x) :: r, h => by
    simp only [evElems, evV_congr (h x (by simp)), evElems_congr (ps := r) fun y hy => h y (by simp at hy ⊢; exact .inr hy)]

theorem evAll_congr : ∀ {l : List Operand}, (∀ x ∈ l, g.ev x = f.ev x) → evAll g l = evAll f l
  | [], _ => rfl
  | x :: r, h => by
    simp only [evAll, evV_congr (h x (by simp)), evAll_congr (l := r) fun y hy => h y (by simp [hy])]

theorem evArgs_congr : ∀ {l : List Operand} {σ : AHeap}, (∀ x ∈ l, g.ev x = f.ev x) → evArgs g l σ = evArgs f l σ
  | [], _, _ => rfl
  | x :: r, σ, h => by
    simp only [evArgs, h x (by simp)]
    split
    · rw [evArgs_congr (l := r) fun y hy => h y (by simp [hy])]
    · rw [evArgs_congr (l := r) fun y hy => h y (by simp [hy])]
    · rfl

theorem bnd_congr {x : Option Operand} {dflt most : Nat} (h : ∀ y ∈ x.toList, g.ev y = f.ev y) : bnd g x dflt most = bnd f x dflt most := by
  cases x with
  | none => rfl
  | some y => simp only [bnd, evV_congr (h y (by simp))]

theorem srcOf_congr {x : Operand} {e : Nat} (h : g.ev x = f.ev x) : srcOf g σ e x = srcOf f σ e x := by unfold srcOf; rw [h]

/-- Operations on slots alone hang on what they read. -/
theorem pure_congr {op : SOp} (hp : op.pureOp = true) (he : ∀ x ∈ op.rd, g.ev x = f.ev x) : stepOp d g σ op = stepOp d f σ op := by
  cases op <;> simp [SOp.pureOp] at hp <;> simp only [stepOp]
  case mov x => rw [he x (by simp [SOp.rd])]
  case pick c x y => rw [evV_congr (he c (by simp [SOp.rd])), he x (by simp [SOp.rd]), he y (by simp [SOp.rd])]
  case build => rw [evParts_congr he]
  case bimm => rw [evElems_congr he]
  case nilchk x => rw [evV_congr (he x (by simp [SOp.rd]))]
  case bin x y => rw [evV_congr (he x (by simp [SOp.rd])), evV_congr (he y (by simp [SOp.rd]))]
  case un x => rw [evV_congr (he x (by simp [SOp.rd]))]
  case conv x => rw [evV_congr (he x (by simp [SOp.rd]))]
  case mkif x => rw [evV_congr (he x (by simp [SOp.rd]))]
  case mkfn fn cap => rw [evAll_congr (l := cap) he]
  case slc e x lo hi lim =>
    have elo : ∀ y ∈ lo.toList, g.ev y = f.ev y := fun y hy => he y (by simp only [SOp.rd, List.mem_cons, List.mem_append]; exact .inr (.inl (.inl hy)))
    have ehi : ∀ y ∈ hi.toList, g.ev y = f.ev y := fun y hy => he y (by simp only [SOp.rd, List.mem_cons, List.mem_append]; exact .inr (.inl (.inr hy)))
    have elim : ∀ y ∈ lim.toList, g.ev y = f.ev y := fun y hy => he y (by simp only [SOp.rd, List.mem_cons, List.mem_append]; exact .inr (.inr hy))
    rw [evV_congr (he x (by simp [SOp.rd]))]
    simp only [bnd_congr elo, bnd_congr ehi, bnd_congr elim]
    cases lim with
    | none => rfl
    | some m => simp only [evV_congr (elim m (by simp)), bnd_congr elim]
  case sslc x lo hi =>
    have elo : ∀ y ∈ lo.toList, g.ev y = f.ev y := fun y hy => he y (by simp only [SOp.rd, List.mem_cons, List.mem_append]; exact .inr (.inl hy))
    have ehi : ∀ y ∈ hi.toList, g.ev y = f.ev y := fun y hy => he y (by simp only [SOp.rd, List.mem_cons, List.mem_append]; exact .inr (.inr hy))
    rw [evV_congr (he x (by simp [SOp.rd]))]
    simp only [bnd_congr elo, bnd_congr ehi]
  case faddr x => rw [he x (by simp [SOp.rd])]
  case fld x => rw [evV_congr (he x (by simp [SOp.rd]))]
  case iaddr x y => rw [evV_congr (he x (by simp [SOp.rd])), evV_congr (he y (by simp [SOp.rd]))]
  case sidx x y => rw [evV_congr (he x (by simp [SOp.rd])), evV_congr (he y (by simp [SOp.rd]))]
  case ext x _ => rw [evV_congr (he x (by simp [SOp.rd]))]
  case len x => rw [evV_congr (he x (by simp [SOp.rd]))]
  case slen x => rw [evV_congr (he x (by simp [SOp.rd]))]
  case mx x y => rw [evV_congr (he x (by simp [SOp.rd])), evV_congr (he y (by simp [SOp.rd]))]
  case mn x y => rw [evV_congr (he x (by simp [SOp.rd])), evV_congr (he y (by simp [SOp.rd]))]
  case capx x => rw [evV_congr (he x (by simp [SOp.rd]))]

/-- Operations on slots alone leave the heap and the boxes as they are. -/
theorem pure_form {op : SOp} (hp : op.pureOp = true) : stepOp d f σ op = (stepOp d f #[] op).map fun r => (r.1, none, σ, Lab.p) := by
  cases op <;> simp [SOp.pureOp] at hp <;> simp only [stepOp]
  case build => cases evParts f _ <;> simp only [Option.bind_some, Option.bind_none, Option.map_none]; cases fillP _ _ <;> rfl
  case bimm =>
    cases evElems f _ _ <;> simp only [Option.bind_some, Option.bind_none, Option.map_none]
    cases fillP _ _ <;> simp only [Option.bind_some, Option.bind_none, Option.map_none]
    split <;> rfl
  case bin op ek ty x y =>
    cases f.evV x <;> simp only [Option.bind_some, Option.bind_none, Option.map_none]
    cases f.evV y <;> simp only [Option.bind_some, Option.bind_none, Option.map_none]
    cases aBin _ _ _ _ <;> rfl
  case un => cases f.evV _ <;> simp only [Option.bind_some, Option.bind_none, Option.map_none]; cases aUn _ _ <;> rfl
  case mkif => cases f.evV _ <;> rfl
  case mkfn => cases evAll f _ <;> rfl
  case fld =>
    split
    · cases cut _ _ _ <;> rfl
    · rfl
  case slc e x lo hi lim =>
    split
    · cases bnd f hi 0 0 <;> cases bnd f lo 0 0 <;> cases bnd f lim 0 0 <;> rfl
    · split
      · rename_i m
        cases f.evV m <;> simp only [Option.bind_some, Option.bind_none, Option.map_none]
        rename_i v
        cases intOf? v <;> simp only [Option.bind_some, Option.bind_none, Option.map_none]
        split
        · cases bnd f hi _ _ <;> simp only [Option.bind_some, Option.bind_none, Option.map_none]
          cases bnd f lo 0 _ <;> simp only [Option.bind_some, Option.bind_none, Option.map_none]
          split <;> rfl
        · rfl
      · cases bnd f hi _ _ <;> simp only [Option.bind_some, Option.bind_none, Option.map_none]
        cases bnd f lo 0 _ <;> simp only [Option.bind_some, Option.bind_none, Option.map_none]
        split
        · rfl
        · split <;> rfl
    · split
      · split
        · rename_i m
          cases bnd f (some m) _ _ <;> simp only [Option.bind_some, Option.bind_none, Option.map_none]
          cases bnd f hi _ _ <;> simp only [Option.bind_some, Option.bind_none, Option.map_none]
          cases bnd f lo 0 _ <;> simp only [Option.bind_some, Option.bind_none, Option.map_none]
          split <;> rfl
        · cases bnd f hi _ _ <;> simp only [Option.bind_some, Option.bind_none, Option.map_none]
          cases bnd f lo 0 _ <;> simp only [Option.bind_some, Option.bind_none, Option.map_none]
          split <;> rfl
      · rfl
    · rfl
  case sslc x lo hi =>
    split
    · cases bnd f hi _ _ <;> simp only [Option.bind_some, Option.bind_none, Option.map_none]
      cases bnd f lo 0 _ <;> rfl
    · rfl
  all_goals (repeat' split) <;> rfl

theorem pure_lab {op : SOp} {v u lab} (hp : op.pureOp = true) (hs : stepOp d f σ op = some (v, u, σ1, lab)) : lab = .p ∧ u = none ∧ σ1 = σ := by
  rw [pure_form hp] at hs
  cases h : stepOp d f #[] op with
  | none => simp [h] at hs
  | some r => simp [h] at hs; exact ⟨hs.2.2.2.symm, hs.2.1.symm, hs.2.2.1.symm⟩

/-- An operation that calls nothing, over another frame and another heap. -/
theorem stepOp_local {op : SOp} {v : AV} {u : Option (Nat × List Value)} {lab : Lab} (hs : stepOp d f σ op = some (v, u, σ1, lab)) (he : ∀ x ∈ op.rd, g.ev x = f.ev x) (hb : ∀ k, lab.box = some k → g.box k = f.box k)
    (hh : lab.heap = true → τ = σ) : stepOp d g τ op = some (v, u, (if lab = .hw then σ1 else τ), lab) ∧ (lab ≠ .hw → σ1 = σ) ∧ (∀ k cs, u = some (k, cs) → lab = .lw k) := by
  by_cases hp : op.pureOp = true
  · obtain ⟨rfl, rfl, rfl⟩ := pure_lab hp hs
    refine ⟨?_, fun _ => rfl, by simp⟩
    rw [pure_congr hp he, pure_form hp]
    rw [pure_form hp] at hs
    cases h : stepOp d f #[] op with
    | none => simp [h] at hs
    | some r => simp [h] at hs ⊢; exact hs
  cases op <;> simp only [SOp.rd, List.mem_cons, List.not_mem_nil, or_false, forall_eq, forall_eq_or_imp] at he <;> simp only [stepOp] at hs ⊢ <;> simp only [SOp.pureOp, not_true_eq_false] at hp
  case lalloc =>
    split at hs
    · split at hs
      · simp only [Option.some.injEq, Prod.mk.injEq] at hs
        obtain ⟨rfl, rfl, rfl, rfl⟩ := hs
        rename_i hc
        refine ⟨?_, fun _ => rfl, fun k cs h => by injection h with h; injection h with h1 _; rw [h1]⟩
        simp only [hb _ rfl, hc.1, hc.2, and_self, if_true]
        simp
      · simp at hs
    · simp at hs
  case lbox =>
    rw [evV_congr he]
    split at hs
    · split at hs
      · simp only [Option.some.injEq, Prod.mk.injEq] at hs
        obtain ⟨rfl, rfl, rfl, rfl⟩ := hs
        rename_i hv hc
        refine ⟨?_, fun _ => rfl, fun k cs h => by injection h with h; injection h with h1 _; rw [h1]⟩
        simp only [hb _ rfl, hc.1, hc.2, and_self, if_true]
        simp
      · simp at hs
    · simp at hs
  case halloc =>
    split at hs
    · simp only [Option.some.injEq, Prod.mk.injEq] at hs
      obtain ⟨rfl, rfl, rfl, rfl⟩ := hs
      have := hh rfl
      subst this
      rename_i hc
      simp [hc]
    · simp at hs
  case hbox =>
    rw [evV_congr he]
    split at hs
    · split at hs
      · simp only [Option.some.injEq, Prod.mk.injEq] at hs
        obtain ⟨rfl, rfl, rfl, rfl⟩ := hs
        have := hh rfl
        subst this
        rename_i hc
        simp [hc]
      · simp at hs
    · simp at hs
  case bslice =>
    rw [evElems_congr he]
    cases h1 : evElems f _ _ with
    | none => simp [h1] at hs
    | some l =>
      simp only [h1, Option.bind_some] at hs ⊢
      cases h2 : fillP _ l with
      | none => simp [h2] at hs
      | some cs =>
        simp only [h2, Option.bind_some] at hs ⊢
        split at hs
        · simp only [Option.some.injEq, Prod.mk.injEq] at hs
          obtain ⟨rfl, rfl, rfl, rfl⟩ := hs
          have := hh rfl
          subst this
          rename_i hc
          simp [hc]
        · simp at hs
  case load n x =>
    rw [he]
    split at hs
    · rename_i k q hv
      cases h1 : f.box k with
      | none => simp [h1] at hs
      | some cs =>
        cases h2 : cut n cs q with
        | none => simp [h1, h2] at hs
        | some x =>
          simp only [h1, h2, Option.bind_some, Option.some.injEq, Prod.mk.injEq] at hs
          obtain ⟨rfl, rfl, rfl, rfl⟩ := hs
          simp [hb k rfl, h1, h2]
    · rename_i b q hv
      split at hs
      · rename_i cs e' m' hr
        cases h2 : cut n cs q with
        | none => simp [h2] at hs
        | some x =>
          simp only [h2, Option.bind_some, Option.some.injEq, Prod.mk.injEq] at hs
          obtain ⟨rfl, rfl, rfl, rfl⟩ := hs
          have := hh rfl
          subst this
          simp [hr, h2]
      · simp at hs
    · simp at hs
  case store n ad x =>
    rw [evV_congr he.2, he.1]
    cases h1 : f.evV x with
    | none => simp [h1] at hs
    | some v' =>
      cases h2 : cellsOf n v' with
      | none => simp [h1, h2] at hs
      | some vs =>
        simp only [h1, h2, Option.bind_some] at hs ⊢
        split at hs
        · rename_i k q hv
          cases h3 : f.box k with
          | none => simp [h3] at hs
          | some cs =>
            simp only [h3, Option.bind_some] at hs
            split at hs
            · simp only [Option.some.injEq, Prod.mk.injEq] at hs
              obtain ⟨rfl, rfl, rfl, rfl⟩ := hs
              rename_i hc
              refine ⟨?_, fun _ => rfl, fun k cs h => by injection h with h; injection h with h1 _; rw [h1]⟩
              simp [hb k rfl, h3, hc]
            · simp at hs
        · split at hs
          · split at hs
            · simp only [Option.some.injEq, Prod.mk.injEq] at hs
              obtain ⟨rfl, rfl, rfl, rfl⟩ := hs
              have := hh rfl
              subst this
              rename_i hr hc
              simp [hr, hc]
            · simp at hs
          · simp at hs
        · simp at hs
  case app =>
    rename_i e bytes keep s x
    have hlab : lab = .hw ∧ u = none := by
      cases h1 : srcOf f σ e x with
      | none => simp [h1] at hs
      | some q =>
        simp only [h1, Option.bind_some] at hs
        repeat' split at hs
        all_goals simp_all
    obtain ⟨rfl, rfl⟩ := hlab
    have := hh rfl
    subst this
    rw [srcOf_congr he.2, evV_congr he.1]
    exact ⟨by rw [if_pos rfl]; exact hs, by simp, by simp⟩
  case cpy =>
    have hlab : lab = .hw ∧ u = none := by
      repeat' split at hs
      all_goals simp_all
    obtain ⟨rfl, rfl⟩ := hlab
    have := hh rfl
    subst this
    rw [evV_congr he.1, evV_congr he.2]
    exact ⟨by rw [if_pos rfl]; exact hs, by simp, by simp⟩
  case mk =>
    have hlab : lab = .hw ∧ u = none := by
      repeat' split at hs
      all_goals simp_all
    obtain ⟨rfl, rfl⟩ := hlab
    have := hh rfl
    subst this
    rw [evV_congr he.1, evV_congr he.2]
    exact ⟨by rw [if_pos rfl]; exact hs, by simp, by simp⟩
  case clr =>
    have hlab : lab = .hw ∧ u = none := by
      repeat' split at hs
      all_goals simp_all
    obtain ⟨rfl, rfl⟩ := hlab
    have := hh rfl
    subst this
    rw [evV_congr he]
    exact ⟨by rw [if_pos rfl]; exact hs, by simp, by simp⟩
  case ovl =>
    have hlab : lab = .hw ∧ u = none := by
      repeat' split at hs
      all_goals simp_all
    obtain ⟨rfl, rfl⟩ := hlab
    have := hh rfl
    subst this
    rw [evV_congr he.1, evV_congr he.2]
    exact ⟨by rw [if_pos rfl]; exact hs, by simp, by simp⟩
  case appz =>
    have hlab : lab = .hw ∧ u = none := by
      repeat' split at hs
      all_goals simp_all
    obtain ⟨rfl, rfl⟩ := hlab
    have := hh rfl
    subst this
    rw [evV_congr he.1, evV_congr he.2]
    exact ⟨by rw [if_pos rfl]; exact hs, by simp, by simp⟩
  case trunc =>
    have hlab : lab = .hw ∧ u = none := by
      repeat' split at hs
      all_goals simp_all
    obtain ⟨rfl, rfl⟩ := hlab
    have := hh rfl
    subst this
    rw [evV_congr he.1, evV_congr he.2]
    exact ⟨by rw [if_pos rfl]; exact hs, by simp, by simp⟩
  all_goals simp at hs

def SOp.isLoad : SOp → Bool
  | .load .. => true
  | _ => false

theorem stepOp_class {op : SOp} {v : AV} {u : Option (Nat × List Value)} {lab : Lab} (hs : stepOp d f σ op = some (v, u, σ1, lab)) : lab ≠ .he ∧ (lab = .hr → op.isLoad = true) := by
  by_cases hp : op.pureOp = true
  · obtain ⟨rfl, _, _⟩ := pure_lab hp hs
    simp
  cases op <;> simp only [SOp.pureOp, not_true_eq_false] at hp
  all_goals
    simp only [stepOp, Option.bind_eq_some_iff] at hs
    repeat' (first
      | (exfalso; simp at hs; done)
      | (simp only [Option.some.injEq, Prod.mk.injEq] at hs; obtain ⟨_, _, _, rfl⟩ := hs; simp [SOp.isLoad]; done)
      | split at hs
      | (rw [Option.bind_eq_some_iff] at hs; obtain ⟨_, _, hs⟩ := hs)
      | (obtain ⟨_, _, hs⟩ := hs))

/-- What reads the heap, over a heap that has grown. -/
theorem stepOp_read {op : SOp} {v : AV} {u : Option (Nat × List Value)} (hs : stepOp d f σ op = some (v, u, σ1, .hr)) (he : ∀ x ∈ op.rd, g.ev x = f.ev x) (hx : σ.ext τ) :
    stepOp d g τ op = some (v, u, τ, .hr) := by
  by_cases hp : op.pureOp = true
  · have := (pure_lab hp hs).1
    simp at this
  cases op <;> simp only [SOp.pureOp, not_true_eq_false] at hp
  case load n a =>
    simp only [SOp.rd, List.mem_cons, List.not_mem_nil, or_false, forall_eq] at he
    simp only [stepOp] at hs ⊢
    rw [he]
    split at hs
    · rename_i k o hv
      cases h1 : f.box k with
      | none => simp [h1] at hs
      | some cs =>
        simp only [h1, Option.bind_some] at hs
        cases h2 : cut n cs o with
        | none => simp [h2] at hs
        | some y => simp [h2] at hs
    · rename_i b o hv
      cases h1 : σ[b]? with
      | none => simp [h1] at hs
      | some blk =>
        have hlt : b < σ.size := by
          rcases Nat.lt_or_ge b σ.size with h | h
          · exact h
          · simp [Array.getElem?_eq_none h] at h1
        rw [h1] at hs
        simp only [hx.2 b hlt, h1]
        cases blk with
        | dead => simp at hs
        | row cs e m =>
          simp only at hs ⊢
          cases h2 : cut n cs o with
          | none => simp [h2] at hs
          | some y => simp [h2] at hs ⊢; exact ⟨hs.1, hs.2.1⟩
    · simp at hs
  all_goals
    exfalso
    have := (stepOp_class hs).2 rfl
    simp [SOp.isLoad] at this

theorem evArgs_ext {f : AFr} : ∀ {l : List Operand} {σ σ' : AHeap} {vals : List Value}, evArgs f l σ = some (vals, σ') → σ.ext σ'
  | [], σ, σ', vals, h => by simp [evArgs] at h; rw [← h.2]; exact ⟨Nat.le_refl _, fun _ _ => rfl⟩
  | x :: l, σ, σ', vals, h => by
    simp only [evArgs] at h
    split at h
    · cases h1 : evArgs f l σ with
      | none => simp [h1] at h
      | some p => simp [h1] at h; rw [← h.2]; exact evArgs_ext h1
    · rename_i cs e n _
      cases h1 : evArgs f l (σ.push (.row cs e .R)) with
      | none => simp [h1] at h
      | some p =>
        simp [h1] at h
        rw [← h.2]
        have := evArgs_ext h1
        refine ⟨by have := this.1; simp at this; omega, fun b hb => ?_⟩
        rw [this.2 b (by simp; omega), Array.getElem?_push]
        split <;> simp_all
    · simp at h

theorem callee_ext {op : SOp} {h : Nat} {vals : List Value} (hc : callee f σ op = some (h, vals, σ1)) : σ.ext σ1 := by
  cases op <;> simp only [callee] at hc <;> try (simp at hc; done)
  case call h' xs =>
    cases h1 : evArgs f xs σ with
    | none => simp [h1] at hc
    | some p => simp [h1] at hc; rw [← hc.2.2]; exact evArgs_ext h1
  case callv g' xs =>
    split at hc
    · cases h1 : evArgs f xs σ with
      | none => simp [h1] at hc
      | some p => simp [h1] at hc; rw [← hc.2.2]; exact evArgs_ext h1
    · simp at hc
  case inv r tbl xs =>
    split at hc
    · split at hc
      · cases h1 : evArgs f xs σ with
        | none => simp [h1] at hc
        | some p => simp [h1] at hc; rw [← hc.2.2]; exact evArgs_ext h1
      · simp at hc
    · simp at hc

theorem callee_local {op : SOp} {h : Nat} {vals : List Value} (hc : callee f σ op = some (h, vals, σ1)) (he : ∀ x ∈ op.rd, g.ev x = f.ev x) : callee g σ op = some (h, vals, σ1) := by
  cases op <;> simp only [callee] at hc ⊢ <;> try (simp at hc; done)
  case call h' xs => rw [evArgs_congr (l := xs) he]; exact hc
  case callv => rw [evV_congr (he _ (by simp [SOp.rd])), evArgs_congr fun x hx => he x (by simp [SOp.rd, hx])]; exact hc
  case inv => rw [evV_congr (he _ (by simp [SOp.rd])), evArgs_congr fun x hx => he x (by simp [SOp.rd, hx])]; exact hc

end
end Go.Am

namespace Go.Am

section
variable {CR : CallR} {E : EqR}

def applyEff (f : AFr) (d : Option Nat) (v : AV) (u : Option (Nat × List Value)) : AFr := (f.setb u).put d v

theorem ev_of_get {f g : AFr} {x : Operand} (h : ∀ t, x = .tmp t → g.get t = f.get t) : g.ev x = f.ev x := by
  cases x with
  | tmp t => exact h t rfl
  | _ => rfl

theorem wanted_congr {i : SI} {f g : AFr} (h : ∀ t ∈ i.reads, g.get t = f.get t) : i.wanted g = i.wanted f := by
  unfold SI.wanted
  cases hg : i.guard with
  | none => rfl
  | some p =>
    obtain ⟨t, b⟩ := p
    simp only
    rw [h t (by simp [SI.reads, hg])]

theorem rd_congr {i : SI} {f g : AFr} (h : ∀ t ∈ i.reads, g.get t = f.get t) : ∀ x ∈ i.op.rd, g.ev x = f.ev x := fun x hx =>
  ev_of_get fun t e => h t (by
    subst e
    simp only [SI.reads, List.mem_append]
    exact .inl (List.mem_filterMap.2 ⟨_, hx, rfl⟩))

/-- What one operation does, over another frame and another heap. -/
theorem One.local {i : SI} {f : AFr} {σ : AHeap} {lab : Lab} {f1 : AFr} {σ1 : AHeap} (h : One CR E i f σ lab f1 σ1) :
    ∃ v u, f1 = applyEff f i.dst v u ∧ (∀ k cs, u = some (k, cs) → lab = .lw k) ∧ (lab ≠ .hw → lab ≠ .he → σ1 = σ) ∧ (lab = .he → σ.ext σ1) ∧
      ∀ (g : AFr) (τ : AHeap), (∀ t ∈ i.reads, g.get t = f.get t) → (∀ k, lab.box = some k → g.box k = f.box k) → (lab.heap = true → τ = σ ∨ lab = .hr ∧ σ.ext τ) →
        One CR E i g τ lab (applyEff g i.dst v u) (if lab = .hw ∨ lab = .he then σ1 else τ) := by
  cases h with
  | skip hw =>
    refine ⟨.v undef, none, rfl, by simp, fun _ _ => rfl, by simp, fun g τ hr _ _ => ?_⟩
    simp only [if_neg (show ¬ (Lab.p = Lab.hw ∨ Lab.p = Lab.he) by decide)]
    exact .skip (by rw [wanted_congr hr]; exact hw)
  | step hw hs =>
    rename_i v u
    have hn := stepOp_local hs (fun _ _ => rfl) (fun _ _ => rfl) (fun _ => rfl)
    have hne : lab ≠ .he := fun e => by
      subst e
      exact (stepOp_class hs).1 rfl
    refine ⟨v, u, rfl, hn.2.2, fun h _ => hn.2.1 h, fun e => absurd e hne, fun g τ hr hb hh => ?_⟩
    by_cases h : lab.heap = true → τ = σ
    · have := (stepOp_local hs (rd_congr hr) hb h).1
      simp only [hne, or_false]
      exact .step (by rw [wanted_congr hr]; exact hw) this
    · have h1 : lab.heap = true ∧ ¬ τ = σ := Classical.not_imp.1 h
      rcases hh h1.1 with h2 | ⟨rfl, h2⟩
      · exact absurd h2 h1.2
      · simp only [reduceCtorEq, or_self, if_false]
        exact .step (by rw [wanted_congr hr]; exact hw) (stepOp_read hs (rd_congr hr) h2)
  | eq hw ho hop ha hb he =>
    rename_i op ek ty x y a b t
    refine ⟨.v (.bool (if op = .eql then t else !t)), none, rfl, by simp, fun _ _ => rfl, by simp, fun g τ hr _ _ => ?_⟩
    simp only [if_neg (show ¬ (Lab.p = Lab.hw ∨ Lab.p = Lab.he) by decide)]
    have hrd := rd_congr hr
    rw [ho] at hrd
    exact .eq (by rw [wanted_congr hr]; exact hw) ho hop (by rw [evV_congr (hrd x (by simp [SOp.rd]))]; exact ha) (by rw [evV_congr (hrd y (by simp [SOp.rd]))]; exact hb) he
  | call hw hc hr hl =>
    rename_i gg vals σ1' r
    have hlab : lab = .hw ∨ lab = .he := hl.imp id And.left
    refine ⟨.v r, none, rfl, by simp, fun h h' => absurd hlab (by simp [h, h']), fun e => ?_, fun g τ hrr _ hh => ?_⟩
    · rcases hl with h | ⟨_, h⟩
      · rw [e] at h; simp at h
      · have h1 := callee_ext hc
        exact ⟨Nat.le_trans h1.1 h.1, fun b hb => (h.2 b (Nat.lt_of_lt_of_le hb h1.1)).trans (h1.2 b hb)⟩
    · have : τ = σ := by
        rcases hh (by rcases hlab with h | h <;> rw [h] <;> rfl) with h | ⟨h, _⟩
        · exact h
        · rw [h] at hlab; simp at hlab
      subst this
      rw [if_pos hlab]
      exact .call (by rw [wanted_congr hrr]; exact hw) (callee_local hc (rd_congr hrr)) hr hl

theorem One.congr {i : SI} {f g : AFr} {σ : AHeap} {lab : Lab} {f1 : AFr} {σ1 : AHeap} (h : One CR E i f σ lab f1 σ1) (hfg : FEq f g) : ∃ g1, One CR E i g σ lab g1 σ1 ∧ FEq f1 g1 := by
  obtain ⟨v, u, rfl, hu, hσ, _, hl⟩ := h.local
  have h2 := hl g σ (fun t _ => by rw [hfg.1]) (fun k _ => by rw [hfg.2]) fun _ => .inl rfl
  have e : (if lab = .hw ∨ lab = .he then σ1 else σ) = σ1 := by
    split
    · rfl
    · rename_i hn; exact (hσ (fun h => hn (.inl h)) fun h => hn (.inr h)).symm
  rw [e] at h2
  refine ⟨_, h2, ?_, ?_⟩
  · funext t
    unfold applyEff
    cases i.dst with
    | none => show (f.setb u).get t = (g.setb u).get t; rw [get_setb, get_setb, hfg.1]
    | some d => rw [get_put_some, get_put_some, get_setb, get_setb, hfg.1]
  · funext k
    unfold applyEff
    rw [box_put, box_put]
    cases u with
    | none => show f.box k = g.box k; rw [hfg.2]
    | some p => obtain ⟨j, cs⟩ := p; rw [box_setb, box_setb, hfg.2]

theorem get_eff (f : AFr) (d : Option Nat) (v : AV) (u : Option (Nat × List Value)) (t : Nat) : (applyEff f d v u).get t = if d = some t then some v else f.get t := by
  unfold applyEff
  cases d with
  | none => simp; show (f.setb u).get t = f.get t; rw [get_setb]
  | some d =>
    rw [get_put_some, get_setb]
    by_cases h : t = d
    · subst h; simp
    · have : ¬ d = t := fun e => h e.symm
      simp [h, this]

theorem box_eff (f : AFr) (d : Option Nat) (v : AV) (u : Option (Nat × List Value)) (k : Nat) : (applyEff f d v u).box k = match u with | some (j, cs) => if k = j then some cs else f.box k | none => f.box k := by
  unfold applyEff
  rw [box_put]
  cases u with
  | none => rfl
  | some p => obtain ⟨j, cs⟩ := p; rw [box_setb]

/-- Two operations that are apart change places. -/
theorem One.swap {x y : SI} {f : AFr} {σ : AHeap} {la lb : Lab} {f1 f2 : AFr} {σ1 σ2 : AHeap} (hx : One CR E x f σ la f1 σ1) (hy : One CR E y f1 σ1 lb f2 σ2) (hap : x.apart y = true) (hc : la.compat lb = true) :
    ∃ g1 τ1 g2, One CR E y f σ lb g1 τ1 ∧ One CR E x g1 τ1 la g2 σ2 ∧ FEq f2 g2 := by
  obtain ⟨v, u, rfl, hu, hσ, _, hl⟩ := hx.local
  obtain ⟨v', u', rfl, hu', hσ', hxt, hl'⟩ := hy.local
  have hap' := hap
  simp only [SI.apart, Bool.and_eq_true] at hap'
  have h1 : ∀ d, x.dst = some d → d ∉ y.reads ∧ y.dst ≠ some d := fun d hd => by
    have := hap'.1
    rw [hd] at this
    simpa using this
  have h2 : ∀ d, y.dst = some d → d ∉ x.reads := fun d hd => by
    have := hap'.2
    rw [hd] at this
    simpa using this
  -- the boxes that the one writes are not those that the other touches
  have hb1 : ∀ k, lb.box = some k → ∀ j cs, u = some (j, cs) → k ≠ j := fun k hk j cs hj e => by
    have := hu j cs hj
    subst this e
    cases lb <;> simp [Lab.box, Lab.compat] at hk hc <;> omega
  have hb2 : ∀ k, la.box = some k → ∀ j cs, u' = some (j, cs) → k ≠ j := fun k hk j cs hj e => by
    have := hu' j cs hj
    subst this e
    cases la <;> simp [Lab.box, Lab.compat] at hk hc <;> omega
  -- the heap
  have hh1 : lb.heap = true → σ1 = σ := fun h => hσ (fun e => by subst e; cases lb <;> simp [Lab.heap, Lab.compat] at h hc) fun e => by subst e; cases lb <;> simp [Lab.heap, Lab.compat] at h hc
  have hh2 : la.heap = true → (¬ (lb = .hw ∨ lb = .he)) ∨ (la = .hr ∧ lb = .he) := fun h => by
    cases la <;> cases lb <;> simp [Lab.heap, Lab.compat] at h hc ⊢
  have hyy := hl' f σ (fun t ht => by
    rw [get_eff]
    have : ¬ x.dst = some t := fun e => (h1 t e).1 ht
    rw [if_neg this]) (fun k hk => by
    rw [box_eff]
    split
    · rename_i j cs; rw [if_neg (hb1 k hk j cs rfl)]
    · rfl) (fun h => .inl (hh1 h).symm)
  have hxx := hl (applyEff f y.dst v' u') (if lb = .hw ∨ lb = .he then σ2 else σ) (fun t ht => by
    rw [get_eff]
    have : ¬ y.dst = some t := fun e => h2 t e ht
    rw [if_neg this]) (fun k hk => by
    rw [box_eff]
    split
    · rename_i j cs; rw [if_neg (hb2 k hk j cs rfl)]
    · rfl) (fun h => by
    rcases hh2 h with h' | ⟨h', h''⟩
    · exact .inl (by rw [if_neg h'])
    · refine .inr ⟨h', ?_⟩
      rw [if_pos (.inr h'')]
      have := hxt h''
      rwa [hσ (by rw [h']; simp) (by rw [h']; simp)] at this)
  have hfin : (if la = .hw ∨ la = .he then σ1 else if lb = .hw ∨ lb = .he then σ2 else σ) = σ2 := by
    by_cases ea : la = .hw ∨ la = .he
    · rw [if_pos ea]
      refine (hσ' (fun eb => ?_) fun eb => ?_).symm
      · subst eb; rcases ea with ea | ea <;> subst ea <;> simp [Lab.compat] at hc
      · subst eb; rcases ea with ea | ea <;> subst ea <;> simp [Lab.compat] at hc
    · rw [if_neg ea]
      by_cases eb : lb = .hw ∨ lb = .he
      · rw [if_pos eb]
      · rw [if_neg eb, hσ' (fun h => eb (.inl h)) (fun h => eb (.inr h)), hσ (fun h => ea (.inl h)) (fun h => ea (.inr h))]
  rw [hfin] at hxx
  refine ⟨_, _, _, hyy, hxx, ?_, ?_⟩
  · funext t
    simp only [get_eff]
    by_cases e1 : x.dst = some t
    · have : ¬ y.dst = some t := (h1 t e1).2
      simp [e1, this]
    · simp [e1]
  · funext k
    simp only [box_eff]
    cases hu1 : u with
    | none => cases hu2 : u' <;> rfl
    | some p =>
      obtain ⟨j, cs⟩ := p
      cases hu2 : u' with
      | none => rfl
      | some p' =>
        obtain ⟨j', cs'⟩ := p'
        have := hu j cs hu1
        have h3 := hu' j' cs' hu2
        subst this h3
        simp [Lab.compat] at hc
        simp only
        by_cases e1 : k = j
        · by_cases e2 : k = j'
          · exact absurd (e1.symm.trans e2) hc
          · simp [e1, hc]
        · simp [e1]

/-! ### runs by numbers -/
inductive Run (CR : CallR) (E : EqR) (S : Array SI) (L : Nat → Lab) : List Nat → AFr → AHeap → AFr → AHeap → Prop where
  | nil (f σ) : Run CR E S L [] f σ f σ
  | cons {j R i f σ f1 σ1 f' σ'} (hs : S[j]? = some i) (h : One CR E i f σ (L j) f1 σ1) (t : Run CR E S L R f1 σ1 f' σ') : Run CR E S L (j :: R) f σ f' σ'

variable {S : Array SI} {L : Nat → Lab}

theorem Run.congr {R : List Nat} {f g : AFr} {σ : AHeap} {f' : AFr} {σ' : AHeap} (h : Run CR E S L R f σ f' σ') (hfg : FEq f g) : ∃ g', Run CR E S L R g σ g' σ' ∧ FEq f' g' := by
  induction h generalizing g with
  | nil f σ => exact ⟨g, .nil g σ, hfg⟩
  | cons hs h1 t ih =>
    obtain ⟨g1, h2, h3⟩ := h1.congr hfg
    obtain ⟨g', h4, h5⟩ := ih h3
    exact ⟨g', .cons hs h2 h4, h5⟩

/-- Two numbers may change places. -/
def Comm (S : Array SI) (L : Nat → Lab) (i j : Nat) : Prop := ∀ x y, S[i]? = some x → S[j]? = some y → x.apart y = true ∧ (L i).compat (L j) = true

theorem Run.bubble : ∀ {A R : List Nat} {x : Nat} {f : AFr} {σ : AHeap} {f' : AFr} {σ' : AHeap}, Run CR E S L (A ++ x :: R) f σ f' σ' → (∀ y ∈ A, Comm S L y x) → ∃ g', Run CR E S L (x :: (A ++ R)) f σ g' σ' ∧ FEq f' g'
  | [], R, x, f, σ, f', σ', h, _ => ⟨f', h, FEq.refl _⟩
  | y :: A, R, x, f, σ, f', σ', h, hc => by
    cases h with
    | cons hs h1 t =>
      obtain ⟨g', h2, h3⟩ := Run.bubble t fun z hz => hc z (List.mem_cons_of_mem _ hz)
      cases h2 with
      | cons hs2 h4 t2 =>
        obtain ⟨hap, hcp⟩ := hc y (by simp) _ _ hs hs2
        obtain ⟨g1, τ1, g2, k1, k2, k3⟩ := h1.swap h4 hap hcp
        obtain ⟨g3, k4, k5⟩ := t2.congr k3
        exact ⟨g3, .cons hs2 k1 (.cons hs k2 k4), h3.trans k5⟩

theorem Ops.run {l : List SI} {f : AFr} {σ : AHeap} {ls : List Lab} {f' : AFr} {σ' : AHeap} (h : Ops CR E l f σ ls f' σ') : ∀ (k : Nat), (∀ i x, l[i]? = some x → S[k + i]? = some x) → (∀ i x, ls[i]? = some x → L (k + i) = x) →
    Run CR E S L (List.range' k l.length) f σ f' σ' := by
  induction h with
  | nil f σ => intro k _ _; exact .nil f σ
  | cons h1 t ih =>
    intro k hS hL
    rw [List.length_cons, List.range'_succ]
    have hL0 := hL 0 _ rfl
    rw [Nat.add_zero] at hL0
    refine .cons (by simpa using hS 0 _ rfl) (by rw [hL0]; exact h1) (ih (k + 1) (fun i x hx => ?_) fun i x hx => ?_)
    · have := hS (i + 1) x (by simpa using hx)
      rwa [show k + 1 + i = k + (i + 1) by omega]
    · have := hL (i + 1) x (by simpa using hx)
      rwa [show k + 1 + i = k + (i + 1) by omega]

/-! ### what the edges order -/
theorem mask_bit (acc : Array Nat) (o : Oper) (j : Nat) : (mask acc o).testBit j = true → ∃ e ∈ o.after.toList, Region.binds .any e = true ∧ (e.on = j ∨ (acc.getD e.on 0).testBit j = true) := by
  unfold mask
  have : ∀ (l : List Edge) (s : Nat), (l.foldl (fun s e => if Region.binds .any e then s ||| 2 ^ e.on ||| acc.getD e.on 0 else s) s).testBit j = true →
      s.testBit j = true ∨ ∃ e ∈ l, Region.binds .any e = true ∧ (e.on = j ∨ (acc.getD e.on 0).testBit j = true) := by
    intro l
    induction l with
    | nil => intro s h; exact .inl h
    | cons e l ih =>
      intro s h
      simp only [List.foldl_cons] at h
      rcases ih _ h with h1 | ⟨e', h1, h2⟩
      · by_cases hb : Region.binds .any e = true
        · rw [if_pos hb] at h1
          simp only [Nat.testBit_or, Bool.or_eq_true, Nat.testBit_two_pow] at h1
          rcases h1 with (h1 | h1) | h1
          · exact .inl h1
          · exact .inr ⟨e, by simp, hb, .inl (by simpa using h1)⟩
          · exact .inr ⟨e, by simp, hb, .inr h1⟩
        · rw [if_neg hb] at h1; exact .inl h1
      · exact .inr ⟨e', by simp [h1], h2⟩
  intro h
  rcases this _ 0 h with h1 | h1
  · simp at h1
  · exact h1

theorem befs_old : ∀ (l : List Oper) (acc : Array Nat) (k : Nat), k < acc.size → (befs l acc).getD k 0 = acc.getD k 0
  | [], acc, k, _ => rfl
  | o :: l, acc, k, h => by
    simp only [befs]
    rw [befs_old l _ k (by simp; omega)]
    simp only [Array.getD_eq_getD_getElem?]
    rw [Array.getElem?_push, if_neg (by omega)]

theorem befs_at : ∀ (l : List Oper) (acc : Array Nat) (i : Nat) (o : Oper), l[i]? = some o → (∀ e ∈ o.after.toList, Region.binds .any e = true → e.on < acc.size + i) →
    ∀ j, ((befs l acc).getD (acc.size + i) 0).testBit j = true → ∃ e ∈ o.after.toList, Region.binds .any e = true ∧ (e.on = j ∨ ((befs l acc).getD e.on 0).testBit j = true)
  | [], acc, i, o, h, _, _, _ => by simp at h
  | o' :: l, acc, 0, o, h, hlt, j, hj => by
    simp at h
    subst h
    simp only [befs, Nat.add_zero] at hj ⊢
    rw [befs_old l _ _ (by simp)] at hj
    have : (acc.push (mask acc o')).getD acc.size 0 = mask acc o' := by simp [Array.getD_eq_getD_getElem?]
    rw [this] at hj
    obtain ⟨e, h1, h2, h3⟩ := mask_bit _ _ _ hj
    refine ⟨e, h1, h2, h3.imp id fun h4 => ?_⟩
    have hlt' := hlt e h1 h2
    rw [befs_old l _ _ (by simp; omega)]
    simp only [Array.getD_eq_getD_getElem?]
    rw [Array.getElem?_push, if_neg (by omega)]
    simpa [Array.getD_eq_getD_getElem?] using h4
  | o' :: l, acc, i + 1, o, h, hlt, j, hj => by
    simp only [befs] at hj ⊢
    have := befs_at l (acc.push (mask acc o')) i o (by simpa using h) (fun e h1 h2 => by have := hlt e h1 h2; simp; omega) j
    simp only [Array.size_push] at this
    rw [show acc.size + 1 + i = acc.size + (i + 1) by omega] at this
    exact this hj

end
end Go.Am

namespace Go.Am

section
variable {CR : CallR} {E : EqR} {S : Array SI} {L : Nat → Lab}

/-- What is still to be run. -/
def left (n : Nat) (listed : Array Bool) : List Nat := (List.range n).filter fun j => !listed.getD j true

theorem getD_setB (a : Array Bool) (i j : Nat) (hi : i < a.size) : (a.setIfInBounds i true).getD j true = if j = i then true else a.getD j true := by
  by_cases h : j = i
  · subst h; simp [Array.getD_eq_getD_getElem?, hi]
  · simp [Array.getD_eq_getD_getElem?, Array.getElem?_setIfInBounds_ne (Ne.symm h), h]

theorem left_set {n : Nat} {listed : Array Bool} {i : Nat} (hi : i < listed.size) : left n (listed.setIfInBounds i true) = (left n listed).filter (· ≠ i) := by
  unfold left
  rw [List.filter_filter]
  apply List.filter_congr
  intro j _
  rw [getD_setB _ _ _ hi]
  by_cases h : j = i <;> simp [h]

theorem left_nodup (n : Nat) (listed : Array Bool) : (left n listed).Nodup := (List.filter_sublist (l := List.range n)).nodup List.nodup_range

theorem filter_mid {A R : List Nat} {i : Nat} (h : (A ++ i :: R).Nodup) : (A ++ i :: R).filter (· ≠ i) = A ++ R := by
  have h1 : i ∉ A := fun hi => by
    rw [List.nodup_append] at h
    exact h.2.2 i hi i (by simp) rfl
  have h2 : i ∉ R := by
    rw [List.nodup_append] at h
    exact (List.nodup_cons.1 h.2.1).1
  rw [List.filter_append, List.filter_cons_of_neg (by simp)]
  congr 1
  · exact List.filter_eq_self.2 fun j hj => by simp; rintro rfl; exact h1 hj
  · exact List.filter_eq_self.2 fun j hj => by simp; rintro rfl; exact h2 hj

theorem left_sorted (n : Nat) (listed : Array Bool) : (left n listed).Pairwise (· < ·) := List.Pairwise.filter _ List.pairwise_lt_range

/-- The order that is drawn. -/
theorem Run.drawn {ops : Array Oper} (hn : ∀ j, j < ops.size → ∃ o, ops[j]? = some o ∧ (∀ e ∈ o.after.toList, Region.binds .any e = true → e.on < j))
    (hcomm : ∀ i j, i < j → j < ops.size → ((befs ops.toList #[]).getD j 0).testBit i = false → Comm S L i j) :
    ∀ (fuel t : Nat) (listed : Array Bool) (f : AFr) (σ : AHeap) (f' : AFr) (σ' : AHeap), listed.size = ops.size → (left ops.size listed).length ≤ fuel →
      (∀ i o, listed.getD i true = true → i < ops.size → ops[i]? = some o → ∀ e ∈ o.after.toList, Region.binds .any e = true → listed.getD e.on true = true) →
      Run CR E S L (left ops.size listed) f σ f' σ' → ∃ f'', Run CR E S L (Region.linearise.go .any ops fuel t listed []) f σ f'' σ' ∧ FEq f' f'' := by
  intro fuel
  induction fuel with
  | zero =>
    intro t listed f σ f' σ' _ hl _ h
    have : left ops.size listed = [] := List.length_eq_zero_iff.1 (by omega)
    rw [this] at h
    simp only [Region.linearise.go, List.reverse_nil]
    exact ⟨f', h, FEq.refl _⟩
  | succ fuel ih =>
    intro t listed f σ f' σ' hsz hl hcl h
    simp only [Region.linearise.go]
    have hready : ∀ i, i ∈ Region.ready .any ops listed ↔ i < ops.size ∧ listed.getD i true = false ∧ ∃ o, ops[i]? = some o ∧ ∀ e ∈ o.after.toList, Region.binds .any e = true → listed.getD e.on false = true := by
      intro i
      unfold Region.ready
      rw [List.mem_filter, List.mem_range]
      constructor
      · rintro ⟨h1, h2⟩
        obtain ⟨o, ho, _⟩ := hn i h1
        simp only [ho, Option.map_some, Option.getD_some, Bool.and_eq_true, Bool.not_eq_true', Array.all_eq_true_iff_forall_mem, Bool.or_eq_true] at h2
        refine ⟨h1, h2.1, o, ho, fun e he hb => ?_⟩
        have := h2.2 e (Array.mem_toList_iff.1 he)
        rcases this with h3 | h3
        · rw [hb] at h3; simp at h3
        · exact h3
      · rintro ⟨h1, h2, o, ho, h3⟩
        refine ⟨h1, ?_⟩
        simp only [ho, Option.map_some, Option.getD_some, Bool.and_eq_true, Bool.not_eq_true', Array.all_eq_true_iff_forall_mem, Bool.or_eq_true]
        refine ⟨h2, fun e he => ?_⟩
        by_cases hb : Region.binds .any e = true
        · exact .inr (h3 e (Array.mem_toList_iff.2 he) hb)
        · exact .inl (by simpa using hb)
    change ∃ f'', Run CR E S L (match (Region.ready .any ops listed)[t % (Region.ready .any ops listed).length]? with
      | some i => Region.linearise.go .any ops fuel (t / (Region.ready .any ops listed).length) (listed.setIfInBounds i true) [i]
      | none => [].reverse) f σ f'' σ' ∧ FEq f' f''
    cases hR : left ops.size listed with
    | nil =>
      have hnil : Region.ready .any ops listed = [] := by
        cases hr : Region.ready .any ops listed with
        | nil => rfl
        | cons x xs =>
          obtain ⟨h1, h2, _⟩ := (hready x).1 (by rw [hr]; simp)
          have : x ∈ left ops.size listed := by unfold left; rw [List.mem_filter, List.mem_range]; exact ⟨h1, by simp [h2]⟩
          rw [hR] at this
          simp at this
      rw [hnil]
      rw [hR] at h
      exact ⟨f', h, FEq.refl _⟩
    | cons m R =>
      -- the least one that is left is ready
      have hm : m ∈ left ops.size listed := by rw [hR]; simp
      have hm' := hm
      unfold left at hm'
      rw [List.mem_filter, List.mem_range] at hm'
      have hleast : ∀ j, j < m → listed.getD j true = true := fun j hj => by
        cases hb : listed.getD j true with
        | true => rfl
        | false =>
          exfalso
          have hjm : j ∈ left ops.size listed := by unfold left; rw [List.mem_filter, List.mem_range]; exact ⟨by omega, by simp [hb]⟩
          have hs := left_sorted ops.size listed
          rw [hR] at hs hjm
          rcases List.mem_cons.1 hjm with e | hjR
          · omega
          · have := (List.pairwise_cons.1 hs).1 j hjR; omega
      have hmready : m ∈ Region.ready .any ops listed := by
        obtain ⟨o, ho, hlt⟩ := hn m hm'.1
        refine (hready m).2 ⟨hm'.1, by simpa using hm'.2, o, ho, fun e he hb => ?_⟩
        have h1 := hlt e he hb
        have h2 := hleast e.on h1
        have h3 : e.on < listed.size := by omega
        simp only [Array.getD_eq_getD_getElem?, Array.getElem?_eq_getElem h3, Option.getD_some] at h2 ⊢
        exact h2
      have hpos : 0 < (Region.ready .any ops listed).length := List.length_pos_of_mem hmready
      have hlt : t % (Region.ready .any ops listed).length < (Region.ready .any ops listed).length := Nat.mod_lt _ hpos
      rw [List.getElem?_eq_getElem hlt]
      simp only
      generalize hi : (Region.ready .any ops listed)[t % (Region.ready .any ops listed).length] = i
      have him : i ∈ Region.ready .any ops listed := by rw [← hi]; exact List.getElem_mem hlt
      obtain ⟨hi1, hi2, o, ho, hi3⟩ := (hready i).1 him
      have hileft : i ∈ left ops.size listed := by unfold left; rw [List.mem_filter, List.mem_range]; exact ⟨hi1, by simp [hi2]⟩
      obtain ⟨A, R2, hAR⟩ := List.append_of_mem hileft
      have hs := left_sorted ops.size listed
      rw [hAR] at h hs
      have hA : ∀ y ∈ A, y < i ∧ listed.getD y true = false := fun y hy => by
        rw [List.pairwise_append] at hs
        refine ⟨hs.2.2 y hy i (by simp), ?_⟩
        have : y ∈ left ops.size listed := by rw [hAR]; simp [hy]
        unfold left at this
        rw [List.mem_filter] at this
        simpa using this.2
      -- none of those ahead is ordered ahead of it
      have hnot : ∀ y ∈ A, ((befs ops.toList #[]).getD i 0).testBit y = false := fun y hy => by
        cases hb : ((befs ops.toList #[]).getD i 0).testBit y with
        | false => rfl
        | true =>
          exfalso
          have key : ∀ (k : Nat) (o : Oper), ops[k]? = some o → (∀ e ∈ o.after.toList, Region.binds .any e = true → listed.getD e.on true = true) → ((befs ops.toList #[]).getD k 0).testBit y = true → listed.getD y true = true := by
            intro k
            induction k using Nat.strongRecOn with
            | _ k ihk =>
              intro o ho hall hbit
              have hk : k < ops.size := by
                rcases Nat.lt_or_ge k ops.size with h | h
                · exact h
                · simp [Array.getElem?_eq_none h] at ho
              obtain ⟨o', ho', hlt'⟩ := hn k hk
              rw [ho] at ho'
              injection ho' with ho'
              subst ho'
              obtain ⟨e, h1, h2, h3⟩ := befs_at ops.toList #[] k o (by simpa using ho) (by simpa using hlt') y (by simpa using hbit)
              have hel := hall e h1 h2
              rcases h3 with rfl | h3
              · exact hel
              · have helt := hlt' e h1 h2
                obtain ⟨oe, hoe, _⟩ := hn e.on (by omega)
                exact ihk e.on helt oe hoe (hcl e.on oe hel (by omega) hoe) h3
          have := key i o ho (fun e h1 h2 => by
            have h3 := hi3 e h1 h2
            have h4 : e.on < listed.size := by
              rcases Nat.lt_or_ge e.on listed.size with h | h
              · exact h
              · simp [Array.getD_eq_getD_getElem?, Array.getElem?_eq_none h] at h3
            simp only [Array.getD_eq_getD_getElem?, Array.getElem?_eq_getElem h4, Option.getD_some] at h3 ⊢
            exact h3) hb
          rw [(hA y hy).2] at this
          simp at this
      obtain ⟨g', h5, h6⟩ := Run.bubble h fun y hy => hcomm y i (hA y hy).1 hi1 (hnot y hy)
      cases h5 with
      | cons hs5 h7 t7 =>
        have hleft' : left ops.size (listed.setIfInBounds i true) = A ++ R2 := by
          rw [left_set (by omega), hAR]
          exact filter_mid (by rw [← hAR]; exact left_nodup _ _)
        rw [← hleft'] at t7
        have hlen : (left ops.size (listed.setIfInBounds i true)).length ≤ fuel := by
          rw [hleft']
          rw [hAR] at hl
          simp at hl ⊢
          omega
        obtain ⟨f'', h8, h9⟩ := ih (t / (Region.ready .any ops listed).length) (listed.setIfInBounds i true) _ _ _ _ (by simp [hsz]) hlen (by
          intro j oj hj hj2 hoj e he hb
          rw [getD_setB _ _ _ (by omega)] at hj ⊢
          by_cases hji : j = i
          · subst hji
            rw [ho] at hoj
            injection hoj with hoj
            subst hoj
            by_cases hei : e.on = j
            · simp [hei]
            · rw [if_neg hei]
              have h3 := hi3 e he hb
              have h4 : e.on < listed.size := by
                rcases Nat.lt_or_ge e.on listed.size with h | h
                · exact h
                · simp [Array.getD_eq_getD_getElem?, Array.getElem?_eq_none h] at h3
              simp only [Array.getD_eq_getD_getElem?, Array.getElem?_eq_getElem h4, Option.getD_some] at h3 ⊢
              exact h3
          · rw [if_neg hji] at hj
            by_cases hei : e.on = i
            · simp [hei]
            · rw [if_neg hei]; exact hcl j oj hj hj2 hoj e he hb) t7
        refine ⟨f'', ?_, h6.trans h9⟩
        rw [linearise_go_acc, List.reverse_singleton, List.singleton_append]
        exact .cons hs5 h7 h8

end

/-! ### operations in memory -/
section
variable {P : Program} {B nt : Nat} {w0 : World} {ι0 : Inj} {σ0 : AHeap} {E : EqR} {Q : Exit → Act → World → Prop}

theorem Rl.congr {f g : AFr} {σ : AHeap} {a : Act} {w : World} (h : Rl B nt w0 ι0 σ0 f σ a w) (hfg : FEq f g) : Rl B nt w0 ι0 σ0 g σ a w := by
  obtain ⟨lam, ι, hI, hB, hF⟩ := h.ex
  have hb : ∀ k, g.box k = f.box k := fun k => by rw [hfg.2]
  refine ⟨lam, ι, hI, hB, ⟨hF.nt, hF.defers, fun t x hx => ?_, fun k cs hk => hF.box k cs (by rw [← hb]; exact hk), fun i j hi hj => hF.inj i j (by rw [← hb]; exact hi) (by rw [← hb]; exact hj)⟩⟩
  exact AVR.box_congr (f := f) (fun k => by rw [hb]) (hF.tmp t x (by rw [hfg.1]; exact hx))

/-- Is an operation wanted? Both say the same. -/
theorem wanted_rel {f : AFr} {σ : AHeap} {a : Act} {w : World} {lam : Nat → Nat} {ι : Inj} {ops : Array Oper} {o : Oper} {i : SI} {t : Bool} (hF : FR w0.heap.size nt lam ι σ f a w) (hm : mGuard ops o.guard i.guard = true)
    (hw : i.wanted f = some t) : Region.wanted o (yielded ops a.tmps) = t := by
  unfold SI.wanted at hw
  unfold Region.wanted
  cases hg : o.guard with
  | none =>
    cases hg' : i.guard with
    | none => simp only [hg', Option.some.injEq] at hw; exact hw
    | some p => rw [hg, hg'] at hm; simp [mGuard] at hm
  | some q =>
    obtain ⟨j, b⟩ := q
    cases hg' : i.guard with
    | none => rw [hg, hg'] at hm; simp [mGuard] at hm
    | some p =>
      obtain ⟨g, b'⟩ := p
      rw [hg, hg'] at hm
      simp only [mGuard, Bool.and_eq_true, beq_iff_eq] at hm
      obtain ⟨h1, rfl⟩ := hm
      simp only [hg'] at hw
      have inb : ∀ {y : Value}, a.tmps.getD g undef = y → y ≠ undef → a.tmps[g]? = some y := fun {y} h hy => by
        cases hq : a.tmps[g]? with
        | none => simp [Array.getD_eq_getD_getElem?, hq] at h; exact absurd h.symm hy
        | some z => simp [Array.getD_eq_getD_getElem?, hq] at h; rw [h]
      split at hw
      · rename_i t' hv
        injection hw with hw
        subst hw
        have v := vr_bool (hF.tmp g _ hv)
        have := inb v (by simp [undef])
        simp [yielded, h1, this]
      · rename_i vs hv
        injection hw with hw
        subst hw
        obtain ⟨vs', v, _⟩ := vr_tuple (hF.tmp g _ hv)
        have : yielded ops a.tmps j = none := by
          simp only [yielded, h1, Option.bind_some]
          cases hq : a.tmps[g]? with
          | none => rfl
          | some z => simp [Array.getD_eq_getD_getElem?, hq] at v; subst v; rfl
        simp [this]
      · simp at hw

theorem mOp_bin {o : Op} {op : BinOp} {ek : Nat} {ty : TypeId} {x y : Operand} (h : mOp P o (.bin op ek ty x y) = true) : ∃ x' y' yt, o = .binOp op ty x' y' yt ∧ oeq x' x = true ∧ oeq y' y = true := by
  cases o with
  | binOp op' ty' x' y' yt =>
    simp only [mOp, Bool.and_eq_true, beq_iff_eq] at h
    obtain ⟨⟨⟨⟨rfl, rfl⟩, _⟩, hx⟩, hy⟩ := h
    exact ⟨x', y', yt, rfl, hx, hy⟩
  | call c =>
    exfalso
    simp only [mOp] at h
    unfold mCall at h
    split at h <;> first | (simp at h; done) | (rename_i hs; injection hs; done)
  | _ => exact absurd h (by simp [mOp])

theorem one_sound (hE : EqOk P E) {ops : Array Oper} {j : Nat} {o : Oper} {i : SI} (ho : ops[j]? = some o) (hm : mSI P nt ops o i = true) {f : AFr} {σ : AHeap} {lab : Lab} {f1 : AFr} {σ1 : AHeap} {a : Act} {w : World}
    (h : One (Snd P B) E i f σ lab f1 σ1) (hR : Rl B nt w0 ι0 σ0 f σ a w) {K : Act → World → Prop} (hK : ∀ a' w', Rl B nt w0 ι0 σ0 f1 σ1 a' w' → K a' w') : wpOp P ops Q j K a w := by
  obtain ⟨lam, ι, hI, hB, hF⟩ := hR.ex
  simp only [mSI, Bool.and_eq_true, beq_iff_eq] at hm
  obtain ⟨⟨⟨hd, hnt⟩, hg⟩, hop⟩ := hm
  have hdlt : ∀ t, i.dst = some t → t < nt := fun t e => by rw [e] at hnt; simpa using hnt
  unfold wpOp
  simp only [ho]
  cases h with
  | skip hw =>
    rw [wanted_rel hF hg hw]
    simp only [Bool.false_eq_true, if_false]
    exact hK _ _ ⟨lam, ι, hI, hB, by rw [hd]; exact hF.put hdlt (VR.tuple .nil)⟩
  | step hw hs =>
    rw [wanted_rel hF hg hw]
    simp only [if_true]
    refine .inl ?_
    obtain ⟨y, w', lam', ι', hrun, h1, h2, h3, h4⟩ := step_sim hI hB hF rfl hop hs
    unfold Oper.wp
    rcases hrun with hrun | ⟨hrun, rfl⟩
    · rw [hrun]
      simp only [Oper.upon]
      exact hK _ _ ⟨lam', ι', h1, h2, by rw [hd]; exact h3.put hdlt h4⟩
    · rw [hrun]
      simp only [Oper.upon]
      exact hK _ _ ⟨lam', ι', h1, h2, by rw [hd]; exact h3.put hdlt h4⟩
  | eq hw hi hop' ha hb he =>
    rename_i op ek ty x y va vb t
    rw [wanted_rel hF hg hw]
    simp only [if_true]
    refine .inl ?_
    rw [hi] at hop
    obtain ⟨x', y', yt, hoo, hx, hy⟩ := mOp_bin hop
    have hr := hE ty va vb t he ι (a.eval x') (a.eval y') w op x' y' (evV_rel hF hx ha) (evV_rel hF hy hb) hop'
    have hrun : (execOp a.eval o).run P w = .ok (.value (.bool (if op = .eql then t else !t))) w := by
      simp only [execOp, hoo, Sem.run_bind]
      simp only [Sem.run_bind] at hr
      rw [hr]
      rfl
    unfold Oper.wp
    rw [hrun]
    simp only [Oper.upon]
    exact hK _ _ ⟨lam, ι, hI, hB, by rw [hd]; exact hF.put hdlt (VR.bool _)⟩
  | call hw hc hr _ =>
    rename_i g vals σ' r _
    rw [wanted_rel hF hg hw]
    simp only [if_true]
    refine .inl ?_
    obtain ⟨hcal, hsnd⟩ := hr
    obtain ⟨ι1, cargs, hrun, h1, h2, h3, h4⟩ := callee_run hI hB hF rfl hop hc hcal
    unfold Oper.wp
    rw [hrun]
    simp only [Oper.upon]
    refine (hsnd w ι1 cargs h1 h4).mono ?_
    rintro e w' ⟨v', ι', rfl, h5, h6, h7⟩
    exact hK _ _ ⟨lam, ι', h6, h2.trans h7, by rw [hd]; exact (h3.step h7).put hdlt h5⟩

theorem run_sound (hE : EqOk P E) {ops : Array Oper} {S : Array SI} {L : Nat → Lab} (hm : ∀ (j : Nat) (i : SI), S[j]? = some i → ∃ o, ops[j]? = some o ∧ mSI P nt ops o i = true) {R : List Nat} {f : AFr} {σ : AHeap} {f' : AFr} {σ' : AHeap}
    (h : Run (Snd P B) E S L R f σ f' σ') : ∀ (a : Act) (w : World), Rl B nt w0 ι0 σ0 f σ a w → (∀ a' w', Rl B nt w0 ι0 σ0 f' σ' a' w' → Q .normal a' w') → wpOps P ops Q R a w := by
  induction h with
  | nil f σ => intro a w hR hQ; exact hQ a w hR
  | cons hs h1 t ih =>
    intro a w hR hQ
    rw [wpOps_cons]
    obtain ⟨o, ho, hmo⟩ := hm _ _ hs
    exact one_sound hE ho hmo h1 hR fun a' w' hR' => ih a' w' hR' hQ

theorem mOps_get {ops : Array Oper} : ∀ {l : List Oper} {m : List SI}, mOps P nt ops l m = true → l.length = m.length ∧ ∀ (j : Nat) i, m[j]? = some i → ∃ o, l[j]? = some o ∧ mSI P nt ops o i = true
  | [], [], _ => ⟨rfl, by simp⟩
  | o :: l, s :: m, h => by
    simp only [mOps, Bool.and_eq_true] at h
    obtain ⟨h1, h2⟩ := mOps_get h.2
    refine ⟨by simp [h1], fun j i hj => ?_⟩
    cases j with
    | zero => simp at hj; subst hj; exact ⟨o, rfl, h.1⟩
    | succ j => simpa using h2 j i (by simpa using hj)
  | [], _ :: _, h => by simp [mOps] at h
  | _ :: _, [], h => by simp [mOps] at h

/-- A piece of code: in whatever order. -/
theorem region_sound (hE : EqOk P E) {id : Nat} {ops : Array Oper} {l : List SI} (hm : mOps P nt ops ops.toList l = true) {f : AFr} {σ : AHeap} {ls : List Lab} {f' : AFr} {σ' : AHeap} (h : Ops (Snd P B) E l f σ ls f' σ')
    {a : Act} {w : World} (hR : Rl B nt w0 ι0 σ0 f σ a w) (hQ : ∀ a' w', Rl B nt w0 ι0 σ0 f' σ' a' w' → Q .normal a' w') : (Code.region id ops false).wp P Q a w := by
  obtain ⟨hlen, hget⟩ := mOps_get hm
  refine wp_region ?_
  have hr := Ops.run (S := l.toArray) (L := fun j => ls.getD j .p) h 0 (fun i x hx => by simpa using hx) (fun i x hx => by simp [List.getD_eq_getElem?_getD, hx])
  rw [← hlen, ← List.range_eq_range'] at hr
  simp only [Array.length_toList] at hr
  exact run_sound hE (fun j i hj => by
    obtain ⟨o, h1, h2⟩ := hget j i (by simpa using hj)
    exact ⟨o, by simpa using h1, h2⟩) hr a w hR hQ

theorem one_pure {CR : CallR} {i : SI} {f : AFr} {σ : AHeap} {lab : Lab} {f1 : AFr} {σ1 : AHeap} (h : One CR E i f σ lab f1 σ1) (hp : i.op.pureOp = true) : lab = .p := by
  cases h with
  | skip _ => rfl
  | step hw hs => exact (pure_lab hp hs).1
  | eq => rfl
  | call hw hc hr _ => revert hp hc; cases i.op <;> simp [callee, SOp.pureOp]

theorem ops_lab {CR : CallR} {l : List SI} {f : AFr} {σ : AHeap} {ls : List Lab} {f' : AFr} {σ' : AHeap} (h : Ops CR E l f σ ls f' σ') : ls.length = l.length ∧ ∀ (j : Nat) i, l[j]? = some i → i.op.pureOp = true → ls.getD j .p = .p := by
  induction h with
  | nil => exact ⟨rfl, by simp⟩
  | cons h1 t ih =>
    refine ⟨by simp [ih.1], fun j i hj hp => ?_⟩
    cases j with
    | zero => simp at hj; subst hj; simpa using one_pure h1 hp
    | succ j => simpa using ih.2 j i (by simpa using hj) hp

theorem compat_p (x : Lab) : Lab.compat .p x = true ∧ Lab.compat x .p = true := by cases x <;> simp [Lab.compat]

theorem dregion_sound (hE : EqOk P E) {id : Nat} {ops : Array Oper} {l : List SI} {pairs : List (Nat × Nat)} (hm : mOps P nt ops ops.toList l = true) (hp : mPairs ops l.toArray pairs = true)
    (hx : (P.follows .mixedOrders || !Region.departs ops) = true) {f : AFr} {σ : AHeap} {ls : List Lab} {f' : AFr} {σ' : AHeap} (h : Ops (Snd P B) E l f σ ls f' σ') (hls : pairsOk pairs ls = true)
    {a : Act} {w : World} (hR : Rl B nt w0 ι0 σ0 f σ a w) (hQ : ∀ a' w', Rl B nt w0 ι0 σ0 f' σ' a' w' → Q .normal a' w') : (Code.region id ops true).wp P Q a w := by
  obtain ⟨hlen, hget⟩ := mOps_get hm
  refine wp_region_draw fun t => ?_
  have hsch : Region.schedule (P.follows .mixedOrders) ops t = Region.linearise .any ops t := by
    unfold Region.schedule
    rw [if_pos hx]
  rw [hsch]
  have hr := Ops.run (S := l.toArray) (L := fun j => ls.getD j .p) h 0 (fun i x hx => by simpa using hx) (fun i x hx => by simp [List.getD_eq_getElem?_getD, hx])
  rw [← hlen, ← List.range_eq_range'] at hr
  simp only [Array.length_toList] at hr
  obtain ⟨_, hpure⟩ := ops_lab h
  unfold mPairs at hp
  simp only [List.all_eq_true, List.mem_range, Bool.and_eq_true, Bool.or_eq_true] at hp
  have hn : ∀ j, j < ops.size → ∃ o, ops[j]? = some o ∧ (∀ e ∈ o.after.toList, Region.binds .any e = true → e.on < j) := fun j hj => by
    have h1 := (hp j hj).1
    refine ⟨ops[j], Array.getElem?_eq_getElem hj, fun e he hb => ?_⟩
    simp only [Array.getElem?_eq_getElem hj, Option.map_some, Option.getD_some, Array.all_eq_true_iff_forall_mem, Bool.or_eq_true, Bool.not_eq_true', decide_eq_true_eq] at h1
    rcases h1 e (Array.mem_toList_iff.1 he) with h2 | h2
    · rw [hb] at h2; simp at h2
    · exact h2
  have hcomm : ∀ i j, i < j → j < ops.size → ((befs ops.toList #[]).getD j 0).testBit i = false → Comm l.toArray (fun j => ls.getD j .p) i j := by
    intro i j hij hj hbit x y hx hy
    rcases (hp j hj).2 i hij with h1 | h1
    · rw [hbit] at h1; simp at h1
    · simp only [hx, hy, Bool.and_eq_true, Bool.or_eq_true] at h1
      refine ⟨h1.1, ?_⟩
      rcases h1.2 with (h2 | h2) | h2
      · simp only [hpure i x (by simpa using hx) h2]; exact (compat_p _).1
      · simp only [hpure j y (by simpa using hy) h2]; exact (compat_p _).2
      · unfold pairsOk at hls
        simp only [List.all_eq_true] at hls
        exact hls (i, j) (by simpa using h2)
  have hl0 : left ops.size (Array.replicate ops.size false) = List.range ops.size := by
    unfold left
    refine List.filter_eq_self.2 fun j hj => ?_
    have := List.mem_range.1 hj
    simp [Array.getD_eq_getD_getElem?, this]
  obtain ⟨f'', h1, h2⟩ := Run.drawn hn hcomm ops.size t (Array.replicate ops.size false) f σ f' σ' (by simp) (by rw [hl0]; simp) (by
    intro i o hi hlt
    simp [Array.getD_eq_getD_getElem?, hlt] at hi) (by rw [hl0]; exact hr)
  have hB : Rl B nt w0 ι0 σ0 f σ a { w with drawn := w.drawn + 1 } := by
    obtain ⟨lam, ι, hI, hB, hF⟩ := hR.ex
    exact ⟨lam, ι, hI.drew, hB.trans (Bs.drew w ι σ), hF.step (Bs.drew w ι σ)⟩
  exact run_sound hE (fun j i hj => by
    obtain ⟨o, h1, h2⟩ := hget j i (by simpa using hj)
    exact ⟨o, by simpa using h1, h2⟩) h1 a _ hB fun a' w' hR' => hQ a' w' (hR'.congr h2.symm)

end
end Go.Am

namespace Go.Am

def exitOf : AX → Exit
  | .nrm => .normal
  | .ex i => .exit i
  | .ret => .ret

/-- The abstract machine's program is one of P: each stripped code fits, each summary and each == is owed. -/
structure ProgOk (P : Program) (B : Nat) (A : AProg) : Prop where
  fn : ∀ g sf, A.fn g = some sf → mFn P g sf = true
  prim : ∀ g args σ r σ', A.prim g args σ r σ' → Snd P B g args σ r σ'
  eqv : EqOk P A.eqv

/-- What a task's run owes. -/
def Owes (P : Program) (B : Nat) (E : EqR) : Task → Prop
  | .ops l f σ ls f' σ' => Ops (Snd P B) E l f σ ls f' σ'
  | .call g args σ r σ' => Snd P B g args σ r σ'
  | .code c f σ x f' σ' =>
    (∀ (nt : Nat) (cd : Code), mC P nt c cd = true → ∀ (w0 : World) (ι0 : Inj) (σ0 : AHeap) (a : Act) (w : World) (Q : Exit → Act → World → Prop), Rl B nt w0 ι0 σ0 f σ a w →
      (∀ a' w', Rl B nt w0 ι0 σ0 f' σ' a' w' → Q (exitOf x) a' w') → cd.wp P Q a w) ∧
    (∀ ts bs, c = .keep ts bs → x = .nrm ∧ ∀ (nt : Nat) (w0 : World) (ι0 : Inj) (σ0 : AHeap) (a : Act) (w : World), Rl B nt w0 ι0 σ0 f σ a w → Rl B nt w0 ι0 σ0 f' σ' a w) ∧
    (∀ b, c = .loop b → ∀ (nt : Nat) (cd : Code), mC P nt b cd = true → ∀ (w0 : World) (ι0 : Inj) (σ0 : AHeap) (a : Act) (w : World) (Q : Exit → Act → World → Prop), Rl B nt w0 ι0 σ0 f σ a w →
      (∀ a' w', Rl B nt w0 ι0 σ0 f' σ' a' w' → Q (exitOf x) a' w') → ∀ (fr : Frame) (k : List Item) (cs : List Frame), ∃ e a' w', Q e a' w' ∧ Arrives P (lone (fr.at a (.code cd :: .inLoop cd :: k)) cs w) fr k cs e a' w')

section
variable {P : Program} {B nt : Nat} {w0 : World} {ι0 : Inj} {σ0 : AHeap}

theorem keep_get {f f' : AFr} {ts bs : List Nat} (h : f.keep ts bs = some f') :
    (∀ t x, f'.get t = some x → f.get t = some x) ∧ (∀ k cs, f'.box k = some cs → f.box k = some cs) ∧ (∀ t k o, f'.get t = some (.l k o) → (f'.box k).isSome) := by
  unfold AFr.keep at h
  simp only at h
  split at h
  · rename_i hall
    injection h with h
    subst h
    have look : ∀ {α : Type} (g : Nat → Option α) (l : List Nat) (t : Nat) (x : α), List.lookup t (l.filterMap fun t => (g t).map fun x => (t, x)) = some x → g t = some x := by
      intro α g l
      induction l with
      | nil => intro t x h; simp at h
      | cons j l ih =>
        intro t x h
        cases hg : g j with
        | none => simp only [List.filterMap_cons, hg, Option.map_none] at h; exact ih t x h
        | some y =>
          simp only [List.filterMap_cons, hg, Option.map_some, List.lookup_cons] at h
          by_cases e : t = j
          · subst e; simp at h; rw [hg, h]
          · have : (t == j) = false := by simpa using e
            rw [this] at h
            exact ih t x h
    refine ⟨fun t x h => look f.get ts t x h, fun k cs h => look f.box bs k cs h, fun t k o h => ?_⟩
    have hm : (t, AV.l k o) ∈ ts.filterMap fun t => (f.get t).map fun x => (t, x) := by
      have : ∀ {l : List (Nat × AV)}, List.lookup t l = some (.l k o) → (t, AV.l k o) ∈ l := by
        intro l
        induction l with
        | nil => intro h; simp at h
        | cons p l ih =>
          obtain ⟨j, y⟩ := p
          intro h
          rw [List.lookup_cons] at h
          by_cases e : t = j
          · subst e; simp at h; subst h; simp
          · have : (t == j) = false := by simpa using e
            rw [this] at h
            exact List.mem_cons_of_mem _ (ih h)
      exact this h
    rw [List.all_eq_true] at hall
    exact hall _ hm
  · simp at h

theorem Rl.keep {f f' : AFr} {σ : AHeap} {a : Act} {w : World} {ts bs : List Nat} (h : Rl B nt w0 ι0 σ0 f σ a w) (hk : f.keep ts bs = some f') : Rl B nt w0 ι0 σ0 f' σ a w := by
  obtain ⟨lam, ι, hI, hB, hF⟩ := h.ex
  obtain ⟨h1, h2, h3⟩ := keep_get hk
  have hsome : ∀ k, (f'.box k).isSome → (f.box k).isSome := fun k hk => by
    obtain ⟨cs, hcs⟩ := Option.isSome_iff_exists.1 hk
    rw [h2 k cs hcs]; rfl
  refine ⟨lam, ι, hI, hB, ⟨hF.nt, hF.defers, fun t x hx => ?_, fun k cs hc => hF.box k cs (h2 k cs hc), fun i j hi hj => hF.inj i j (hsome i hi) (hsome j hj)⟩⟩
  have h := hF.tmp t x (h1 t x hx)
  cases x with
  | v x => exact h
  | l k o => exact ⟨h.1, h3 t k o hx⟩
  | imm cs e n =>
    obtain ⟨c, arr, el, k1, k2, k3, k4, k5, k6, k7, k8, k9⟩ := h
    exact ⟨c, arr, el, k1, k2, k3, k4, k5, k6, k7, k8, fun k hk => k9 k (hsome k hk)⟩

def resF (tmps : Array Value) : ResultVar → Sem Value
  | .tmp t => pure (tmps.getD t undef)
  | .cell x t => do loadVar t (← asAddr (tmps.getD x undef))

theorem results_eq (fn : Func) (tmps : Array Value) : results fn tmps = (fn.results.mapM (resF tmps)) >>= fun vs => pure (if h : vs.size = 1 then vs[0] else .tuple vs) := by
  unfold results
  congr 2

theorem mC_skip {cd : Code} (h : mC P nt .skip cd = true) : cd = .skip := by cases cd <;> simp [mC] at h ⊢
theorem mC_reg {cd : Code} {l : List SI} (h : mC P nt (.reg l) cd = true) : ∃ id ops, cd = .region id ops false ∧ mOps P nt ops ops.toList l = true := by
  cases cd with
  | region id ops dr =>
    cases dr
    · simp only [mC] at h; exact ⟨id, ops, rfl, h⟩
    · simp [mC] at h
  | _ => simp [mC] at h
theorem mC_dreg {cd : Code} {l : List SI} {ps : List (Nat × Nat)} (h : mC P nt (.dreg l ps) cd = true) :
    ∃ id ops, cd = .region id ops true ∧ mOps P nt ops ops.toList l = true ∧ mPairs ops l.toArray ps = true ∧ (P.follows .mixedOrders || !Region.departs ops) = true := by
  cases cd with
  | region id ops dr =>
    cases dr
    · simp [mC] at h
    · simp only [mC, Bool.and_eq_true] at h; exact ⟨id, ops, rfl, h.1.1, h.1.2, h.2⟩
  | _ => simp [mC] at h
theorem mC_seq {cd : Code} {a b : SC} (hk : ¬ ∃ ts bs, a = .keep ts bs) (h : mC P nt (.seq a b) cd = true) : ∃ c d, cd = .seq c d ∧ mC P nt a c = true ∧ mC P nt b d = true := by
  cases a with
  | keep ts bs => exact absurd ⟨ts, bs, rfl⟩ hk
  | _ =>
    cases cd with
    | seq c d => simp only [mC, Bool.and_eq_true] at h; exact ⟨c, d, rfl, h.1, h.2⟩
    | _ => simp [mC] at h
theorem mC_cond {cd : Code} {x : Operand} {a b : SC} (h : mC P nt (.cond x a b) cd = true) : ∃ y c d, cd = .cond y c d ∧ oeq y x = true ∧ mC P nt a c = true ∧ mC P nt b d = true := by
  cases cd with
  | cond y c d => simp only [mC, Bool.and_eq_true] at h; exact ⟨y, c, d, rfl, h.1.1, h.1.2, h.2⟩
  | _ => simp [mC] at h
theorem mC_block {cd : Code} {i : Nat} {a : SC} (h : mC P nt (.block i a) cd = true) : ∃ c, cd = .block i c ∧ mC P nt a c = true := by
  cases cd with
  | block j c => simp only [mC, Bool.and_eq_true, beq_iff_eq] at h; exact ⟨c, by rw [h.1], h.2⟩
  | _ => simp [mC] at h
theorem mC_loop {cd : Code} {a : SC} (h : mC P nt (.loop a) cd = true) : ∃ c, cd = .loop c ∧ mC P nt a c = true := by
  cases cd with
  | loop c => simp only [mC] at h; exact ⟨c, rfl, h⟩
  | _ => simp [mC] at h
theorem mC_exit {cd : Code} {i : Nat} (h : mC P nt (.exit i) cd = true) : cd = .exit i := by
  cases cd with
  | exit j => simp only [mC, beq_iff_eq] at h; rw [h]
  | _ => simp [mC] at h
theorem mC_ret {cd : Code} (h : mC P nt .ret cd = true) : cd = .ret := by cases cd <;> simp [mC] at h ⊢
theorem mC_keep {cd : Code} {ts bs : List Nat} (h : mC P nt (.keep ts bs) cd = true) : False := by cases cd <;> simp [mC] at h

theorem res_one {σ : AHeap} {f : AFr} {a : Act} {w : World} {lam : Nat → Nat} {ι : Inj} (hI : Inv B ι σ w) (hF : FR w0.heap.size nt lam ι σ f a w) : ∀ {rs : List ResultVar} {ss : List SRes} {vs : List Value}, mRes P rs ss = true →
    resAll f σ ss = some vs → ∃ vs', (rs.mapM (resF a.tmps)).run P w = .ok vs' w ∧ VRL ι vs vs'
  | [], [], vs, _, h => by simp [resAll] at h; subst h; exact ⟨[], by simp, .nil⟩
  | .tmp t :: rs, .tmp u :: ss, vs, hm, h => by
    simp only [mRes, Bool.and_eq_true, beq_iff_eq] at hm
    obtain ⟨rfl, hm⟩ := hm
    simp only [resAll, resOf] at h
    split at h
    · rename_i x hx
      simp only [Option.bind_some] at h
      cases hr : resAll f σ ss with
      | none => simp [hr] at h
      | some l =>
        simp only [hr, Option.bind_some, Option.some.injEq] at h
        subst h
        obtain ⟨l', h1, h2⟩ := res_one hI hF hm hr
        refine ⟨a.tmps.getD t undef :: l', ?_, .cons (hF.tmp t _ hx) h2⟩
        simp only [List.mapM_cons, Sem.run_bind, resF, Sem.run_pure, Result.andThen_ok, h1]
    · simp at h
  | .cell x t :: rs, .cell y n :: ss, vs, hm, h => by
    simp only [mRes, Bool.and_eq_true, beq_iff_eq] at hm
    obtain ⟨⟨rfl, hl⟩, hm⟩ := hm
    simp only [resAll] at h
    cases hx : resOf f σ (.cell x n) with
    | none => simp [hx] at h
    | some v =>
      cases hr : resAll f σ ss with
      | none => simp [hx, hr] at h
      | some l =>
        simp only [hx, hr, Option.bind_some, Option.some.injEq] at h
        subst h
        obtain ⟨l', h1, h2⟩ := res_one hI hF hm hr
        have key : ∃ c q, a.tmps.getD x undef = .pointer (some ⟨c, q, none⟩) ∧ ∃ y, (loadVar t ⟨c, q, none⟩).run P w = .ok y w ∧ VR ι v y := by
          simp only [resOf] at hx
          split at hx
          · rename_i k q hv
            obtain ⟨e, hks⟩ := hF.tmp x _ hv
            obtain ⟨cs, hcs⟩ := Option.isSome_iff_exists.1 hks
            simp only [hcs, Option.bind_some] at hx
            obtain ⟨_, ⟨arr, el, k1, k2, k3⟩, _⟩ := hF.box k cs hcs
            obtain ⟨z, hz, hvr⟩ := load_run hl (readable_row k1 k2 k3) hx
            rw [Nat.zero_add] at hz
            exact ⟨_, _, e, z, hz, hvr⟩
          · rename_i b q hv
            obtain ⟨p, hp, e⟩ := vr_ptr (hF.tmp x _ hv)
            split at hx
            · rename_i cs e' m hb
              obtain ⟨z, hz, hvr⟩ := load_run hl (readable_blk hI hb hp) hx
              exact ⟨_, _, e, z, hz, hvr⟩
            · simp at hx
          · simp at hx
        obtain ⟨c, q, e, y, hy, hvr⟩ := key
        refine ⟨y :: l', ?_, .cons hvr h2⟩
        simp only [List.mapM_cons, Sem.run_bind, resF, e, asAddr, Sem.run_pure, Result.andThen_ok, hy, h1]
  | [], _ :: _, _, hm, _ => by simp [mRes] at hm
  | _ :: _, [], _, hm, _ => by simp [mRes] at hm
  | .tmp _ :: _, .cell _ _ :: _, _, hm, _ => by simp [mRes] at hm
  | .cell _ _ :: _, .tmp _ :: _, _, hm, _ => by simp [mRes] at hm

theorem results_run {σ : AHeap} {f : AFr} {a : Act} {w : World} {lam : Nat → Nat} {ι : Inj} (hI : Inv B ι σ w) (hF : FR w0.heap.size nt lam ι σ f a w) {fn : Func} {ss : List SRes} {vs : List Value} (hm : mRes P fn.results.toList ss = true)
    (h : resAll f σ ss = some vs) : ∃ v', (results fn a.tmps).run P w = .ok v' w ∧ VR ι (tupleOf vs) v' := by
  obtain ⟨vs', h1, h2⟩ := res_one hI hF hm h
  have hM : (fn.results.mapM (resF a.tmps)).run P w = .ok vs'.toArray w := by
    rw [Array.mapM_eq_mapM_toList]
    simp only [Sem.run_map, h1, Result.andThen_ok]
  rw [results_eq]
  simp only [Sem.run_bind, hM, Result.andThen_ok, Sem.run_pure]
  cases h2 with
  | nil => exact ⟨_, rfl, VR.tuple .nil⟩
  | cons hv hl =>
    cases hl with
    | nil => exact ⟨_, rfl, hv⟩
    | cons hv2 hl2 =>
      refine ⟨_, rfl, ?_⟩
      rw [dif_neg (by simp)]
      exact VR.tuple (by simpa using VRL.cons hv (VRL.cons hv2 hl2))

theorem argsFr_get (args : List Value) (t : Nat) (x : AV) (h : (argsFr args).get t = some x) : ∃ v, args[t]? = some v ∧ x = .v v := by
  unfold argsFr AFr.get at h
  simp only at h
  have : ∀ (l : List Value) (k t : Nat), List.lookup t ((l.zipIdx k).map fun (v, i) => (i, AV.v v)) = some x → ∃ v, k ≤ t ∧ l[t - k]? = some v ∧ x = .v v := by
    intro l
    induction l with
    | nil => intro k t h; simp at h
    | cons y l ih =>
      intro k t h
      simp only [List.zipIdx_cons, List.map_cons, List.lookup_cons] at h
      by_cases e : t = k
      · subst e; simp at h; exact ⟨y, Nat.le_refl _, by simp, h.symm⟩
      · have hb : (t == k) = false := by simpa using e
        rw [hb] at h
        obtain ⟨v, h1, h2, h3⟩ := ih (k + 1) t h
        refine ⟨v, by omega, ?_, h3⟩
        rw [show t - k = t - (k + 1) + 1 by omega]
        simpa using h2
  obtain ⟨v, _, h2, h3⟩ := this args 0 t h
  exact ⟨v, by simpa using h2, h3⟩

theorem owes {A : AProg} (hA : ProgOk P B A) {t : Task} (h : Ev A t) : Owes P B A.eqv t := by
  induction h with
  | opsNil f σ => exact .nil f σ
  | opsSkip hw h ih => exact .cons (.skip hw) ih
  | opsStep hw hs h ih => exact .cons (.step hw hs) ih
  | opsEq hw ho hop ha hb hn he h ih => exact .cons (.eq hw ho hop ha hb he) ih
  | opsCall hw hc hr hl h ihr ih => exact .cons (.call hw hc ihr hl) ih
  | skip f σ =>
    refine ⟨fun nt cd hm w0 ι0 σ0 a w Q hR hQ => ?_, by simp, by simp⟩
    obtain rfl := mC_skip hm
    exact wp_skip (hQ a w hR)
  | reg h ih =>
    refine ⟨fun nt cd hm w0 ι0 σ0 a w Q hR hQ => ?_, by simp, by simp⟩
    obtain ⟨id, ops, rfl, hm⟩ := mC_reg hm
    exact region_sound hA.eqv hm ih hR hQ
  | dreg h hp ih =>
    refine ⟨fun nt cd hm w0 ι0 σ0 a w Q hR hQ => ?_, by simp, by simp⟩
    obtain ⟨id, ops, rfl, hm1, hm2, hm3⟩ := mC_dreg hm
    exact dregion_sound hA.eqv hm1 hm2 hm3 ih hp hR hQ
  | @seqN sa sb f σ f1 σ1 x f' σ' h1 h2 ih1 ih2 =>
    refine ⟨fun nt cd hm w0 ι0 σ0 a w Q hR hQ => ?_, by simp, by simp⟩
    by_cases hk : ∃ ts bs, sa = .keep ts bs
    · obtain ⟨ts, bs, rfl⟩ := hk
      have hm' : mC P nt sb cd = true := by simpa [mC] using hm
      exact ih2.1 nt cd hm' w0 ι0 σ0 a w Q ((ih1.2.1 ts bs rfl).2 nt w0 ι0 σ0 a w hR) hQ
    · obtain ⟨c, d, rfl, hma, hmb⟩ := mC_seq hk hm
      exact wp_seq (ih1.1 nt c hma w0 ι0 σ0 a w _ hR fun a' w' hR' => ih2.1 nt d hmb w0 ι0 σ0 a' w' Q hR' hQ)
  | @seqX sa sb f σ x f' σ' hx h ih =>
    refine ⟨fun nt cd hm w0 ι0 σ0 a w Q hR hQ => ?_, by simp, by simp⟩
    by_cases hk : ∃ ts bs, sa = .keep ts bs
    · obtain ⟨ts, bs, rfl⟩ := hk
      exact absurd (ih.2.1 ts bs rfl).1 hx
    · obtain ⟨c, d, rfl, hma, hmb⟩ := mC_seq hk hm
      refine wp_seq (ih.1 nt c hma w0 ι0 σ0 a w _ hR fun a' w' hR' => ?_)
      cases x with
      | nrm => exact absurd rfl hx
      | ex i => exact hQ a' w' hR'
      | ret => exact hQ a' w' hR'
  | @cond c sa sb f σ t x f' σ' hc h ih =>
    refine ⟨fun nt cd hm w0 ι0 σ0 a w Q hR hQ => ?_, by simp, by simp⟩
    obtain ⟨y, d1, d2, rfl, ho, h1, h2⟩ := mC_cond hm
    obtain ⟨lam, ι, hI, hB, hF⟩ := hR.ex
    have hv := vr_bool (evV_rel hF ho hc)
    refine wp_cond hv ?_
    cases t with
    | true => exact ih.1 nt d1 h1 w0 ι0 σ0 a w Q hR hQ
    | false => exact ih.1 nt d2 h2 w0 ι0 σ0 a w Q hR hQ
  | @blockN id b f σ x f' σ' hx h ih =>
    refine ⟨fun nt cd hm w0 ι0 σ0 a w Q hR hQ => ?_, by simp, by simp⟩
    obtain ⟨cd', rfl, hm'⟩ := mC_block hm
    refine wp_block (ih.1 nt _ hm' w0 ι0 σ0 a w _ hR fun a' w' hR' => ?_)
    rcases hx with rfl | rfl
    · exact hQ a' w' hR'
    · simp only [exitOf, Exit.inBlock, if_true]; exact hQ a' w' hR'
  | @blockX id b f σ x f' σ' hx h ih =>
    refine ⟨fun nt cd hm w0 ι0 σ0 a w Q hR hQ => ?_, by simp, by simp⟩
    obtain ⟨cd', rfl, hm'⟩ := mC_block hm
    refine wp_block (ih.1 nt _ hm' w0 ι0 σ0 a w _ hR fun a' w' hR' => ?_)
    cases x with
    | nrm => exact absurd rfl hx.1
    | ex i =>
      have : i ≠ id := fun e => hx.2 (by rw [e])
      simp only [exitOf, Exit.inBlock, if_neg this]
      exact hQ a' w' hR'
    | ret => exact hQ a' w' hR'
  | @loopN b f σ f1 σ1 x f' σ' h1 h2 ih1 ih2 =>
    have key : ∀ (nt : Nat) (cd : Code), mC P nt b cd = true → ∀ (w0 : World) (ι0 : Inj) (σ0 : AHeap) (a : Act) (w : World) (Q : Exit → Act → World → Prop), Rl B nt w0 ι0 σ0 f σ a w →
        (∀ a' w', Rl B nt w0 ι0 σ0 f' σ' a' w' → Q (exitOf x) a' w') → ∀ (fr : Frame) (k : List Item) (cs : List Frame), ∃ e a' w', Q e a' w' ∧ Arrives P (lone (fr.at a (.code cd :: .inLoop cd :: k)) cs w) fr k cs e a' w' := by
      intro nt cd hm w0 ι0 σ0 a w Q hR hQ fr k cs
      have hb := ih1.1 nt cd hm w0 ι0 σ0 a w (fun e a' w' => e = .normal ∧ Rl B nt w0 ι0 σ0 f1 σ1 a' w') hR fun a' w' hR' => ⟨rfl, hR'⟩
      obtain ⟨e, a1, w1, ⟨rfl, hR1⟩, harr⟩ := hb fr (.inLoop cd :: k) cs
      obtain ⟨e, a2, w2, hq, harr2⟩ := ih2.2.2 b rfl nt cd hm w0 ι0 σ0 a1 w1 Q hR1 hQ fr k cs
      exact ⟨e, a2, w2, hq, .of_steps (Steps.trans harr (.one step_inLoop)) harr2⟩
    refine ⟨fun nt cd hm w0 ι0 σ0 a w Q hR hQ => ?_, by simp, fun b' e => ?_⟩
    · obtain ⟨cd, rfl, hm⟩ := mC_loop hm
      intro fr k cs
      obtain ⟨e, a', w', hq, harr⟩ := key nt _ hm w0 ι0 σ0 a w Q hR hQ fr k cs
      exact ⟨e, a', w', hq, .of_steps (.one step_loop) harr⟩
    · injection e with e
      subst e
      exact key
  | @loopX b f σ x f' σ' hx h ih =>
    have key : ∀ (nt : Nat) (cd : Code), mC P nt b cd = true → ∀ (w0 : World) (ι0 : Inj) (σ0 : AHeap) (a : Act) (w : World) (Q : Exit → Act → World → Prop), Rl B nt w0 ι0 σ0 f σ a w →
        (∀ a' w', Rl B nt w0 ι0 σ0 f' σ' a' w' → Q (exitOf x) a' w') → ∀ (fr : Frame) (k : List Item) (cs : List Frame), ∃ e a' w', Q e a' w' ∧ Arrives P (lone (fr.at a (.code cd :: .inLoop cd :: k)) cs w) fr k cs e a' w' := by
      intro nt cd hm w0 ι0 σ0 a w Q hR hQ fr k cs
      have hb := ih.1 nt cd hm w0 ι0 σ0 a w (fun e a' w' => e = exitOf x ∧ Q e a' w') hR fun a' w' hR' => ⟨rfl, hQ a' w' hR'⟩
      obtain ⟨e, a1, w1, ⟨rfl, hq⟩, harr⟩ := hb fr (.inLoop cd :: k) cs
      refine ⟨_, a1, w1, hq, .pass (x := .inLoop cd) rfl (fun _ _ => .inl ?_) harr⟩
      cases x with
      | nrm => exact absurd rfl hx
      | ex i => simp [exitOf]
      | ret => simp [exitOf]
    refine ⟨fun nt cd hm w0 ι0 σ0 a w Q hR hQ => ?_, by simp, fun b' e => ?_⟩
    · obtain ⟨cd, rfl, hm⟩ := mC_loop hm
      intro fr k cs
      obtain ⟨e, a', w', hq, harr⟩ := key nt _ hm w0 ι0 σ0 a w Q hR hQ fr k cs
      exact ⟨e, a', w', hq, .of_steps (.one step_loop) harr⟩
    · injection e with e
      subst e
      exact key
  | exit id f σ =>
    refine ⟨fun nt cd hm w0 ι0 σ0 a w Q hR hQ => ?_, by simp, by simp⟩
    obtain rfl := mC_exit hm
    exact wp_exit (hQ a w hR)
  | ret f σ =>
    refine ⟨fun nt cd hm w0 ι0 σ0 a w Q hR hQ => ?_, by simp, by simp⟩
    obtain rfl := mC_ret hm
    exact wp_ret (hQ a w hR)
  | keep hk =>
    exact ⟨fun nt cd hm => (mC_keep hm).elim, fun ts bs e => ⟨rfl, fun nt w0 ι0 σ0 a w hR => hR.keep hk⟩, by simp⟩
  | @call g args σ sf x f' σ' vs hf h hx hr ih =>
    have hm := hA.fn g sf hf
    unfold mFn at hm
    split at hm
    · rename_i fn hfn
      simp only [Bool.and_eq_true, Bool.not_eq_true'] at hm
      obtain ⟨⟨hm1, hm2⟩, hm3⟩ := hm
      split at hm1
      · rename_i c hc
        refine ⟨by simp [calls, hfn, hc, hm3], fun w ι cargs hI hargs => ?_⟩
        refine calls_of_wp hfn hc ?_
        have hR : Rl B fn.ntmps w ι σ (argsFr args) σ { tmps := cargs ++ Array.replicate (fn.ntmps - cargs.size) undef, defers := [] } w := by
          refine ⟨fun _ => 0, ι, hI, Bs.refl _ _ _, ⟨by simp; omega, rfl, fun t y hy => ?_, fun k cs hk => by simp [argsFr, AFr.box] at hk, fun j k hj => by simp [argsFr, AFr.box] at hj⟩⟩
          obtain ⟨v, hv, rfl⟩ := argsFr_get args t y hy
          obtain ⟨v', hv', hvr⟩ := hargs.get hv
          have hlt : t < cargs.size := by
            rcases Nat.lt_or_ge t cargs.size with h | h
            · exact h
            · simp [Array.getElem?_eq_none h] at hv'
          have : (cargs ++ Array.replicate (fn.ntmps - cargs.size) undef).getD t undef = v' := by
            rw [Array.getD_eq_getD_getElem?, Array.getElem?_append_left hlt]
            simp at hv'
            rw [hv']
            rfl
          simp only [this]
          exact hvr
        refine ih.1 fn.ntmps c hm1 w ι σ _ w _ hR fun a' w' hR' => ?_
        obtain ⟨lam', ι', hI', hB', hF'⟩ := hR'.ex
        obtain ⟨v', h1, h2⟩ := results_run (P := P) hI' hF' hm2 hr
        have fin : a'.defers = [] ∧ ∃ v, (results fn a'.tmps).run P w' = .ok v w' ∧ ∃ v1 ι1, Ending.returned v = .returned v1 ∧ VR ι1 (tupleOf vs) v1 ∧ Inv B ι1 σ' w' ∧ Bs w ι σ w' ι1 σ' :=
          ⟨hF'.defers, v', h1, v', ι', rfl, h2, hI', hB'⟩
        rcases hx with rfl | rfl
        · exact fin
        · exact fin
      · simp at hm1
    · simp at hm
  | prim h => exact hA.prim _ _ _ _ _ h

/-- A call of the abstract machine is a call of the program. -/
theorem sound {A : AProg} (hA : ProgOk P B A) {g : Nat} {args : List Value} {σ : AHeap} {R : Value → AHeap → Prop} (h : ∃ r σ', Ev A (.call g args σ r σ') ∧ R r σ') {w : World} {ι : Inj} {cargs : Array Value} (hI : Inv B ι σ w)
    (hargs : VRL ι args cargs.toList) : Calls P g cargs w fun e w' => ∃ r σ' v' ι', R r σ' ∧ e = .returned v' ∧ VR ι' r v' ∧ Inv B ι' σ' w' ∧ Bs w ι σ w' ι' σ' := by
  obtain ⟨r, σ', h1, h2⟩ := h
  refine ((owes hA h1).2 w ι cargs hI hargs).mono ?_
  rintro e w' ⟨v', ι', h3, h4, h5, h6⟩
  exact ⟨r, σ', v', ι', h2, h3, h4, h5, h6⟩

end
end Go.Am

namespace Go.Am

def maxN : Nat := 140737488355328

/-- From (D, σ) to (D', σ'): old blocks that are not of D have stayed, and are not of D'. -/
structure Mv (D : List Nat) (σ : AHeap) (D' : List Nat) (σ' : AHeap) : Prop where
  size : σ.size ≤ σ'.size
  keep : ∀ b, b < σ.size → b ∉ D → σ'[b]? = σ[b]?
  old : ∀ b, b < σ.size → b ∈ D' → b ∈ D

theorem Mv.refl (D σ) : Mv D σ D σ := ⟨Nat.le_refl _, fun _ _ _ => rfl, fun _ _ h => h⟩

theorem Mv.trans {D σ D1 σ1 D2 σ2} (h : Mv D σ D1 σ1) (k : Mv D1 σ1 D2 σ2) : Mv D σ D2 σ2 where
  size := Nat.le_trans h.size k.size
  keep b hb hD := (k.keep b (Nat.lt_of_lt_of_le hb h.size) fun hd => hD (h.old b hb hd)).trans (h.keep b hb hD)
  old b hb hD := h.old b hb (k.old b (Nat.lt_of_lt_of_le hb h.size) hD)

theorem Mv.mono {D σ D' σ' E E'} (h : Mv D σ D' σ') (h1 : ∀ b ∈ D, b ∈ E) (h2 : ∀ b ∈ E', b ∈ D' ∨ b ∈ E) : Mv E σ E' σ' where
  size := h.size
  keep b hb hE := h.keep b hb fun hd => hE (h1 b hd)
  old b hb hE := by
    rcases h2 b hE with h' | h'
    · exact h1 b (h.old b hb h')
    · exact h'

theorem Mv.pre {D σ D' σ'} (X : List Nat) (h : Mv D σ D' σ') : Mv (X ++ D) σ (X ++ D') σ' :=
  h.mono (fun b hb => by simp [hb]) fun b hb => by
    rcases List.mem_append.1 hb with hb | hb
    · exact .inr (by simp [hb])
    · exact .inl hb

theorem Mv.post {D σ D' σ'} (X : List Nat) (h : Mv D σ D' σ') : Mv (D ++ X) σ (D' ++ X) σ' :=
  h.mono (fun b hb => by simp [hb]) fun b hb => by
    rcases List.mem_append.1 hb with hb | hb
    · exact .inl hb
    · exact .inr (by simp [hb])

theorem Mv.push (D : List Nat) (σ : AHeap) (x : ABlk) : Mv D σ D (σ.push x) where
  size := by simp
  keep b hb _ := by rw [Array.getElem?_push]; split <;> simp_all
  old _ _ h := h

theorem Mv.set {D : List Nat} {σ : AHeap} {b : Nat} (x : ABlk) (h : b ∈ D) : Mv D σ D (σ.setIfInBounds b x) where
  size := by simp
  keep c hc hD := Array.getElem?_setIfInBounds_ne fun e => hD (by rw [← e]; exact h)
  old _ _ h := h

theorem Mv.new (D : List Nat) (σ : AHeap) (x : ABlk) : Mv D σ (σ.size :: D) (σ.push x) where
  size := by simp
  keep b hb _ := by rw [Array.getElem?_push]; split <;> simp_all
  old b hb h := by
    rcases List.mem_cons.1 h with h | h
    · omega
    · exact h

theorem Mv.ext {σ N σ'} (h : Mv [] σ N σ') : σ.ext σ' := ⟨h.size, fun b hb => h.keep b hb (by simp)⟩

theorem Mv.drop {σ N σ'} (h : Mv [] σ N σ') : Mv [] σ [] σ' := ⟨h.size, h.keep, fun _ _ h => h⟩

theorem Mv.keep' {σ σ' : AHeap} {D' D : List Nat} (h : Mv [] σ D' σ') : ∀ b, b < σ.size → b ∉ D → σ'[b]? = σ[b]? := fun b hb _ => h.keep b hb (by simp)

/-- A kind of data: how many cells, and when cells of a heap stand for what. -/
structure Kd (α : Type) where
  n : Nat
  /-- its bytes -/
  bs : Nat
  pos : 0 < bs
  rel : List Nat → AHeap → List Value → α → Prop
  len : ∀ {D σ cs x}, rel D σ cs x → cs.length = n
  one : ∀ {D σ cs x}, rel D σ cs x → cs.all oneCell = true
  step : ∀ {D σ D' σ' cs x}, rel D σ cs x → Mv D σ D' σ' → rel D' σ' cs x

/-- Data without addresses. -/
def Kd.flat {α : Type} (n bs : Nat) (pos : 0 < bs) (cf : α → List Value) (h : ∀ x, (cf x).length = n ∧ (cf x).all oneCell = true) : Kd α where
  n := n
  bs := bs
  pos := pos
  rel _ _ cs x := cs = cf x
  len e := by rw [e]; exact (h _).1
  one e := by rw [e]; exact (h _).2
  step e _ := e

def intK : Kd Int := .flat 1 8 (by decide) (fun n => [.int .i64 n]) fun _ => ⟨rfl, rfl⟩
def strK : Kd ByteArray := .flat 1 16 (by decide) (fun s => [.string s]) fun _ => ⟨rfl, rfl⟩
def boolK : Kd Bool := .flat 1 1 (by decide) (fun b => [.bool b]) fun _ => ⟨rfl, rfl⟩

section
variable {α : Type} (K : Kd α)

/-- Cells that stand for a list. -/
def Kd.list (D : List Nat) (σ : AHeap) (cs : List Value) (xs : List α) : Prop := ∀ i x, xs[i]? = some x → K.rel D σ ((cs.drop (i * K.n)).take K.n) x

/-- A slice that is read. -/
inductive SlR (D : List Nat) (σ : AHeap) : Value → List α → Prop where
  | nil : SlR D σ (.slice none 0 0) []
  | emp (b off c : Nat) (hc : c = 0 ∨ c = K.n) : SlR D σ (.slice (some ⟨b, off, none⟩) 0 c) []
  | row {xs : List α} (b off c : Nat) (cs : List Value) (e : Nat) (m : AMode) (hn : xs.length * K.bs ≤ maxN) (hc : c = xs.length ∨ c = xs.length + K.n) (hD : b ∉ D) (hb : σ[b]? = some (.row cs e m))
      (hl : off + xs.length * K.n ≤ cs.length) (h : K.list D σ (cs.drop off) xs) : SlR D σ (.slice (some ⟨b, off, none⟩) xs.length c) xs

/-- A list of one's own: its block may be written and grown. -/
inductive Own (D : List Nat) (σ : AHeap) : List Nat → Value → List α → Prop where
  | nil : Own D σ [] (.slice none 0 0) []
  | emp (b off : Nat) : Own D σ [] (.slice (some ⟨b, off, none⟩) 0 0) []
  | row {xs : List α} (b : Nat) (cs : List Value) (hn : xs.length * K.bs ≤ maxN) (hD : b ∉ D) (hb : σ[b]? = some (.row cs K.n .W)) (hl : cs.length = xs.length * K.n)
      (h : K.list (b :: D) σ cs xs) : Own D σ [b] (.slice (some ⟨b, 0, none⟩) xs.length (xs.length + K.n)) xs

variable {K}

theorem Kd.list_step {D σ D' σ' cs} {xs : List α} (h : K.list D σ cs xs) (hm : Mv D σ D' σ') : K.list D' σ' cs xs := fun i x hx => K.step (h i x hx) hm

theorem SlR.step {D σ D' σ' v} {xs : List α} (h : SlR K D σ v xs) (hm : Mv D σ D' σ') : SlR K D' σ' v xs := by
  cases h with
  | nil => exact .nil
  | emp b off c hc => exact .emp b off c hc
  | row b off c cs e m hn hc hD hb hl h =>
    have hlt := lt_of_get hb
    exact .row b off c cs e m hn hc (fun hd => hD (hm.old b hlt hd)) ((hm.keep b hlt hD).trans hb) hl (Kd.list_step h hm)

theorem Own.step {D σ D' σ' N v} {xs : List α} (h : Own K D σ N v xs) (hm : Mv D σ D' σ') : Own K D' σ' N v xs := by
  cases h with
  | nil => exact .nil
  | emp b off => exact .emp b off
  | row b cs hn hD hb hl h =>
    have hlt := lt_of_get hb
    exact .row b cs hn (fun hd => hD (hm.old b hlt hd)) ((hm.keep b hlt hD).trans hb) hl (Kd.list_step h (hm.pre [b]))

theorem Own.sl {D σ N v} {xs : List α} (h : Own K D σ N v xs) : SlR K D σ v xs := by
  cases h with
  | nil => exact .nil
  | emp b off => exact .emp b off 0 (.inl rfl)
  | row b cs hn hD hb hl h =>
    exact .row b 0 _ cs _ _ hn (.inr rfl) hD hb (by omega) (Kd.list_step h ⟨Nat.le_refl _, fun _ _ _ => rfl, fun _ _ hd => by simp [hd]⟩)

theorem SlR.shape {D σ v} {xs : List α} (h : SlR K D σ v xs) : ∃ base c, v = .slice base xs.length c := by
  cases h <;> exact ⟨_, _, rfl⟩

theorem SlR.bnd {D σ v} {xs : List α} (h : SlR K D σ v xs) : xs.length * K.bs ≤ maxN := by
  cases h <;> simp_all

theorem SlR.bound {D σ v} {xs : List α} (h : SlR K D σ v xs) : xs.length ≤ maxN :=
  Nat.le_trans (Nat.le_mul_of_pos_right _ K.pos) h.bnd

theorem Own.shape {D σ N v} {xs : List α} (h : Own K D σ N v xs) : ∃ base c, v = .slice base xs.length c := h.sl.shape
theorem Own.bound {D σ N v} {xs : List α} (h : Own K D σ N v xs) : xs.length ≤ maxN := h.sl.bound
theorem Own.bnd {D σ N v} {xs : List α} (h : Own K D σ N v xs) : xs.length * K.bs ≤ maxN := h.sl.bnd

theorem SlR.len0 {D σ base n c} {xs : List α} (h : SlR K D σ (.slice base n c) xs) : n = xs.length := by
  obtain ⟨_, _, e⟩ := h.shape
  simpa using (Value.slice.inj e).2.1

/-- An element of a slice. -/
theorem SlR.at {D σ base n c} {xs : List α} {i : Nat} {x : α} (h : SlR K D σ (.slice base n c) xs) (hx : xs[i]? = some x) :
    ∃ b off cs e m cells, base = some ⟨b, off, none⟩ ∧ b ∉ D ∧ σ[b]? = some (.row cs e m) ∧ off + i * K.n + K.n ≤ cs.length ∧ (cs.drop (off + i * K.n)).take K.n = cells ∧ K.rel D σ cells x := by
  have hi : i < xs.length := by
    rcases Nat.lt_or_ge i xs.length with h' | h'
    · exact h'
    · simp [List.getElem?_eq_none h'] at hx
  cases h with
  | nil => simp at hi
  | emp => simp at hi
  | row b off c cs e m hn hc hD hb hl h =>
    have h1 := h i x hx
    rw [List.drop_drop] at h1
    have : (i + 1) * K.n ≤ xs.length * K.n := Nat.mul_le_mul_right _ hi
    rw [Nat.add_mul] at this
    exact ⟨b, off, cs, e, m, _, rfl, hD, hb, by omega, rfl, h1⟩

/-- The same, as a load of many cells says it. -/
theorem SlR.atN {D σ base n c j} {xs : List α} {i : Nat} {x : α} (h : SlR K D σ (.slice base n c) xs) (hK : K.n = j) (hx : xs[i]? = some x) :
    ∃ b off cs e m cells, base = some ⟨b, off, none⟩ ∧ σ[b]? = some (.row cs e m) ∧ cut (some j) cs (off + i * j) = some (.agg cells.toArray) ∧ K.rel D σ cells x := by
  obtain ⟨b, off, cs, e, m, cells, h1, _, h3, h4, h5, h6⟩ := h.at hx
  subst hK
  exact ⟨b, off, cs, e, m, cells, h1, h3, by simp [cut, h4, h5], h6⟩

/-- The same, and each part of the element as a load of it says it. -/
theorem SlR.atE {D σ base n c j} {xs : List α} {i : Nat} {x : α} (h : SlR K D σ (.slice base n c) xs) (hK : K.n = j) (hx : xs[i]? = some x) :
    ∃ b off cs e m cells, base = some ⟨b, off, none⟩ ∧ σ[b]? = some (.row cs e m) ∧ K.rel D σ cells x ∧ (∀ k u, cells[k]? = some u → cut none cs (off + i * j + k) = some u) ∧
      ∀ k n, k + n ≤ j → cut (some n) cs (off + i * j + k) = some (.agg ((cells.drop k).take n).toArray) := by
  obtain ⟨b, off, cs, e, m, cells, h1, _, h3, h4, h5, h6⟩ := h.at hx
  subst hK
  refine ⟨b, off, cs, e, m, cells, h1, h3, h6, fun k u hk => ?_, fun k n hk => ?_⟩
  · have hl : k < K.n := by
      have := K.len h6
      rcases Nat.lt_or_ge k cells.length with h' | h'
      · omega
      · simp [List.getElem?_eq_none h'] at hk
    rw [← h5, List.getElem?_take_of_lt hl, List.getElem?_drop] at hk
    exact hk
  · rw [cut, if_pos (by omega), ← h5, List.drop_take, List.take_take, Nat.min_eq_left (by omega), List.drop_drop]

theorem SlR.at1 {D σ base n c} {xs : List α} {i : Nat} {x : α} (h : SlR K D σ (.slice base n c) xs) (hx : xs[i]? = some x) (hK : K.n = 1) :
    ∃ b off cs e m u, base = some ⟨b, off, none⟩ ∧ σ[b]? = some (.row cs e m) ∧ cut none cs (off + i * 1) = some u ∧ K.rel D σ [u] x := by
  obtain ⟨b, off, cs, e, m, cells, h1, _, h3, h4, h5, h6⟩ := h.at hx
  rw [hK] at h4 h5
  have hlt : off + i * 1 < cs.length := by omega
  have hd := List.drop_eq_getElem_cons hlt
  rw [hd] at h5
  have h5' : cells = [cs[off + i * 1]] := by rw [← h5]; rfl
  rw [h5'] at h6
  exact ⟨b, off, cs, e, m, _, h1, h3, by rw [cut, List.getElem?_eq_getElem hlt], h6⟩

/-- An element of a list of one's own. -/
theorem Own.atN {D σ N base n c j} {xs : List α} {i : Nat} {x : α} (h : Own K D σ N (.slice base n c) xs) (hK : K.n = j) (hx : xs[i]? = some x) :
    ∃ b cs cells, base = some ⟨b, 0, none⟩ ∧ N = [b] ∧ σ[b]? = some (.row cs j .W) ∧ cut (some j) cs (i * j) = some (.agg cells.toArray) ∧ K.rel (N ++ D) σ cells x := by
  subst hK
  have hi : i < xs.length := by
    rcases Nat.lt_or_ge i xs.length with h' | h'
    · exact h'
    · simp [List.getElem?_eq_none h'] at hx
  cases h with
  | nil => simp at hi
  | emp => simp at hi
  | row b cs hn hD hb hl h =>
    have h1 := h i x hx
    have : (i + 1) * K.n ≤ xs.length * K.n := Nat.mul_le_mul_right _ hi
    rw [Nat.add_mul] at this
    exact ⟨b, cs, _, rfl, rfl, hb, by simp [cut]; omega, h1⟩

theorem SlR.take {D σ b off c n} {xs : List α} (h : SlR K D σ (.slice (some ⟨b, off, none⟩) xs.length c) xs) (hn : n ≤ xs.length) :
    SlR K D σ (.slice (some ⟨b, off, none⟩) n (n + K.n)) (xs.take n) := by
  have hb := h.bnd
  have hbn : (xs.take n).length * K.bs ≤ maxN := Nat.le_trans (Nat.mul_le_mul_right _ (by simp; omega)) hb
  have hlen : (xs.take n).length = n := by simp; omega
  generalize hv : Value.slice (some ⟨b, off, none⟩) xs.length c = v at h
  cases h with
  | nil => simp at hv
  | emp b' off' c' hc =>
    have : n = 0 := by simpa using hn
    subst this
    simpa using SlR.emp (K := K) (D := D) (σ := σ) b off K.n (.inr rfl)
  | row b' off' c' cs e m hn' hc hD hb hl h =>
    simp only [Value.slice.injEq, Option.some.injEq, Addr.mk.injEq] at hv
    obtain ⟨⟨rfl, rfl, _⟩, _, rfl⟩ := hv
    have hm : n * K.n ≤ xs.length * K.n := Nat.mul_le_mul_right _ hn
    have := SlR.row (K := K) (D := D) (σ := σ) (xs := xs.take n) b off (n + K.n) cs e m hbn (.inr (by rw [hlen])) hD hb (by rw [hlen]; omega) (fun i x hx => h i x (by
      rcases Nat.lt_or_ge i n with hi | hi
      · rwa [List.getElem?_take_of_lt hi] at hx
      · rw [List.getElem?_eq_none (by simp; omega)] at hx; simp at hx))
    rw [hlen] at this
    exact this

theorem SlR.drop {D σ b off c n j} {xs : List α} (h : SlR K D σ (.slice (some ⟨b, off, none⟩) xs.length c) xs) (hK : K.n = j) (hn : n ≤ xs.length) :
    SlR K D σ (.slice (some ⟨b, off + n * j, none⟩) (xs.length - n) (xs.length - n + j)) (xs.drop n) := by
  subst hK
  have hb := h.bnd
  have hbn : (xs.drop n).length * K.bs ≤ maxN := Nat.le_trans (Nat.mul_le_mul_right _ (by simp)) hb
  have hlen : (xs.drop n).length = xs.length - n := by simp
  generalize hv : Value.slice (some ⟨b, off, none⟩) xs.length c = v at h
  cases h with
  | nil => simp at hv
  | emp b' off' c' hc =>
    have : n = 0 := by simpa using hn
    subst this
    simpa using SlR.emp (K := K) (D := D) (σ := σ) b off K.n (.inr rfl)
  | row b' off' c' cs e m hn' hc hD hb hl h =>
    simp only [Value.slice.injEq, Option.some.injEq, Addr.mk.injEq] at hv
    obtain ⟨⟨rfl, rfl, _⟩, _, rfl⟩ := hv
    have hm : n * K.n + (xs.length - n) * K.n = xs.length * K.n := by rw [← Nat.add_mul]; congr 1; omega
    have := SlR.row (K := K) (D := D) (σ := σ) (xs := xs.drop n) b (off + n * K.n) (xs.length - n + K.n) cs e m hbn (.inr (by rw [hlen])) hD hb (by rw [hlen]; omega) (fun i x hx => by
      rw [List.getElem?_drop] at hx
      have := h (n + i) x hx
      rw [List.drop_drop] at this ⊢
      rwa [Nat.add_mul, ← Nat.add_assoc] at this)
    rw [hlen] at this
    exact this

theorem Kd.list_len {D σ cs} {xs : List α} (hK : 0 < K.n) (h : K.list D σ cs xs) : xs.length * K.n ≤ cs.length := by
  rcases Nat.eq_zero_or_pos xs.length with h0 | h0
  · simp [h0]
  · have h1 := K.len (h (xs.length - 1) xs[xs.length - 1] (by simp))
    simp only [List.length_take, List.length_drop] at h1
    have : xs.length * K.n = (xs.length - 1) * K.n + K.n := by rw [← Nat.succ_mul]; congr 1; omega
    omega

theorem Kd.list_append {D σ} {cs ds : List Value} {xs ys : List α} (hl : cs.length = xs.length * K.n) (h : K.list D σ cs xs) (h' : K.list D σ ds ys) : K.list D σ (cs ++ ds) (xs ++ ys) := by
  intro i x hx
  rcases Nat.lt_or_ge i xs.length with hi | hi
  · rw [List.getElem?_append_left hi] at hx
    have h1 := h i x hx
    have : (i + 1) * K.n ≤ xs.length * K.n := Nat.mul_le_mul_right _ hi
    rw [Nat.add_mul] at this
    rw [List.drop_append_of_le_length (by omega), List.take_append_of_le_length (by simp; omega)]
    exact h1
  · rw [List.getElem?_append_right hi] at hx
    have h1 := h' _ x hx
    have e : i * K.n = cs.length + (i - xs.length) * K.n := by rw [hl, ← Nat.add_mul]; congr 1; omega
    rw [e, List.drop_length_add_append]
    exact h1

theorem Kd.list_one {D σ} {cs : List Value} {x : α} (h : K.rel D σ cs x) : K.list D σ cs [x] := by
  intro i y hy
  cases i with
  | zero =>
    simp at hy
    subst hy
    simpa [← K.len h] using h
  | succ i => simp at hy

theorem Kd.list_all {D σ} : ∀ {xs : List α} {cs : List Value}, cs.length = xs.length * K.n → K.list D σ cs xs → cs.all oneCell = true
  | [], cs, hl, _ => by
    have : cs = [] := by simpa using hl
    simp [this]
  | x :: xs, cs, hl, h => by
    have h0 : (cs.take K.n).all oneCell = true := by simpa using K.one (h 0 x rfl)
    have h1 := Kd.list_all (xs := xs) (cs := cs.drop K.n) (by simp [hl, Nat.add_mul]) fun i y hy => by
      have := h (i + 1) y (by simpa using hy)
      rw [Nat.add_mul, Nat.one_mul, Nat.add_comm] at this
      rw [List.drop_drop]
      exact this
    rw [← List.take_append_drop K.n cs, List.all_append, h0, h1]
    rfl

theorem SlR.none_nil {D σ n c} {xs : List α} (h : SlR K D σ (.slice none n c) xs) : xs = [] ∧ n = 0 ∧ c = 0 := by
  generalize hv : Value.slice none n c = v at h
  cases h <;> simp_all

theorem Own.newEmpty {D : List Nat} {σ : AHeap} {e : Nat} (he : K.n = e) (hD : ∀ b ∈ D, b < σ.size) : Own K D (σ.push (.row [] e .W)) [σ.size] (.slice (some ⟨σ.size, 0, none⟩) 0 e) [] := by
  subst he
  have := Own.row (K := K) (D := D) (σ := σ.push (.row [] K.n .W)) (xs := []) σ.size [] (by simp) (fun h => by have := hD _ h; omega) (by simp) (by simp) (fun i y hy => by simp at hy)
  simpa using this

theorem Own.newRow {D : List Nat} {σ : AHeap} {e c : Nat} {cells : List Value} {xs : List α} (he : K.n = e) (hD : ∀ b ∈ D, b < σ.size) (hc : c = xs.length + e) (hn : xs.length * K.bs ≤ maxN) (hl : cells.length = xs.length * K.n)
    (h : K.list D σ cells xs) : Own K D (σ.push (.row cells e .W)) [σ.size] (.slice (some ⟨σ.size, 0, none⟩) xs.length c) xs := by
  subst he hc
  exact Own.row σ.size cells hn (fun h => by have := hD _ h; omega) (by simp) hl (Kd.list_step h (Mv.new D σ _))

theorem Own.lt {D σ N v} {xs : List α} (h : Own K D σ N v xs) : ∀ b ∈ N, b < σ.size := by
  cases h with
  | nil => simp
  | emp => simp
  | row b cs hn hD hb hl h =>
    intro j hj
    simp only [List.mem_singleton] at hj
    subst hj
    exact lt_of_get hb

theorem Own.out {D σ N v} {xs : List α} (h : Own K D σ N v xs) : ∀ b ∈ N, b ∉ D := by
  cases h with
  | nil => simp
  | emp => simp
  | row b cs hn hD hb hl h =>
    intro j hj
    simp only [List.mem_singleton] at hj
    subst hj
    exact hD

theorem lt_app {a n : Nat} {l m : List Nat} (h : ∀ b ∈ l, b < a) (k : ∀ b ∈ m, b < n) (hn : n ≤ a) : ∀ b ∈ l ++ m, b < a := by
  intro b hb
  rcases List.mem_append.1 hb with hb | hb
  · exact h b hb
  · exact Nat.lt_of_lt_of_le (k b hb) hn

theorem Mv.any {σ N σ'} (E : List Nat) (h : Mv [] σ N σ') : Mv E σ E σ' := h.mono (by simp) fun _ hb => .inr hb

/-- A slice as what is appended. -/
theorem SlR.src {D σ v} {xs : List α} {f : AFr} {x : Operand} {e : Nat} (h : SlR K D σ v xs) (hx : f.ev x = some (.v v)) (he : K.n = e) :
    ∃ new, srcOf f σ e x = some (new, xs.length) ∧ new.length = xs.length * e ∧ K.list D σ new xs := by
  subst he
  cases h with
  | nil => exact ⟨[], by simp [srcOf, hx], by simp, fun i y hy => by simp at hy⟩
  | emp b off c hc => exact ⟨[], by simp [srcOf, hx], by simp, fun i y hy => by simp at hy⟩
  | row b off c cs e m hn hc hD hb hl h =>
    by_cases h0 : xs = []
    · subst h0
      exact ⟨[], by simp [srcOf, hx], by simp, fun i y hy => by simp at hy⟩
    · refine ⟨(cs.drop off).take (xs.length * K.n), ?_, by simp; omega, fun i y hy => ?_⟩
      · obtain ⟨n, hn'⟩ : ∃ n, xs.length = n + 1 := ⟨xs.length - 1, by have := List.length_pos_iff.2 h0; omega⟩
        rw [hn'] at hx hl ⊢
        simp only [srcOf, hx, hb, hl, if_true]
      · have h1 := h i y hy
        have hi : i < xs.length := by
          rcases Nat.lt_or_ge i xs.length with h' | h'
          · exact h'
          · simp [List.getElem?_eq_none h'] at hy
        have : (i + 1) * K.n ≤ xs.length * K.n := Nat.mul_le_mul_right _ hi
        rw [Nat.add_mul] at this
        rw [List.drop_take, List.take_take, Nat.min_eq_left (by omega)]
        exact h1

section app
variable {A : AProg} {d : Option Nat} {l : List SI} {acc : List Lab} {ps : List (Nat × Nat)} {k : List KI} {R : Post} {f : AFr} {σ : AHeap}

theorem stepOp_app_row {e by_ b o n c m : Nat} {keep : Bool} {s x : Operand} {new : List Value} (hs : f.evV s = some (.slice (some ⟨b, o, none⟩) n (c + 1))) (hx : srcOf f σ e x = some (new, m)) :
    stepOp d f σ (.app e by_ keep s x) = if m = 0 then some (.v (.slice (some ⟨b, o, none⟩) n (c + 1)), none, σ, .hw) else
      match σ[b]? with
      | some (.row cs e' md) =>
        if o + n * e ≤ cs.length ∧ (n + m) * by_ ≤ 140737488355328 then
          if c + 1 = n then some (.v (.slice (some ⟨σ.size, 0, none⟩) (n + m) (n + m + e)), none, σ.push (.row ((cs.drop o).take (n * e) ++ new) e .W), .hw)
          else if c + 1 = n + e ∧ md ≠ .R ∧ o + n * e = cs.length then
            some (.v (.slice (some ⟨σ.size, 0, none⟩) (n + m) (n + m + e)), none,
              (σ.setIfInBounds b (if keep then .row cs e' .R else .dead)).push (.row ((cs.drop o).take (n * e) ++ new) e (if keep then .T else md)), .hw)
          else none
        else none
      | _ => none := by
  simp only [stepOp, hx, hs, Option.bind_some]
  cases n <;> rfl

/-- Appending to a list of one's own. -/
theorem Sr_app {D N v by_ e s x} {xs ys : List α} {new : List Value} (hs : f.evV s = some v) (ho : Own K D σ N v xs) (he : K.n = e) (h0 : 0 < e) (hx : srcOf f σ e x = some (new, ys.length))
    (hl : new.length = ys.length * e) (hy : K.list (N ++ D) σ new ys) (hbs : K.bs = by_) (hb : (xs.length + ys.length) * by_ ≤ maxN)
    (hk : ∀ v' N' σ', Own K D σ' N' v' (xs ++ ys) → Mv N σ N' σ' → So A l (.hw :: acc) ps k R (f.put d (.v v')) σ') (hD : ∀ b ∈ D, b < σ.size) :
    Sr A (stepOp d f σ (.app e by_ false s x)) d l acc ps k R f := by
  subst he
  have hb0 : 0 < by_ := hbs ▸ K.pos
  have hle0 := hb
  rw [← hbs] at hle0
  unfold maxN at hb
  have fresh : ∀ {md : AMode}, xs = [] → N = [] → ys.length ≠ 0 → So A l (.hw :: acc) ps k R (f.put d (.v (.slice (some ⟨σ.size, 0, none⟩) ys.length (ys.length + K.n)))) (σ.push (.row new K.n .W)) := by
    intro _ h1 h2 h3
    subst h1 h2
    refine hk _ [σ.size] _ (.row (xs := ys) σ.size new (by simpa using hle0) (fun h => by have := hD _ h; omega) (by simp) hl (Kd.list_step hy ?_)) ?_
    · exact ⟨by simp, (Mv.push [] σ _).keep' , fun b hb h => by
        simp only [List.mem_cons] at h
        rcases h with h | h
        · omega
        · simpa using h⟩
    · exact ⟨by simp, (Mv.push [] σ _).keep, fun b hb h => by simp at h; omega⟩
  cases ho with
  | nil =>
    simp only [stepOp, hx, Option.bind_some, hs, Sr]
    by_cases hm : ys.length = 0
    · have : ys = [] := by simpa using hm
      subst this
      simpa [AFr.setb] using hk _ [] σ .nil (Mv.refl _ _)
    · have h2 : ys.length * by_ ≤ 140737488355328 := by simpa using hb
      simp only [hm, if_false, h2, if_true, AFr.setb]
      exact fresh (md := .W) rfl rfl hm
  | emp b off =>
    simp only [stepOp, hx, Option.bind_some, hs, Sr]
    by_cases hm : ys.length = 0
    · have : ys = [] := by simpa using hm
      subst this
      simpa [AFr.setb] using hk _ [] σ (.emp b off) (Mv.refl _ _)
    · have h2 : ys.length * by_ ≤ 140737488355328 := by simpa using hb
      simp only [hm, if_false, h2, if_true, AFr.setb]
      exact fresh (md := .W) rfl rfl hm
  | row b cs hn hD' hb' hl' h =>
    have hlt := lt_of_get hb'
    obtain ⟨c, hc⟩ : ∃ c, xs.length + K.n = c + 1 := ⟨xs.length + K.n - 1, by omega⟩
    rw [hc] at hs
    unfold Sr
    rw [stepOp_app_row hs hx]
    by_cases hm : ys.length = 0
    · have : ys = [] := by simpa using hm
      subst this
      have := hk _ [b] σ (by simpa using Own.row b cs hn hD' hb' hl' h) (Mv.refl _ _)
      simpa [AFr.setb, ← hc] using this
    · have key := hk (.slice (some ⟨σ.size, 0, none⟩) (xs.length + ys.length) (xs.length + ys.length + K.n)) [σ.size] ((σ.setIfInBounds b .dead).push (.row (cs ++ new) K.n .W)) (by
        have hmv : Mv (b :: D) σ (σ.size :: D) ((σ.setIfInBounds b .dead).push (.row (cs ++ new) K.n .W)) := by
          refine ⟨by simp, fun j hj hjD => ?_, fun j hj hjD => ?_⟩
          · simp only [List.mem_cons, not_or] at hjD
            rw [Array.getElem?_push]
            split
            · rename_i e; simp at e; omega
            · rw [Array.getElem?_setIfInBounds_ne (Ne.symm hjD.1)]
          · simp only [List.mem_cons] at hjD ⊢
            rcases hjD with h | h
            · omega
            · exact .inr h
        have := Own.row (K := K) (D := D) (σ := (σ.setIfInBounds b .dead).push (.row (cs ++ new) K.n .W)) (xs := xs ++ ys) σ.size (cs ++ new) (by simpa using hle0) (fun h => by have := hD _ h; omega) (by rw [Array.getElem?_push]; simp) (by simp [hl, hl', Nat.add_mul])
          (Kd.list_step (Kd.list_append hl' h hy) hmv)
        simpa using this) ⟨by simp, fun j hj hjD => by
          simp only [List.mem_singleton] at hjD
          rw [Array.getElem?_push]
          split
          · rename_i e; simp at e; omega
          · rw [Array.getElem?_setIfInBounds_ne (Ne.symm hjD)], fun j hj hjD => by simp at hjD; omega⟩
      have ht : (cs.drop 0).take (xs.length * K.n) = cs := by rw [← hl']; simp
      have h1 : 0 + xs.length * K.n ≤ cs.length := by omega
      have h3 : 0 + xs.length * K.n = cs.length := by omega
      have hcn : ¬ (xs.length + K.n = xs.length) := by omega
      simp only [hm, if_false, hb', hb, and_self, if_true, ← hc, hcn, ne_eq, reduceCtorEq, not_false_eq_true, h3, ht, Bool.false_eq_true, AFr.setb, Nat.le_refl]
      exact key
/-- A list of one's own, up to a place, and from a place on. -/
theorem Sr_hi {D N v e h kd o x} {xs : List α} (ho : Own K D σ N v xs) (he : K.n = e) (h0 : 0 < e) (hx : f.evV x = some v) (hh : f.evV o = some (.int kd (h : Nat))) (hle : h ≤ xs.length)
    (hk : ∀ v', SlR K D σ v' (xs.take h) → So A l (.p :: acc) ps k R (f.put d (.v v')) σ) : Sr A (stepOp d f σ (.slc e x none (some o) none)) d l acc ps k R f := by
  subst he
  have hs := ho.sl
  have h1 : (0 : Int) ≤ (h : Int) := by omega
  cases ho with
  | nil =>
    have : h = 0 := by simpa using hle
    subst this
    simp [stepOp, hx, hh, bnd, intOf?, Sr, AFr.setb]
    exact hk _ .nil
  | emp b off =>
    have : h = 0 := by simpa using hle
    subst this
    have h2 : ¬ (0 = K.n) := by omega
    simp [stepOp, hx, hh, bnd, intOf?, Sr, AFr.setb, h2]
    exact hk _ (.emp b off 0 (.inl rfl))
  | row b cs hn hD hb hl hc =>
    have h2 : (h : Int) ≤ (xs.length : Int) := by omega
    simp [stepOp, hx, hh, bnd, intOf?, Sr, AFr.setb, hle]
    exact hk _ (hs.take hle)

theorem Sr_lo {D N v e h kd o x} {xs : List α} (ho : Own K D σ N v xs) (he : K.n = e) (h0 : 0 < e) (hx : f.evV x = some v) (hh : f.evV o = some (.int kd (h : Nat))) (hle : h ≤ xs.length)
    (hk : ∀ v', SlR K D σ v' (xs.drop h) → So A l (.p :: acc) ps k R (f.put d (.v v')) σ) : Sr A (stepOp d f σ (.slc e x (some o) none none)) d l acc ps k R f := by
  subst he
  have hs := ho.sl
  have h1 : (0 : Int) ≤ (h : Int) := by omega
  cases ho with
  | nil =>
    have : h = 0 := by simpa using hle
    subst this
    simp [stepOp, hx, hh, bnd, intOf?, Sr, AFr.setb]
    exact hk _ .nil
  | emp b off =>
    have : h = 0 := by simpa using hle
    subst this
    have h2 : ¬ (0 = K.n) := by omega
    simp [stepOp, hx, hh, bnd, intOf?, Sr, AFr.setb, h2]
    exact hk _ (.emp b _ 0 (.inl rfl))
  | row b cs hn hD hb hl hc =>
    have h2 : (h : Int) ≤ (xs.length : Int) := by omega
    simp [stepOp, hx, hh, bnd, intOf?, Sr, AFr.setb, hle]
    have := hs.drop rfl hle
    rw [Nat.zero_add] at this
    exact hk _ this
end app

/-- A list of one's own may be handed out as a slice, and what it was built from moved along. -/
theorem Own.of_fresh {D σ D' σ' N v} {xs : List α} (h : Own K D σ N v xs) (hm : Mv (N ++ D) σ D' σ') (hN : ∀ b ∈ N, b ∉ D' ∧ σ'[b]? = σ[b]?) : SlR K D' σ' v xs := by
  cases h with
  | nil => exact .nil
  | emp b off => exact .emp b off 0 (.inl rfl)
  | row b cs hn hD hb hl h =>
    have := hN b (by simp)
    exact .row b 0 _ cs _ _ hn (.inr rfl) this.1 (this.2.trans hb) (by omega) (Kd.list_step h hm)
end

/-- Slices as data. -/
def slK {α : Type} (K : Kd α) : Kd (List α) where
  n := 1
  bs := 24
  pos := by decide
  rel D σ cs xs := ∃ v, cs = [v] ∧ SlR K D σ v xs
  len := by rintro _ _ _ _ ⟨v, rfl, _⟩; rfl
  one := by
    rintro _ _ _ _ ⟨v, rfl, h⟩
    obtain ⟨_, _, rfl⟩ := h.shape
    rfl
  step := by rintro _ _ _ _ _ _ ⟨v, rfl, h⟩ hm; exact ⟨v, rfl, h.step hm⟩

section
variable {A : AProg}

/-- A loop by a measure and an invariant. -/
theorem Lp_ind {b : SC} {k : List KI} {R : Post} {X : Type} (mu : X → Nat) (I : X → AFr → AHeap → Prop)
    (h : ∀ x f σ, I x f σ → (∀ x' f' σ', mu x' < mu x → I x' f' σ' → Lp A b k R f' σ') → St A b (.lp b :: k) R f σ) : ∀ x f σ, I x f σ → Lp A b k R f σ := by
  intro x
  induction hm : mu x using Nat.strongRecOn generalizing x with
  | ind n ih =>
    intro f σ hI
    exact Lp_round (h x f σ hI fun x' f' σ' hlt hI' => ih (mu x') (by omega) x' rfl f' σ' hI')

end

section
variable {A : AProg} {d : Option Nat} {l : List SI} {acc : List Lab} {ps : List (Nat × Nat)} {k : List KI} {R : Post} {f : AFr} {σ : AHeap}
theorem Sr_some {v bs σ1 lab} : Sr A (some (v, bs, σ1, lab)) d l acc ps k R f = So A l (lab :: acc) ps k R ((f.setb bs).put d v) σ1 := rfl
theorem Sc_some {g vals σ1} : Sc A (some (g, vals, σ1)) d l acc ps k R f = Cc A g vals σ1 d l acc ps k R f := rfl
theorem Sb_some {v op ty x y} : Sb A (some v) op ty x y d l acc ps k R f σ = So A l (.p :: acc) ps k R (f.put d (.v v)) σ := rfl
theorem Sb_none {op ty x y} : Sb A none op ty (some x) (some y) d l acc ps k R f σ = Be A op ty x y d l acc ps k R f σ := rfl
theorem Sg_true {op} : Sg A (some true) op d l acc ps k R f σ = Sq A op d l acc ps k R f σ := rfl
theorem Sg_false {op} : Sg A (some false) op d l acc ps k R f σ = So A l (.p :: acc) ps k R (f.put d (.v undef)) σ := rfl
end

theorem cut_zero (a : Value) (l : List Value) : cut none (a :: l) 0 = some a := rfl
theorem cut_succ (a : Value) (l : List Value) (n : Nat) : cut none (a :: l) (n + 1) = cut none l n := by simp [cut]
theorem cut_some (a : Value) (l : List Value) (n off : Nat) : cut (some n) (a :: l) off = if off + n ≤ (a :: l).length then some (.agg (((a :: l).drop off).take n).toArray) else none := rfl

theorem wrap_up {i : Nat} (h : i ≤ 1000000000000000) : IntKind.i64.wrap ((i : Int) + 1) = ((i + 1 : Nat) : Int) := by
  rw [IntKind.wrap_i64]
  omega

theorem wrap_in {n : Int} (h : -9223372036854775808 ≤ n) (h' : n ≤ 9223372036854775807) : IntKind.i64.wrap n = n := by
  rw [IntKind.wrap_i64]
  omega

theorem wrap_u {n : Nat} (h : n ≤ 1000000000000000) : IntKind.u64.wrap (n : Int) = (n : Int) := by
  simp only [IntKind.wrap, IntKind.bits, IntKind.signed]
  simp
  omega

theorem wrap_n {n : Nat} (h : n ≤ 1000000000000000) : IntKind.i64.wrap (n : Int) = (n : Int) := by
  rw [IntKind.wrap_i64]
  omega

theorem int_beq (a b : Int) : (a == b) = decide (a = b) := by
  by_cases h : a = b <;> simp [h]
theorem int_bne (a b : Int) : (a != b) = !decide (a = b) := by
  by_cases h : a = b <;> simp [h]

theorem splice_lit (a : Value) (l : List Value) (o : Nat) (vs : List Value) : splice (a :: l) o vs = (a :: l).take o ++ vs ++ (a :: l).drop (o + vs.length) := rfl

theorem spl_length {cs : List Value} {o : Nat} {vs : List Value} (h : o + vs.length ≤ cs.length) : (splice cs o vs).length = cs.length := by
  simp [splice]
  omega

theorem spl_get {cs : List Value} {o : Nat} {vs : List Value} (h : o + vs.length ≤ cs.length) (t : Nat) :
    (splice cs o vs)[t]? = if t < o then cs[t]? else if t < o + vs.length then vs[t - o]? else cs[t]? := by
  unfold splice
  have h1 : (cs.take o).length = o := by simp; omega
  by_cases a : t < o
  · rw [if_pos a, List.append_assoc, List.getElem?_append_left (by omega), List.getElem?_take_of_lt a]
  · rw [if_neg a]
    by_cases b : t < o + vs.length
    · rw [if_pos b, List.getElem?_append_left (by simp; omega), List.getElem?_append_right (by omega), h1]
    · rw [if_neg b, List.getElem?_append_right (by simp; omega), List.getElem?_drop]
      congr 1
      simp
      omega

/-- A part of an element is written. -/
theorem Own.setPart {α : Type} {K : Kd α} {D σ N base n c j} {xs : List α} {i : Nat} {x : α} (h : Own K D σ N (.slice base n c) xs) (hK : K.n = j) (hx : xs[i]? = some x) :
    ∃ b cs, base = some ⟨b, 0, none⟩ ∧ N = [b] ∧ σ[b]? = some (.row cs j .W) ∧ i * j + j ≤ cs.length ∧ K.rel (N ++ D) σ ((cs.drop (i * j)).take j) x ∧
      ∀ k vs x', k + vs.length ≤ j → K.rel (N ++ D) σ (splice ((cs.drop (i * j)).take j) k vs) x' → Own K D (σ.setIfInBounds b (.row (splice cs (i * j + k) vs) j .W)) N (.slice base n c) (xs.set i x') := by
  subst hK
  have hi : i < xs.length := by
    rcases Nat.lt_or_ge i xs.length with h' | h'
    · exact h'
    · simp [List.getElem?_eq_none h'] at hx
  cases h with
  | nil => simp at hi
  | emp => simp at hi
  | row b cs hn hD hb hl h =>
    have hm : (i + 1) * K.n ≤ xs.length * K.n := Nat.mul_le_mul_right _ hi
    rw [Nat.add_mul] at hm
    have hlt := lt_of_get hb
    refine ⟨b, cs, rfl, rfl, hb, by omega, h i x hx, fun k vs x' hk hr => ?_⟩
    have hsp : i * K.n + k + vs.length ≤ cs.length := by omega
    have := Own.row (K := K) (D := D) (σ := σ.setIfInBounds b (.row (splice cs (i * K.n + k) vs) K.n .W)) (xs := xs.set i x') b (splice cs (i * K.n + k) vs) (by simpa using hn) hD
      (Array.getElem?_setIfInBounds_self_of_lt hlt) (by rw [spl_length hsp]; simpa using hl) (fun t y hy => ?_)
    · simpa using this
    · refine K.step (D := b :: D) (σ := σ) ?_ (Mv.set _ (by simp))
      by_cases e : t = i
      · subst e
        rw [List.getElem?_set_self hi] at hy
        injection hy with hy
        subst hy
        have he : ((splice cs (t * K.n + k) vs).drop (t * K.n)).take K.n = splice ((cs.drop (t * K.n)).take K.n) k vs := by
          have hl2 : ((cs.drop (t * K.n)).take K.n).length = K.n := by simp; omega
          apply List.ext_getElem?
          intro q
          by_cases hq : q < K.n
          · rw [List.getElem?_take_of_lt hq, List.getElem?_drop, spl_get hsp, spl_get (by omega)]
            by_cases q1 : q < k
            · rw [if_pos (by omega), if_pos q1, List.getElem?_take_of_lt hq, List.getElem?_drop]
            · rw [if_neg (by omega), if_neg q1]
              by_cases q2 : q < k + vs.length
              · rw [if_pos (by omega), if_pos q2]
                congr 1
                omega
              · rw [if_neg (by omega), if_neg q2, List.getElem?_take_of_lt hq, List.getElem?_drop]
          · rw [List.getElem?_eq_none (by simp; omega), List.getElem?_eq_none (by rw [spl_length (by omega)]; omega)]
        rw [he]
        exact hr
      · rw [List.getElem?_set_ne (fun h => e h.symm)] at hy
        have h1 := h t y hy
        have ht : t < xs.length := by
          rcases Nat.lt_or_ge t xs.length with h' | h'
          · exact h'
          · simp [List.getElem?_eq_none h'] at hy
        have he : ((splice cs (i * K.n + k) vs).drop (t * K.n)).take K.n = (cs.drop (t * K.n)).take K.n := by
          apply List.ext_getElem?
          intro q
          by_cases hq : q < K.n
          · rw [List.getElem?_take_of_lt hq, List.getElem?_drop, List.getElem?_take_of_lt hq, List.getElem?_drop, spl_get hsp]
            rcases Nat.lt_or_gt_of_ne e with h2 | h2
            · have : (t + 1) * K.n ≤ i * K.n := Nat.mul_le_mul_right _ h2
              rw [Nat.add_mul] at this
              rw [if_pos (by omega)]
            · have : (i + 1) * K.n ≤ t * K.n := Nat.mul_le_mul_right _ h2
              rw [Nat.add_mul] at this
              rw [if_neg (by omega), if_neg (by omega)]
          · rw [List.getElem?_eq_none (by simp; omega), List.getElem?_eq_none (by simp; omega)]
        rw [he]
        exact h1

theorem pairsOk_nil (l : List Lab) : pairsOk [] l = true := rfl

section
variable (A : AProg)
/-- A test whose value is seen. -/
def Cx (o : Option Value) (a b : SC) (k : List KI) (R : Post) (f : AFr) (σ : AHeap) : Prop :=
  match o with
  | some (.bool t) => Cd A t a b k R f σ
  | _ => False

/-- What is kept. -/
def Kx (o : Option AFr) (k : List KI) (R : Post) (σ : AHeap) : Prop :=
  match o with
  | some f => Un A k R .nrm f σ
  | none => False
end

theorem Cx_some {A : AProg} {t : Bool} {a b : SC} {k : List KI} {R : Post} {f : AFr} {σ : AHeap} : Cx A (some (.bool t)) a b k R f σ = Cd A t a b k R f σ := rfl
theorem Kx_some {A : AProg} {f : AFr} {k : List KI} {R : Post} {σ : AHeap} : Kx A (some f) k R σ = Un A k R .nrm f σ := rfl

theorem St_cx {A : AProg} {c : Operand} {a b : SC} {k : List KI} {R : Post} {f : AFr} {σ : AHeap} : St A (.cond c a b) k R f σ = Cx A (f.evV c) a b k R f σ := by
  unfold Cx
  split
  · rename_i t h; exact St_cond h
  · rename_i h
    refine propext ⟨?_, False.elim⟩
    rintro ⟨x, f', σ', h', hk⟩
    cases h' with
    | cond hc _ => exact h _ hc

theorem St_keepx {A : AProg} {ts bs : List Nat} {k : List KI} {R : Post} {f : AFr} {σ : AHeap} : St A (.keep ts bs) k R f σ = Kx A (f.keep ts bs) k R σ := by
  unfold Kx
  split
  · rename_i f' h; exact St_keep h
  · rename_i h
    refine propext ⟨?_, False.elim⟩
    rintro ⟨x, f', σ', h', hk⟩
    cases h' with
    | keep hc => rw [h] at hc; simp at hc

theorem bytes_eq (a b : ByteArray) : (a.toList == b.toList) = decide (a = b) := by
  by_cases h : a = b
  · subst h; simp
  · have : a.toList ≠ b.toList := fun e => h (by
      rw [ByteArray.toList_eq, ByteArray.toList_eq] at e
      exact ByteArray.ext (Array.toList_inj.1 e))
    simp [h, this]

theorem lookup_same {α : Type} (k : Nat) (v : α) (l : List (Nat × α)) : List.lookup k ((k, v) :: l) = some v := by simp [List.lookup]
theorem lookup_diff {α : Type} {j k : Nat} (h : (j == k) = false) (v : α) (l : List (Nat × α)) : List.lookup j ((k, v) :: l) = List.lookup j l := by simp [List.lookup, h]

end Go.Am

namespace Go.Am
set_option linter.defProp false in
def sxd := And.intro @List.zipIdx_cons <| And.intro @List.zipIdx_nil <| And.intro @List.map_cons <| And.intro @List.map_nil <| And.intro @St_seq <| And.intro @St_reg <| And.intro @St_dreg <| And.intro @St_block <| And.intro @St_loop <| And.intro @St_keepx <| And.intro @Kx_some <| And.intro @St_skip <| And.intro @St_exit <| And.intro @St_ret <| And.intro @St_cx <| And.intro @Cx_some <| And.intro @So_cons <| And.intro @So_nil <| And.intro @pairsOk_nil <| And.intro @So_guard <| And.intro @Sr_some <| And.intro @Sc_some <| And.intro @Sb_some <| And.intro @Sb_none <| And.intro @Sg_true <| And.intro @Sg_false <| And.intro @lookup_same <| And.intro @lookup_diff <| And.intro @List.lookup_nil <| And.intro @Un_nrm_nil <| And.intro @Un_ret_nil <| And.intro @Un_nrm_seq <| And.intro @Un_nrm_blk <| And.intro @Un_nrm_lp <| And.intro @Un_ex_seq <| And.intro @Un_ex_lp <| And.intro @Un_ex_blk <| And.intro @Un_ret <| And.intro @Option.bind_some <| And.intro @Option.map_some <| And.intro @Nat.zero_add <| And.intro @Nat.add_zero <| And.intro @stepOp.eq_1 <| And.intro @stepOp.eq_2 <| And.intro @stepOp.eq_3 <| And.intro @stepOp.eq_5 <| And.intro @stepOp.eq_6 <| And.intro @stepOp.eq_7 <| And.intro @stepOp.eq_8 <| And.intro @stepOp.eq_9 <| And.intro @stepOp.eq_10 <| And.intro @stepOp.eq_11 <| And.intro @stepOp.eq_12 <| And.intro @stepOp.eq_13 <| And.intro @stepOp.eq_14 <| And.intro @stepOp.eq_15 <| And.intro @stepOp.eq_16 <| And.intro @stepOp.eq_17 <| And.intro @stepOp.eq_18 <| And.intro @stepOp.eq_19 <| And.intro @stepOp.eq_21 <| And.intro @stepOp.eq_22 <| And.intro @stepOp.eq_23 <| And.intro @stepOp.eq_24 <| And.intro @stepOp.eq_25 <| And.intro @stepOp.eq_26 <| And.intro @stepOp.eq_27 <| And.intro @stepOp.eq_28 <| And.intro @stepOp.eq_29 <| And.intro @stepOp.eq_30 <| And.intro @stepOp.eq_33 <| And.intro @Option.isNone_none <| And.intro @Option.isNone_some <| And.intro @List.all_cons <| And.intro @List.all_nil <| And.intro @Bool.and_true <| And.intro @Bool.true_and <| And.intro @and_self <| And.intro @and_true <| And.intro @true_and <| And.intro @if_true <| And.intro @if_false <| And.intro @ite_true <| And.intro @ite_false <| And.intro @splice_lit <| And.intro @List.take_zero <| And.intro @List.take_succ_cons <| And.intro @List.take_nil <| And.intro @List.drop_zero <| And.intro @List.drop_succ_cons <| And.intro @List.drop_nil <| And.intro @List.nil_append <| And.intro @List.append_nil <| And.intro @List.cons_append <| And.intro @List.append_assoc <| And.intro @List.length_cons <| And.intro @List.length_nil <| And.intro @List.toList_toArray <| And.intro @List.size_toArray <| And.intro @Int.toNat_natCast <| And.intro @Cd_true <| And.intro @Cd_false <| And.intro @false_or <| And.intro @or_false <| And.intro @true_or <| And.intro @or_true <| And.intro @ne_eq <| And.intro @not_true_eq_false <| And.intro @not_false_eq_true <| And.intro @beq_self_eq_true <| And.intro @List.filterMap_cons <| And.intro @List.filterMap_nil <| And.intro @Option.isSome_some <| And.intro @exists_eq_left' <| And.intro @exists_eq_left <| And.intro @Option.some.injEq <| And.intro @Int.natCast_nonneg <| And.intro @Int.ofNat_lt <| And.intro @bytes_eq <| And.intro @cut_zero <| And.intro @cut_succ <| And.intro @cut_some <| And.intro @decide_true <| And.intro @decide_false <| And.intro @beq_true <| And.intro @beq_false <| And.intro @Bool.not_true <| And.intro @Bool.not_false <| And.intro @Bool.false_eq_true <| And.intro @Int.toNat_zero <| And.intro @Nat.zero_mul <| And.intro @Int.le_refl <| And.intro @List.getElem?_toArray <| And.intro @List.getElem?_cons_zero <| And.intro @List.getElem?_cons_succ <| And.intro @int_beq <| And.intro @int_bne <| @Nat.sub_zero
/-- What a proof proves. -/
abbrev typ {p : Prop} (_ : p) : Prop := p

theorem sx : typ sxd.{0, 0, 0, 0, 0, 0, 0, 0, 1, 1, 1, 0, 1, 0, 0, 0, 0, 0, 0, 0, 0, 0, 0, 0, 0, 0, 0, 0, 1, 0, 0, 0, 0, 0, 0, 0, 1, 1, 0, 0, 0, 0, 0, 0, 0, 0, 0} := sxd
end Go.Am

namespace Go.Am

/-- What comes of it: the old row written anew, or a new one. -/
def Xr (σ : AHeap) (b e : Nat) (new : List Value) (m : Nat) (r : Value) (σ' : AHeap) : Prop :=
  ∃ b' extra sp c, r = .slice (some ⟨b', 0, sp⟩) m c ∧ (sp = some e ∨ sp = none ∧ c = m + e) ∧ (b' = b ∨ b' = σ.size) ∧ σ'[b']? = some (.row (new ++ extra) e .W) ∧ σ.size ≤ σ'.size ∧ σ'.size ≤ σ.size + 1 ∧
    ∀ x, x < σ.size → x ≠ b → σ'[x]? = σ[x]?

theorem snd_exact {P : Program} {B : Nat} {A : AProg} (hA : ProgOk P B A) {g : Nat} (hg : calls P g = true) {σ : AHeap} {b n e m : Nat} {cs new : List Value} {rest : List Value} (hb : σ[b]? = some (.row cs e .W)) (he : 0 < e)
    (h : ∀ cap, n ≤ cap → C A g (.slice (some ⟨b, 0, some e⟩) n cap :: rest) σ (Xr σ b e new m)) :
    Snd P B g (.slice (some ⟨b, 0, none⟩) n (n + e) :: rest) σ (.slice (some ⟨σ.size + 1, 0, none⟩) m (m + e)) (((σ.setIfInBounds b .dead).push .dead).push (.row new e .W)) := by
  refine ⟨hg, fun w ι cargs hI hargs => ?_⟩
  have hlb := lt_of_get hb
  generalize hl : cargs.toList = cl at hargs
  cases hargs with
  | @cons _ v' _ l' hv hr =>
  have key : ∀ cap a, n ≤ cap → v' = .slice (some a) n cap → VR ι (.slice (some ⟨b, 0, some e⟩) n cap) v' → Calls P g cargs w fun e_1 w' => ∃ v'_1 ι', e_1 = .returned v'_1 ∧ VR ι' (.slice (some ⟨σ.size + 1, 0, none⟩) m (m + e)) v'_1 ∧
      Inv B ι' (((σ.setIfInBounds b .dead).push .dead).push (.row new e .W)) w' ∧ Bs w ι σ w' ι' (((σ.setIfInBounds b .dead).push .dead).push (.row new e .W)) := by
    intro cap a hcap hv' hvr
    refine (sound hA (h cap hcap) hI (by rw [hl]; exact .cons hvr hr)).mono ?_
    rintro e1 w1 ⟨r, σ1, v1, ι1, ⟨b', extra, sp, c, rfl, hsp, hb', hrow, hs0, hs1, hold⟩, rfl, hvr1, hI1, hB1⟩
    obtain ⟨p, hp, hpe, hpc⟩ := hI1.blk _ _ _ _ hrow
    have hM := (hI1.own _ _ _ _ _ hrow (by simp) hp).2.1
    have hss : ((σ.setIfInBounds b .dead).push .dead).size = σ.size + 1 := by simp
    have hd : ι1 (σ.size + 1) = none := hI1.dom _ hs1
    have inew : setIota ι1 (σ.size + 1) ⟨p.c, p.o, e, p.M⟩ (σ.size + 1) = some ⟨p.c, p.o, e, p.M⟩ := by simp [setIota]
    have iold : ∀ x, x ≠ σ.size + 1 → setIota ι1 (σ.size + 1) ⟨p.c, p.o, e, p.M⟩ x = ι1 x := fun x hx => by simp [setIota, hx]
    have what : ∀ x cs' e' m', (((σ.setIfInBounds b .dead).push .dead).push (.row new e .W))[x]? = some (.row cs' e' m') →
        (x = σ.size + 1 ∧ cs' = new ∧ e' = e ∧ m' = .W) ∨ (x < σ.size ∧ x ≠ b ∧ σ[x]? = some (.row cs' e' m')) := fun x cs' e' m' hx => by
      rw [push_get, hss] at hx
      by_cases h1 : x = σ.size + 1
      · rw [if_pos h1] at hx
        injection hx with hx
        injection hx with h2 h3 h4
        exact .inl ⟨h1, h2.symm, h3.symm, h4.symm⟩
      · rw [if_neg h1, push_get] at hx
        simp only [Array.size_setIfInBounds] at hx
        by_cases h2 : x = σ.size
        · rw [if_pos h2] at hx; simp at hx
        · rw [if_neg h2, set_get _ _ _ _ hlb] at hx
          by_cases h3 : x = b
          · rw [if_pos h3] at hx; simp at hx
          · rw [if_neg h3] at hx
            exact .inr ⟨lt_of_get hx, h3, hx⟩
    have hbb : b' ≠ σ.size + 1 := by rcases hb' with rfl | rfl <;> omega
    have hsub : Sub ι1 σ1 (setIota ι1 (σ.size + 1) ⟨p.c, p.o, e, p.M⟩) (((σ.setIfInBounds b .dead).push .dead).push (.row new e .W)) fun x => if x = σ.size + 1 then b' else x := by
      refine ⟨le_setIota hd _, ?_, ?_, ?_, ?_⟩
      · intro x cs' e' m' hx
        rcases what _ _ _ _ hx with ⟨rfl, rfl, rfl, rfl⟩ | ⟨h1, h2, h3⟩
        · refine ⟨cs' ++ extra, e', p, _, by simpa using hrow, by simpa using hp, inew, rfl, rfl, .inr ⟨rfl, ?_, by simp, 0, by simp, fun i v hv => ?_⟩⟩
          · simp at hM ⊢; omega
          · rw [Nat.zero_add, List.getElem?_append_left]
            · exact hv
            · rcases Nat.lt_or_ge i cs'.length with h | h
              · exact h
              · simp [List.getElem?_eq_none h] at hv
        · have h4 : x ≠ σ.size + 1 := by omega
          simp only [if_neg h4]
          have h5 := (hold x h1 h2).trans h3
          obtain ⟨p', k1, k2, _⟩ := hI1.blk _ _ _ _ h5
          exact ⟨cs', e', p', p', h5, k1, (iold x h4).trans k1, k2, rfl, .inl ⟨rfl, rfl⟩⟩
      · intro x y cs1 e1 m1 cs2 e2 m2 hx hy hk
        rcases what _ _ _ _ hx with ⟨rfl, _⟩ | ⟨h1, h2, _⟩ <;> rcases what _ _ _ _ hy with ⟨rfl, _⟩ | ⟨h3, h4, _⟩
        · rfl
        · rw [if_pos rfl, if_neg (by omega)] at hk
          rcases hb' with rfl | rfl
          · exact absurd hk.symm h4
          · omega
        · rw [if_pos rfl, if_neg (by omega)] at hk
          rcases hb' with rfl | rfl
          · exact absurd hk h2
          · omega
        · rwa [if_neg (by omega), if_neg (by omega)] at hk
      · intro x hx
        simp at hx
        rw [iold x (by omega)]
        exact hI1.dom x (by omega)
      · intro x p' hx
        by_cases h1 : x = σ.size + 1
        · subst h1
          rw [inew] at hx
          injection hx with hx
          subst hx
          exact .inr ⟨b', _, _, p, hrow, hp, rfl⟩
        · rw [iold x h1] at hx
          exact .inl hx
    have hvr2 : ∃ a1 cap1, v1 = .slice (some a1) m cap1 ∧ m ≤ cap1 ∧ (0 < cap1 → a1 = ⟨p.c, p.o + 0, none⟩ ∧ 0 + cap1 * e ≤ p.M) := by
      rcases hsp with rfl | ⟨rfl, rfl⟩
      · cases hvr1 with
        | @sle _ _ _ _ a1 cap1 hc1 ha1 =>
          refine ⟨a1, _, rfl, hc1, fun h0 => ?_⟩
          obtain ⟨p', k1, k2, k3, k4⟩ := ha1 h0
          rw [hp] at k1
          injection k1 with k1
          subst k1
          exact ⟨k2, k4⟩
      · generalize hq : m + e = q at hvr1
        cases hvr1 with
        | slx ha1 => omega
        | @sln _ _ _ e' a1 cap1 he1 hc1 ha1 =>
          have : e' = e := by omega
          subst this
          refine ⟨a1, cap1, rfl, hc1, fun h0 => ?_⟩
          obtain ⟨p', k1, k2, k3, k4⟩ := ha1 h0
          rw [hp] at k1
          injection k1 with k1
          subst k1
          exact ⟨k2, k4⟩
    obtain ⟨a1, cap1, rfl, hc1, ha1⟩ := hvr2
    refine ⟨_, _, rfl, VR.sln he hc1 fun h0 => ?_, hI1.re hsub, hB1.trans (Bs.re hsub)⟩
    obtain ⟨k1, k2⟩ := ha1 h0
    exact ⟨⟨p.c, p.o, e, p.M⟩, inew, k1, rfl, k2⟩
  generalize hq : n + e = q at hv
  cases hv with
  | slx ha => omega
  | @sln _ _ _ e' a cap he' hc ha =>
    have : e' = e := by omega
    subst this
    exact key cap a hc rfl (.sle hc ha)

section
variable {α : Type} {K : Kd α}

theorem Kd.list_take {D σ} {cs : List Value} {xs : List α} (h : K.list D σ cs xs) (i : Nat) : K.list D σ (cs.take (i * K.n)) (xs.take i) := by
  intro j x hx
  have hj : j < i := by
    rcases Nat.lt_or_ge j i with h | h
    · exact h
    · rw [List.getElem?_take_eq_none h] at hx; simp at hx
  rw [List.getElem?_take_of_lt hj] at hx
  have h1 := h j x hx
  have : (j + 1) * K.n ≤ i * K.n := Nat.mul_le_mul_right _ hj
  rw [Nat.add_mul] at this
  rw [List.drop_take, List.take_take, Nat.min_eq_left (by omega)]
  exact h1

theorem Kd.list_drop {D σ} {cs : List Value} {xs : List α} (h : K.list D σ cs xs) (i : Nat) : K.list D σ (cs.drop (i * K.n)) (xs.drop i) := by
  intro j x hx
  rw [List.getElem?_drop] at hx
  have h1 := h _ x hx
  rw [List.drop_drop, ← Nat.add_mul]
  exact h1

theorem own_exact {D : List Nat} {σ : AHeap} {b e : Nat} {new : List Value} {ys : List α} (he : K.n = e) (hlb : b < σ.size) (hD : ∀ x ∈ D, x < σ.size) (hbD : b ∉ D) (hl : new.length = ys.length * e) (hn : ys.length * K.bs ≤ maxN)
    (h : K.list (b :: D) σ new ys) : Own K D (((σ.setIfInBounds b .dead).push .dead).push (.row new e .W)) [σ.size + 1] (.slice (some ⟨σ.size + 1, 0, none⟩) ys.length (ys.length + e)) ys ∧
      Mv [b] σ [σ.size + 1] (((σ.setIfInBounds b .dead).push .dead).push (.row new e .W)) := by
  subst he
  have keep : ∀ x, x < σ.size → x ≠ b → (((σ.setIfInBounds b .dead).push .dead).push (.row new K.n .W))[x]? = σ[x]? := fun x hx hxb => by
    rw [Array.getElem?_push, if_neg (by simp; omega), Array.getElem?_push, if_neg (by simp; omega), Array.getElem?_setIfInBounds_ne (Ne.symm hxb)]
  have hmv : Mv (b :: D) σ ((σ.size + 1) :: D) (((σ.setIfInBounds b .dead).push .dead).push (.row new K.n .W)) := by
    refine ⟨by simp; omega, fun x hx hxD => ?_, fun x hx hxD => ?_⟩
    · simp only [List.mem_cons, not_or] at hxD
      exact keep x hx hxD.1
    · simp only [List.mem_cons] at hxD ⊢
      rcases hxD with h | h
      · omega
      · exact .inr h
  refine ⟨Own.row (σ.size + 1) new hn (fun h => by have := hD _ h; omega) ?_ hl (Kd.list_step h hmv), ⟨by simp; omega, fun x hx hxD => keep x hx (by simpa using hxD), fun x hx hxD => by simp at hxD; omega⟩⟩
  rw [Array.getElem?_push, if_pos (by simp)]
end

end Go.Am

namespace Go.Am

/-- A heap of rows that are read alone, over a world. -/
structure RInv (w : World) (ι : Inj) (σ : AHeap) : Prop where
  inv : Inv w.heap.size ι σ w
  ro : ∀ (b : Nat) cs e m, σ[b]? = some (.row cs e m) → m = .R

theorem RInv.empty (w : World) : RInv w (fun _ => none) #[] :=
  ⟨⟨fun b cs e m h => by simp at h, fun b cs e m p h => by simp at h, fun b cs e m p b' cs' e' m' p' h => by simp at h, fun _ _ => rfl, fun b p h => by simp at h, Nat.le_refl _⟩, fun b cs e m h => by simp at h⟩

theorem RInv.noWim {w : World} {ι : Inj} {σ : AHeap} (h : RInv w ι σ) (c : Nat) : ¬ Wim ι σ c := fun ⟨b, cs, e, m, p, h1, h2, _⟩ => h2 (h.ro b cs e m h1)

/-- A row of old memory. -/
theorem RInv.push {w : World} {ι : Inj} {σ : AHeap} (h : RInv w ι σ) {cs : List Value} {p : IB} (hlt : p.c < w.heap.size)
    (hc : ∀ (i : Nat) v, cs[i]? = some v → ∃ v', w.cell? ⟨p.c, p.o + i, none⟩ = some v' ∧ VR ι v v' ∧ oneCell v = true) :
    RInv w (setIota ι σ.size p) (σ.push (.row cs p.e .R)) ∧ ι.le (setIota ι σ.size p) ∧ setIota ι σ.size p σ.size = some p := by
  have hd : ι σ.size = none := h.inv.dom _ (Nat.le_refl _)
  have hle := le_setIota hd p
  have what : ∀ (b : Nat) cs' e m, (σ.push (.row cs p.e .R))[b]? = some (.row cs' e m) → (b = σ.size ∧ cs' = cs ∧ e = p.e ∧ m = .R) ∨ (b ≠ σ.size ∧ σ[b]? = some (.row cs' e m)) := fun b cs' e m hb => by
    rw [push_get] at hb
    by_cases e0 : b = σ.size
    · rw [if_pos e0] at hb
      injection hb with hb
      injection hb with h1 h2 h3
      exact .inl ⟨e0, h1.symm, h2.symm, h3.symm⟩
    · rw [if_neg e0] at hb
      exact .inr ⟨e0, hb⟩
  have hro : ∀ (b : Nat) cs' e m, (σ.push (.row cs p.e .R))[b]? = some (.row cs' e m) → m = .R := fun b cs' e m hb => by
    rcases what _ _ _ _ hb with ⟨_, _, _, h⟩ | ⟨_, hb⟩
    · exact h
    · exact h.ro _ _ _ _ hb
  refine ⟨⟨⟨?_, ?_, ?_, ?_, ?_, h.inv.base⟩, hro⟩, hle, by simp [setIota]⟩
  · intro b cs' e m hb
    rcases what _ _ _ _ hb with ⟨rfl, rfl, rfl, rfl⟩ | ⟨hne, hb⟩
    · refine ⟨p, by simp [setIota], rfl, fun i v hv => ?_⟩
      obtain ⟨v', k1, k2, k3⟩ := hc i v hv
      exact ⟨v', k1, VR.mono hle k2, k3⟩
    · obtain ⟨p', k1, k2, k3⟩ := h.inv.blk _ _ _ _ hb
      refine ⟨p', by simp [setIota, hne, k1], k2, fun i v hv => ?_⟩
      obtain ⟨v', k4, k5, k6⟩ := k3 i v hv
      exact ⟨v', k4, VR.mono hle k5, k6⟩
  · intro b cs' e m p' hb hm
    exact absurd (hro _ _ _ _ hb) hm
  · intro b cs' e m p' b' cs2 e2 m2 p2 hb hm
    exact absurd (hro _ _ _ _ hb) hm
  · intro b hb
    simp at hb
    simp only [setIota, if_neg (show b ≠ σ.size by omega)]
    exact h.inv.dom b (by omega)
  · intro b p' hb
    by_cases e0 : b = σ.size
    · subst e0
      simp [setIota] at hb
      subst hb
      exact hlt
    · simp only [setIota, if_neg e0] at hb
      exact h.inv.lt b p' hb

section
variable {H : Type} (enc : TypeId × Value → H) (P : Program) (w : World)

/-- Data of a type may be told as data of a kind. -/
def Opens {α : Type} (t : TypeId) (K : Kd α) : Prop := ∀ (fuel : Nat) (cs : List Value) (d : DataW H) (ps : List MemPlace) (ι : Inj) (σ : AHeap), DataW.trod enc P w 0 (fun _ => true) true fuel t cs = some (d, ps) →
  (∀ x ∈ d.weights P t, x ≤ reachBytes) → RInv w ι σ → ∃ (ι' : Inj) (σ' : AHeap) (acs : List Value) (x : α), RInv w ι' σ' ∧ ι.le ι' ∧ Mv [] σ [] σ' ∧ VRL ι' acs cs ∧ K.rel [] σ' acs x

/-- .. and a slice of such. -/
def OpensS {α : Type} (t : TypeId) (K : Kd α) : Prop := ∀ (fuel : Nat) (cs : List Value) (d : DataW H) (ps : List MemPlace) (ι : Inj) (σ : AHeap), DataW.trod enc P w 0 (fun _ => true) true fuel t cs = some (d, ps) →
  (∀ x ∈ d.weights P t, x ≤ reachBytes) → RInv w ι σ → ∃ (ι' : Inj) (σ' : AHeap) (v cv : Value) (xs : List α), RInv w ι' σ' ∧ ι.le ι' ∧ Mv [] σ [] σ' ∧ cs = [cv] ∧ VR ι' v cv ∧ SlR K [] σ' v xs ∧
    (v = .slice none 0 0 ∨ ∃ base, v = .slice base xs.length (xs.length + K.n))

variable {enc P w}

theorem mem_weightsAll {e : TypeId} {y : Nat} : ∀ {l : List (DataW H)} {d : DataW H}, d ∈ l → y ∈ d.weights P e → y ∈ DataW.weightsAll P e l
  | _ :: _, _, hd, hy => by
    rw [DataW.weightsAll]
    rcases List.mem_cons.1 hd with rfl | hd
    · exact List.mem_append.2 (.inl hy)
    · exact List.mem_append.2 (.inr (mem_weightsAll hd hy))

theorem mapM_cells {w : World} {a : Addr} {n : Nat} {l : List Value} (h : (List.range n).mapM (fun i => w.cell? (a.add i)) = some l) : l.length = n ∧ ∀ i v, l[i]? = some v → w.cell? (a.add i) = some v := by
  have h1 := mapM_some_length h
  refine ⟨by simpa using h1, fun i v hv => ?_⟩
  have hi : i < n := by
    rcases Nat.lt_or_ge i l.length with h' | h'
    · simp at h1; omega
    · simp [List.getElem?_eq_none h'] at hv
  have := mapM_some_get h i i (by simp [hi])
  rw [this, hv]

theorem spot_of_cell {w : World} {a : Addr} {v : Value} (h : w.cell? a = some v) : a.spot = none := by
  unfold World.cell? at h
  split at h
  · split at h
    · simp at h
    · rename_i hs; simpa using hs
  · simp at h

theorem opens_slice {α : Type} {K : Kd α} {t el : TypeId} (ht : P.underlying t = some (.slice el)) (hc : P.cellsOf el = K.n) (hb : P.bytesOf el = K.bs) (hpos : 0 < K.n) (he : Opens enc P w el K) : OpensS enc P w t K := by
  intro fuel cs d ps ι σ htrod hwt hR
  rcases DataW.trod_slice ht htrod with ⟨rfl, _⟩ | ⟨a, len, cap, elems, rest, n, _, rfl, hx, _, hlc, _, hel, hcell, hspare, _⟩
  · exact ⟨ι, σ, _, _, [], hR, Inj.le_refl _, Mv.refl _ _, rfl, .nils, .nil, .inl rfl⟩
  · obtain ⟨hx, _⟩ := Prod.mk.inj hx
    subst hx
    simp only [DataW.weights, ht, List.mem_cons, List.mem_append] at hwt
    have hbytes : len * K.bs ≤ maxN := by
      have := hwt _ (.inl rfl)
      rw [hb, List.length_map, hel] at this
      have h1 : len * K.bs ≤ (len + (rest.map (·.1)).length) * K.bs := Nat.mul_le_mul_right _ (by omega)
      unfold reachBytes at this
      unfold maxN
      omega
    obtain ⟨hsl, hsp⟩ := hspare rfl
    have cell0 : ∀ i, (w.cells? 0 (a.add (i * P.cellsOf el)) (P.cellsOf el)).isSome → a.add (i * P.cellsOf el) = ⟨a.block, a.off + i * K.n, none⟩ ∧ a.block < w.heap.size := by
      intro i h
      obtain ⟨l, hl⟩ := Option.isSome_iff_exists.1 h
      unfold World.cells? at hl
      rw [if_pos (Nat.zero_le _)] at hl
      obtain ⟨h1, h2⟩ := mapM_cells hl
      have hl0 : 0 < l.length := by rw [h1, hc]; exact hpos
      have h3 := h2 0 l[0] (List.getElem?_eq_getElem hl0)
      have h4 := spot_of_cell h3
      have e0 : ∀ x : Addr, x.add 0 = x := fun x => rfl
      rw [e0] at h3 h4
      have hblk : (a.add (i * P.cellsOf el)).block = a.block := by unfold Addr.add; split <;> rfl
      have hlt := World.block_lt_of_cell? (w := w) (a := a.add (i * P.cellsOf el)) h3
      rw [hblk] at hlt
      refine ⟨?_, hlt⟩
      rw [hc] at h4 ⊢
      unfold Addr.add at h4 ⊢
      split
      · rename_i h0
        rw [if_pos h0] at h4
        rw [h0, Nat.add_zero]
        cases a
        simp only at h4
        subst h4
        rfl
      · rfl
    have hspot : 0 < cap → a = ⟨a.block, a.off, none⟩ ∧ a.block < w.heap.size := by
      intro h0
      have key : ∃ i, (w.cells? 0 (a.add (i * P.cellsOf el)) (P.cellsOf el)).isSome ∧ i = 0 := by
        refine ⟨0, ?_, rfl⟩
        by_cases hl0 : 0 < len
        · have := hcell 0 hl0
          rw [List.getElem?_eq_getElem (by omega)] at this
          obtain ⟨l, h1, _⟩ := Option.bind_eq_some_iff.1 this
          rw [h1]; rfl
        · have := hsp 0 (by omega)
          rw [List.getElem?_eq_getElem (by omega)] at this
          obtain ⟨l, h1, _⟩ := Option.bind_eq_some_iff.1 this
          rw [show len + 0 = 0 by omega] at h1
          rw [h1]; rfl
      obtain ⟨i, h1, rfl⟩ := key
      obtain ⟨h2, h3⟩ := cell0 0 h1
      refine ⟨?_, h3⟩
      have e0 : a.add (0 * P.cellsOf el) = a := by rw [Nat.zero_mul]; rfl
      rw [e0] at h2
      simpa using h2
    have elemsOk : ∀ k, k ≤ len → ∃ (ι' : Inj) (σ' : AHeap) (acs : List Value) (xs : List α), RInv w ι' σ' ∧ ι.le ι' ∧ Mv [] σ [] σ' ∧ xs.length = k ∧ acs.length = k * K.n ∧
        (∀ (i : Nat) v, acs[i]? = some v → ∃ v', w.cell? ⟨a.block, a.off + i, none⟩ = some v' ∧ VR ι' v v' ∧ oneCell v = true) ∧ K.list [] σ' acs xs := by
      intro k
      induction k with
      | zero => intro _; exact ⟨ι, σ, [], [], hR, Inj.le_refl _, Mv.refl _ _, rfl, by simp, fun i v hv => by simp at hv, fun i x hx => by simp at hx⟩
      | succ k ih =>
        intro hk
        obtain ⟨ι1, σ1, acs, xs, r1, r2, r3, r4, r5, r6, r7⟩ := ih (by omega)
        have hk' := hcell k (by omega)
        have hke : k < elems.length := by omega
        rw [List.getElem?_eq_getElem hke] at hk'
        obtain ⟨csk, h1, h2⟩ := Option.bind_eq_some_iff.1 hk'
        obtain ⟨hadd, _⟩ := cell0 k (by rw [h1]; rfl)
        have hmem : elems[k].1 ∈ elems.map (·.1) := List.mem_map.2 ⟨elems[k], by simp, rfl⟩
        obtain ⟨ι2, σ2, acsk, x, s1, s2, s3, s4, s5⟩ := he n csk elems[k].1 elems[k].2 ι1 σ1 h2 (fun y hy => hwt y (.inr (.inl (mem_weightsAll hmem hy)))) r1
        unfold World.cells? at h1
        rw [if_pos (Nat.zero_le _)] at h1
        obtain ⟨g1, g2⟩ := mapM_cells h1
        refine ⟨ι2, σ2, acs ++ acsk, xs ++ [x], s1, Inj.le_trans r2 s2, r3.trans s3, by simp [r4], by rw [List.length_append, r5, K.len s5, Nat.add_mul, Nat.one_mul], fun i v hv => ?_, Kd.list_append (by rw [r5, r4]) (Kd.list_step r7 s3) (Kd.list_one s5)⟩
        by_cases hi : i < acs.length
        · rw [List.getElem?_append_left hi] at hv
          obtain ⟨v', k1, k2, k3⟩ := r6 i v hv
          exact ⟨v', k1, VR.mono s2 k2, k3⟩
        · rw [List.getElem?_append_right (by omega), r5] at hv
          obtain ⟨v', k1, k2⟩ := s4.get hv
          refine ⟨v', ?_, k2, List.all_eq_true.1 (K.one s5) v (List.mem_of_getElem? hv)⟩
          have := g2 _ _ k1
          rw [hadd, addr_add] at this
          rw [show a.off + i = a.off + k * K.n + (i - k * K.n) by omega]
          exact this
    obtain ⟨ι1, σ1, acs, xs, r1, r2, r3, r4, r5, r6, r7⟩ := elemsOk len (Nat.le_refl _)
    by_cases hcap : 0 < cap
    · obtain ⟨ha, hlt⟩ := hspot hcap
      obtain ⟨t1, t2, t3⟩ := r1.push (cs := acs) (p := ⟨a.block, a.off, K.n, cap * K.n⟩) hlt r6
      refine ⟨_, _, .slice (some ⟨σ1.size, 0, none⟩) len (len + K.n), _, xs, t1, Inj.le_trans r2 t2, r3.trans (Mv.push [] _ _), rfl, VR.sln hpos hlc fun _ => ⟨_, t3, ?_, rfl, by simp⟩, ?_, .inr ⟨_, by rw [r4]⟩⟩
      · exact ha
      · subst r4
        exact .row σ1.size 0 _ acs K.n .R hbytes (.inr rfl) (by simp) (by simp) (by omega) (Kd.list_step r7 (Mv.push [] _ _))
    · have hl0 : len = 0 := by omega
      have hx0 : xs = [] := List.eq_nil_of_length_eq_zero (by omega)
      subst hx0 hl0
      exact ⟨_, _, .slice (some ⟨0, 0, none⟩) 0 (0 + K.n), _, [], r1, r2, r3, rfl, VR.sln hpos hlc fun h => absurd h hcap, .emp 0 0 _ (.inr (by omega)), .inr ⟨_, rfl⟩⟩

theorem OpensS.data {α : Type} {K : Kd α} {t : TypeId} (h : OpensS enc P w t K) : Opens enc P w t (slK K) := by
  intro fuel cs d ps ι σ h1 h2 h3
  obtain ⟨ι', σ', v, cv, xs, k1, k2, k3, rfl, k5, k6, _⟩ := h fuel cs d ps ι σ h1 h2 h3
  exact ⟨ι', σ', [v], xs, k1, k2, k3, .cons k5 .nil, ⟨v, rfl, k6⟩⟩
end
end Go.Am

namespace Go.Proofs.Ytbldkkabkijpgaa
open Go.Am
def s8 : SFn := ⟨.seq (.reg [⟨some 2, .mov (.const (.bool false)), none⟩]) (
 .seq (.reg [⟨some 19, .call 13 [], none⟩,
    ⟨some 3, .mov (.tmp 19), none⟩]) (
 .seq (.seq (.reg [⟨some 20, .mov (.tmp 3), none⟩,
     ⟨some 21, .bin .eql 2 24 (.tmp 20) (.const (.pointer none)), none⟩]) (
  .cond (.tmp 21) (.seq (.reg [⟨some 2, .mov (.const (.bool false)), none⟩]) (
   .ret)) (.skip))) (
 .seq (.reg [⟨some 23, .mov (.tmp 3), none⟩,
    ⟨some 24, .mkif 24 (.tmp 23), none⟩,
    ⟨some 25, .call 14 [.tmp 24], none⟩,
    ⟨some 22, .mov (.tmp 25), none⟩,
    ⟨some 26, .ext (.tmp 22) 0, none⟩,
    ⟨some 27, .ext (.tmp 22) 1, none⟩,
    ⟨some 4, .lalloc [.int .u64 0, .int .i64 0, .int .i64 0, .int .i64 0], none⟩,
    ⟨none, .store (some 4) (.tmp 4) (.tmp 26), none⟩,
    ⟨some 5, .mov (.tmp 27), none⟩]) (
 .seq (.keep [0, 3, 4, 5] [4]) (.seq (.seq (.reg [⟨some 28, .mov (.tmp 5), none⟩,
     ⟨some 29, .bin .neq 0 29 (.tmp 28) (.const (.int .i64 0)), none⟩]) (
  .cond (.tmp 29) (.seq (.reg [⟨some 2, .mov (.const (.bool false)), none⟩]) (
   .ret)) (.skip))) (
 .seq (.reg [⟨some 31, .mov (.tmp 3), none⟩,
    ⟨some 32, .load (some 4) (.tmp 4), none⟩,
    ⟨some 33, .call 36 [.tmp 31, .tmp 32], none⟩,
    ⟨some 30, .mov (.tmp 33), none⟩,
    ⟨some 34, .ext (.tmp 30) 0, none⟩,
    ⟨some 35, .ext (.tmp 30) 1, none⟩,
    ⟨some 6, .mov (.tmp 34), none⟩,
    ⟨some 7, .mov (.tmp 35), none⟩]) (
 .seq (.seq (.reg [⟨some 36, .mov (.tmp 7), none⟩,
     ⟨some 37, .un .not (.tmp 36), none⟩,
     ⟨some 38, .mov (.tmp 37), none⟩,
     ⟨some 39, .mov (.tmp 6), some (38, false)⟩,
     ⟨some 40, .bin .neq 0 3 (.tmp 39) (.const (.int .i64 1)), some (38, false)⟩,
     ⟨some 41, .pick (.tmp 38) (.const (.bool true)) (.tmp 40), none⟩]) (
  .seq (.keep [0, 3, 4, 6, 41] [4]) (.cond (.tmp 41) (.seq (.reg [⟨some 2, .mov (.const (.bool false)), none⟩]) (
   .ret)) (.skip)))) (
 .seq (.seq (.reg [⟨some 42, .mov (.tmp 0), none⟩,
     ⟨some 43, .call 15 [.tmp 42, .const (.int .i64 80)], none⟩,
     ⟨some 44, .len (.tmp 43), none⟩,
     ⟨some 45, .mov (.const (.int .i64 0)), none⟩]) (
  .block 0 (.loop (.seq (.keep [3, 4, 6, 43, 44, 45] [4]) (.seq (.reg [⟨some 46, .bin .lss 0 3 (.tmp 45) (.tmp 44), none⟩]) (
    .seq (.cond (.tmp 46) (.skip) (.exit 0)) (
    .seq (.block 1 (.seq (.reg [⟨some 47, .iaddr 5 (.tmp 43) (.tmp 45), none⟩,
         ⟨some 48, .load (some 5) (.tmp 47), none⟩,
         ⟨some 9, .lalloc [.int .i64 0, .string ⟨#[]⟩, .string ⟨#[]⟩, .slice none 0 0, .int .i64 0], none⟩,
         ⟨none, .store (some 5) (.tmp 9) (.tmp 48), none⟩]) (
      .seq (.reg [⟨some 49, .mov (.tmp 3), none⟩,
         ⟨some 50, .call 19 [.tmp 49], none⟩,
         ⟨some 10, .mov (.tmp 50), none⟩]) (
      .seq (.reg [⟨some 51, .mov (.tmp 6), none⟩,
         ⟨some 52, .bin .mul 0 3 (.const (.int .i64 2)) (.tmp 51), none⟩,
         ⟨some 53, .bin .add 0 3 (.tmp 52) (.const (.int .i64 1)), none⟩,
         ⟨some 11, .mov (.tmp 53), none⟩]) (
      .seq (.seq (.reg [⟨some 54, .faddr 0 (.tmp 9), none⟩,
          ⟨some 55, .load none (.tmp 54), none⟩,
          ⟨some 56, .bin .eql 0 3 (.tmp 55) (.const (.int .i64 1)), none⟩]) (
       .seq (.keep [3, 4, 6, 9, 10, 11, 43, 44, 45, 56] [4, 9]) (.cond (.tmp 56) (.seq (.reg [⟨some 58, .mov (.tmp 3), none⟩,
           ⟨some 59, .mkif 24 (.tmp 58), none⟩,
           ⟨some 60, .load (some 4) (.tmp 4), none⟩,
           ⟨some 61, .faddr 1 (.tmp 9), none⟩,
           ⟨some 62, .load none (.tmp 61), none⟩,
           ⟨some 63, .call 37 [.tmp 59, .tmp 60, .tmp 62], none⟩,
           ⟨some 57, .mov (.tmp 63), none⟩,
           ⟨some 64, .ext (.tmp 57) 0, none⟩,
           ⟨some 65, .ext (.tmp 57) 1, none⟩,
           ⟨some 66, .ext (.tmp 57) 2, none⟩,
           ⟨some 12, .lalloc [.int .u64 0, .int .i64 0, .int .i64 0, .int .i64 0], none⟩,
           ⟨none, .store (some 4) (.tmp 12) (.tmp 64), none⟩,
           ⟨some 13, .mov (.tmp 65), none⟩,
           ⟨some 14, .mov (.tmp 66), none⟩]) (
        .seq (.seq (.reg [⟨some 67, .mov (.tmp 14), none⟩,
            ⟨some 68, .bin .neq 0 29 (.tmp 67) (.const (.int .i64 0)), none⟩]) (
         .seq (.keep [3, 4, 6, 9, 10, 12, 13, 43, 44, 45, 68] [4, 9, 12]) (.cond (.tmp 68) (.seq (.reg [⟨some 2, .mov (.const (.bool false)), none⟩]) (
          .ret)) (.skip)))) (
        .seq (.reg [⟨some 69, .load (some 4) (.tmp 12), none⟩,
           ⟨none, .store (some 4) (.tmp 4) (.tmp 69), none⟩]) (
        .seq (.reg [⟨some 70, .mov (.tmp 6), none⟩,
           ⟨some 71, .bin .mul 0 3 (.const (.int .i64 2)) (.tmp 70), none⟩,
           ⟨some 11, .mov (.tmp 71), none⟩]) (
        .seq (.reg [⟨some 72, .mov (.tmp 13), none⟩,
           ⟨some 73, .un .not (.tmp 72), none⟩]) (
        .cond (.tmp 73) (.reg [⟨some 11, .mov (.const (.int .i64 0)), none⟩]) (.skip))))))) (.seq (.dreg [⟨some 75, .mov (.tmp 3), none⟩,
           ⟨some 76, .mkif 24 (.tmp 75), none⟩,
           ⟨some 77, .load (some 4) (.tmp 4), none⟩,
           ⟨some 78, .load (some 5) (.tmp 9), none⟩,
           ⟨some 79, .call 17 [.tmp 78], none⟩,
           ⟨some 80, .call 16 [.tmp 76, .tmp 77, .tmp 79], none⟩,
           ⟨some 74, .mov (.tmp 80), none⟩,
           ⟨some 81, .ext (.tmp 74) 0, none⟩,
           ⟨some 82, .ext (.tmp 74) 1, none⟩,
           ⟨some 15, .lalloc [.int .u64 0, .int .i64 0, .int .i64 0, .int .i64 0], none⟩,
           ⟨none, .store (some 4) (.tmp 15) (.tmp 81), none⟩,
           ⟨some 16, .mov (.tmp 82), none⟩] [(2, 3), (2, 4), (2, 9), (3, 9), (4, 9), (5, 9)]) (
        .seq (.seq (.reg [⟨some 83, .mov (.tmp 16), none⟩,
            ⟨some 84, .bin .neq 0 29 (.tmp 83) (.const (.int .i64 0)), none⟩]) (
         .cond (.tmp 84) (.seq (.reg [⟨some 2, .mov (.const (.bool false)), none⟩]) (
          .ret)) (.skip))) (
        .seq (.keep [3, 4, 6, 9, 10, 11, 15, 43, 44, 45] [4, 9, 15]) (.reg [⟨some 85, .load (some 4) (.tmp 15), none⟩,
          ⟨none, .store (some 4) (.tmp 4) (.tmp 85), none⟩]))))))) (
      .seq (.reg [⟨some 87, .mov (.tmp 3), none⟩,
         ⟨some 88, .load (some 4) (.tmp 4), none⟩,
         ⟨some 89, .call 36 [.tmp 87, .tmp 88], none⟩,
         ⟨some 86, .mov (.tmp 89), none⟩,
         ⟨some 90, .ext (.tmp 86) 0, none⟩,
         ⟨some 91, .ext (.tmp 86) 1, none⟩,
         ⟨some 17, .mov (.tmp 90), none⟩,
         ⟨some 18, .mov (.tmp 91), none⟩]) (
      .seq (.keep [3, 4, 6, 9, 10, 11, 17, 18, 43, 44, 45] [4, 9]) (.seq (.seq (.reg [⟨some 92, .mov (.tmp 18), none⟩,
          ⟨some 93, .un .not (.tmp 92), none⟩,
          ⟨some 94, .mov (.tmp 93), none⟩,
          ⟨some 95, .mov (.tmp 3), some (94, false)⟩,
          ⟨some 96, .call 19 [.tmp 95], some (94, false)⟩,
          ⟨some 97, .mov (.tmp 10), some (94, false)⟩,
          ⟨some 98, .bin .sub 0 3 (.tmp 96) (.tmp 97), some (94, false)⟩,
          ⟨some 99, .mov (.tmp 11), some (94, false)⟩,
          ⟨some 100, .bin .gtr 0 3 (.tmp 98) (.tmp 99), some (94, false)⟩,
          ⟨some 101, .pick (.tmp 94) (.const (.bool true)) (.tmp 100), none⟩,
          ⟨some 102, .mov (.tmp 101), none⟩,
          ⟨some 103, .mov (.tmp 17), some (102, false)⟩,
          ⟨some 104, .mov (.tmp 6), some (102, false)⟩,
          ⟨some 105, .bin .add 0 3 (.tmp 104) (.const (.int .i64 1)), some (102, false)⟩,
          ⟨some 106, .bin .gtr 0 3 (.tmp 103) (.tmp 105), some (102, false)⟩,
          ⟨some 107, .pick (.tmp 102) (.const (.bool true)) (.tmp 106), none⟩,
          ⟨some 108, .mov (.tmp 107), none⟩,
          ⟨some 109, .mov (.tmp 17), some (108, false)⟩,
          ⟨some 110, .mov (.tmp 6), some (108, false)⟩,
          ⟨some 111, .bin .sub 0 3 (.tmp 110) (.const (.int .i64 1)), some (108, false)⟩,
          ⟨some 112, .bin .lss 0 3 (.tmp 109) (.tmp 111), some (108, false)⟩,
          ⟨some 113, .pick (.tmp 108) (.const (.bool true)) (.tmp 112), none⟩,
          ⟨some 114, .mov (.tmp 113), none⟩,
          ⟨some 115, .faddr 0 (.tmp 9), some (114, false)⟩,
          ⟨some 116, .load none (.tmp 115), some (114, false)⟩,
          ⟨some 117, .bin .eql 0 3 (.tmp 116) (.const (.int .i64 1)), some (114, false)⟩,
          ⟨some 118, .mov (.tmp 117), some (114, false)⟩,
          ⟨some 119, .mov (.tmp 17), some (118, true)⟩,
          ⟨some 120, .mov (.tmp 6), some (118, true)⟩,
          ⟨some 121, .bin .gtr 0 3 (.tmp 119) (.tmp 120), some (118, true)⟩,
          ⟨some 122, .pick (.tmp 118) (.tmp 121) (.const (.bool false)), some (114, false)⟩,
          ⟨some 123, .pick (.tmp 114) (.const (.bool true)) (.tmp 122), none⟩,
          ⟨some 124, .mov (.tmp 123), none⟩,
          ⟨some 125, .faddr 0 (.tmp 9), some (124, false)⟩,
          ⟨some 126, .load none (.tmp 125), some (124, false)⟩,
          ⟨some 127, .bin .neq 0 3 (.tmp 126) (.const (.int .i64 1)), some (124, false)⟩,
          ⟨some 128, .mov (.tmp 127), some (124, false)⟩,
          ⟨some 129, .mov (.tmp 17), some (128, true)⟩,
          ⟨some 130, .mov (.tmp 6), some (128, true)⟩,
          ⟨some 131, .bin .lss 0 3 (.tmp 129) (.tmp 130), some (128, true)⟩,
          ⟨some 132, .pick (.tmp 128) (.tmp 131) (.const (.bool false)), some (124, false)⟩,
          ⟨some 133, .pick (.tmp 124) (.const (.bool true)) (.tmp 132), none⟩]) (
       .seq (.keep [3, 4, 17, 43, 44, 45, 133] [4]) (.cond (.tmp 133) (.seq (.reg [⟨some 2, .mov (.const (.bool false)), none⟩]) (
        .ret)) (.skip)))) (
      .reg [⟨some 134, .mov (.tmp 17), none⟩,
        ⟨some 6, .mov (.tmp 134), none⟩]))))))))) (
    .reg [⟨some 135, .bin .add 0 3 (.tmp 45) (.const (.int .i64 1)), none⟩,
      ⟨some 45, .mov (.tmp 135), none⟩])))))))) (
 .seq (.reg [⟨some 2, .mov (.const (.bool true)), none⟩]) (
 .ret)))))))))),
  [.tmp 2]⟩
theorem m8 : mFn Try.prog 8 s8 = true := by kernel_rfl
def s11 : SFn := ⟨.seq (.reg [⟨some 2, .mov (.const (.bool false)), none⟩]) (
 .seq (.reg [⟨some 22, .call 13 [], none⟩,
    ⟨some 3, .mov (.tmp 22), none⟩]) (
 .seq (.seq (.reg [⟨some 23, .mov (.tmp 3), none⟩,
     ⟨some 24, .bin .eql 2 24 (.tmp 23) (.const (.pointer none)), none⟩]) (
  .cond (.tmp 24) (.seq (.reg [⟨some 2, .mov (.const (.bool false)), none⟩]) (
   .ret)) (.skip))) (
 .seq (.reg [⟨some 26, .mov (.tmp 3), none⟩,
    ⟨some 27, .mkif 24 (.tmp 26), none⟩,
    ⟨some 28, .call 14 [.tmp 27], none⟩,
    ⟨some 25, .mov (.tmp 28), none⟩,
    ⟨some 29, .ext (.tmp 25) 0, none⟩,
    ⟨some 30, .ext (.tmp 25) 1, none⟩,
    ⟨some 4, .lalloc [.int .u64 0, .int .i64 0, .int .i64 0, .int .i64 0], none⟩,
    ⟨none, .store (some 4) (.tmp 4) (.tmp 29), none⟩,
    ⟨some 5, .mov (.tmp 30), none⟩]) (
 .seq (.keep [0, 3, 4, 5] [4]) (.seq (.seq (.reg [⟨some 31, .mov (.tmp 5), none⟩,
     ⟨some 32, .bin .neq 0 29 (.tmp 31) (.const (.int .i64 0)), none⟩]) (
  .cond (.tmp 32) (.seq (.reg [⟨some 2, .mov (.const (.bool false)), none⟩]) (
   .ret)) (.skip))) (
 .seq (.reg [⟨some 6, .mov (.const (.slice none 0 0)), none⟩]) (
 .seq (.reg [⟨some 7, .mov (.const (.slice none 0 0)), none⟩]) (
 .seq (.reg [⟨some 33, .load (some 4) (.tmp 4), none⟩,
    ⟨some 34, .bslice 4 [.int .u64 0, .int .i64 0, .int .i64 0, .int .i64 0] 1 [(0, .tmp 33)], none⟩,
    ⟨some 8, .mov (.tmp 34), none⟩]) (
 .seq (.reg [⟨some 35, .mov (.tmp 6), none⟩,
    ⟨some 36, .mov (.tmp 7), none⟩,
    ⟨some 37, .bslice 1 [.slice none 0 0] 1 [(0, .tmp 36)], none⟩,
    ⟨some 38, .app 1 24 false (.tmp 35) (.tmp 37), none⟩,
    ⟨some 6, .mov (.tmp 38), none⟩]) (
 .seq (.seq (.reg [⟨some 39, .mov (.tmp 0), none⟩,
     ⟨some 40, .call 15 [.tmp 39, .const (.int .i64 40)], none⟩,
     ⟨some 41, .len (.tmp 40), none⟩,
     ⟨some 42, .mov (.const (.int .i64 0)), none⟩]) (
  .seq (.keep [3, 4, 6, 7, 8, 40, 41, 42] [4]) (.block 0 (.loop (.seq (.keep [3, 4, 6, 7, 8, 40, 41, 42] [4]) (.seq (.reg [⟨some 43, .bin .lss 0 3 (.tmp 42) (.tmp 41), none⟩]) (
    .seq (.cond (.tmp 43) (.skip) (.exit 0)) (
    .seq (.block 1 (.seq (.reg [⟨some 44, .iaddr 5 (.tmp 40) (.tmp 42), none⟩,
         ⟨some 45, .load (some 5) (.tmp 44), none⟩,
         ⟨some 10, .lalloc [.int .i64 0, .string ⟨#[]⟩, .string ⟨#[]⟩, .slice none 0 0, .int .i64 0], none⟩,
         ⟨none, .store (some 5) (.tmp 10) (.tmp 45), none⟩]) (
      .seq (.seq (.reg [⟨some 46, .faddr 0 (.tmp 10), none⟩,
          ⟨some 47, .load none (.tmp 46), none⟩]) (
       .block 2 (.seq (.reg [⟨some 68, .bin .eql 0 3 (.tmp 47) (.const (.int .i64 1)), none⟩,
           ⟨some 67, .mov (.tmp 68), none⟩]) (
        .cond (.tmp 67) (.seq (.reg [⟨some 70, .mov (.tmp 3), none⟩,
            ⟨some 71, .mkif 24 (.tmp 70), none⟩,
            ⟨some 72, .load (some 4) (.tmp 4), none⟩,
            ⟨some 73, .faddr 1 (.tmp 10), none⟩,
            ⟨some 74, .load none (.tmp 73), none⟩,
            ⟨some 75, .call 37 [.tmp 71, .tmp 72, .tmp 74], none⟩,
            ⟨some 69, .mov (.tmp 75), none⟩,
            ⟨some 76, .ext (.tmp 69) 0, none⟩,
            ⟨some 77, .ext (.tmp 69) 1, none⟩,
            ⟨some 78, .ext (.tmp 69) 2, none⟩,
            ⟨some 11, .lalloc [.int .u64 0, .int .i64 0, .int .i64 0, .int .i64 0], none⟩,
            ⟨none, .store (some 4) (.tmp 11) (.tmp 76), none⟩,
            ⟨some 12, .mov (.tmp 77), none⟩,
            ⟨some 13, .mov (.tmp 78), none⟩]) (
         .seq (.keep [3, 4, 6, 7, 8, 10, 11, 12, 13, 40, 41, 42] [4, 10, 11]) (.seq (.reg [⟨some 80, .mov (.tmp 7), none⟩,
            ⟨some 81, .faddr 1 (.tmp 10), none⟩,
            ⟨some 82, .load none (.tmp 81), none⟩,
            ⟨some 83, .call 45 [.tmp 80, .tmp 82], none⟩,
            ⟨some 79, .mov (.tmp 83), none⟩,
            ⟨some 84, .ext (.tmp 79) 0, none⟩,
            ⟨some 85, .ext (.tmp 79) 1, none⟩,
            ⟨some 14, .mov (.tmp 84), none⟩,
            ⟨some 15, .mov (.tmp 85), none⟩]) (
         .seq (.seq (.reg [⟨some 86, .mov (.tmp 13), none⟩,
             ⟨some 87, .bin .neq 0 29 (.tmp 86) (.const (.int .i64 0)), none⟩,
             ⟨some 88, .mov (.tmp 87), none⟩,
             ⟨some 89, .mov (.tmp 12), some (88, false)⟩,
             ⟨some 90, .mov (.tmp 15), some (88, false)⟩,
             ⟨some 91, .bin .neq 1 4 (.tmp 89) (.tmp 90), some (88, false)⟩,
             ⟨some 92, .pick (.tmp 88) (.const (.bool true)) (.tmp 91), none⟩,
             ⟨some 93, .mov (.tmp 92), none⟩,
             ⟨some 94, .mov (.tmp 12), some (93, false)⟩,
             ⟨some 95, .un .not (.tmp 94), some (93, false)⟩,
             ⟨some 96, .mov (.tmp 95), some (93, false)⟩,
             ⟨some 97, .load (some 4) (.tmp 11), some (96, true)⟩,
             ⟨some 98, .load (some 4) (.tmp 4), some (96, true)⟩,
             ⟨some 99, .bin .neq 0 28 (.tmp 97) (.tmp 98), some (96, true)⟩,
             ⟨some 100, .pick (.tmp 96) (.tmp 99) (.const (.bool false)), some (93, false)⟩,
             ⟨some 101, .pick (.tmp 93) (.const (.bool true)) (.tmp 100), none⟩]) (
          .seq (.keep [3, 4, 6, 7, 8, 10, 11, 40, 41, 42, 101] [4, 10, 11]) (.cond (.tmp 101) (.seq (.reg [⟨some 2, .mov (.const (.bool false)), none⟩]) (
           .ret)) (.skip)))) (
         .seq (.reg [⟨some 102, .load (some 4) (.tmp 11), none⟩,
            ⟨none, .store (some 4) (.tmp 4) (.tmp 102), none⟩]) (
         .reg [⟨some 103, .mov (.tmp 7), none⟩,
           ⟨some 104, .faddr 1 (.tmp 10), none⟩,
           ⟨some 105, .load none (.tmp 104), none⟩,
           ⟨some 106, .call 38 [.tmp 103, .tmp 105], none⟩,
           ⟨some 7, .mov (.tmp 106), none⟩])))))) (.seq (.reg [⟨some 108, .bin .eql 0 3 (.tmp 47) (.const (.int .i64 3)), none⟩,
            ⟨some 107, .mov (.tmp 108), none⟩]) (
         .cond (.tmp 107) (.seq (.reg [⟨some 110, .mov (.tmp 3), none⟩,
             ⟨some 111, .mkif 24 (.tmp 110), none⟩,
             ⟨some 112, .load (some 4) (.tmp 4), none⟩,
             ⟨some 113, .faddr 3 (.tmp 10), none⟩,
             ⟨some 114, .load none (.tmp 113), none⟩,
             ⟨some 115, .call 20 [.tmp 111, .tmp 112, .tmp 114], none⟩,
             ⟨some 109, .mov (.tmp 115), none⟩,
             ⟨some 116, .ext (.tmp 109) 0, none⟩,
             ⟨some 117, .ext (.tmp 109) 1, none⟩,
             ⟨some 118, .ext (.tmp 109) 2, none⟩,
             ⟨some 16, .lalloc [.int .u64 0, .int .i64 0, .int .i64 0, .int .i64 0], none⟩,
             ⟨none, .store (some 4) (.tmp 16) (.tmp 116), none⟩,
             ⟨some 17, .mov (.tmp 117), none⟩,
             ⟨some 18, .mov (.tmp 118), none⟩]) (
          .seq (.keep [3, 4, 6, 7, 8, 16, 18, 40, 41, 42] [4, 16]) (.seq (.seq (.reg [⟨some 119, .mov (.tmp 18), none⟩,
              ⟨some 120, .bin .neq 0 29 (.tmp 119) (.const (.int .i64 0)), none⟩]) (
           .cond (.tmp 120) (.seq (.reg [⟨some 2, .mov (.const (.bool false)), none⟩]) (
            .ret)) (.skip))) (
          .reg [⟨some 121, .load (some 4) (.tmp 16), none⟩,
            ⟨none, .store (some 4) (.tmp 4) (.tmp 121), none⟩])))) (.seq (.dreg [⟨some 49, .mov (.tmp 3), none⟩,
             ⟨some 50, .mkif 24 (.tmp 49), none⟩,
             ⟨some 51, .load (some 4) (.tmp 4), none⟩,
             ⟨some 52, .load (some 5) (.tmp 10), none⟩,
             ⟨some 53, .call 17 [.tmp 52], none⟩,
             ⟨some 54, .call 16 [.tmp 50, .tmp 51, .tmp 53], none⟩,
             ⟨some 48, .mov (.tmp 54), none⟩,
             ⟨some 55, .ext (.tmp 48) 0, none⟩,
             ⟨some 56, .ext (.tmp 48) 1, none⟩,
             ⟨some 19, .lalloc [.int .u64 0, .int .i64 0, .int .i64 0, .int .i64 0], none⟩,
             ⟨none, .store (some 4) (.tmp 19) (.tmp 55), none⟩,
             ⟨some 20, .mov (.tmp 56), none⟩] [(2, 3), (2, 4), (2, 9), (3, 9), (4, 9), (5, 9)]) (
          .seq (.keep [3, 4, 6, 7, 8, 10, 19, 20, 40, 41, 42] [4, 10, 19]) (.seq (.seq (.reg [⟨some 57, .mov (.tmp 20), none⟩,
              ⟨some 58, .bin .neq 0 29 (.tmp 57) (.const (.int .i64 0)), none⟩]) (
           .cond (.tmp 58) (.seq (.reg [⟨some 2, .mov (.const (.bool false)), none⟩]) (
            .ret)) (.skip))) (
          .seq (.reg [⟨some 59, .load (some 4) (.tmp 19), none⟩,
             ⟨none, .store (some 4) (.tmp 4) (.tmp 59), none⟩]) (
          .dreg [⟨some 60, .mov (.tmp 7), none⟩,
            ⟨some 61, .faddr 1 (.tmp 10), none⟩,
            ⟨some 62, .load none (.tmp 61), none⟩,
            ⟨some 63, .call 38 [.tmp 60, .tmp 62], none⟩,
            ⟨some 64, .load (some 5) (.tmp 10), none⟩,
            ⟨some 65, .bimm 5 [.int .i64 0, .string ⟨#[]⟩, .string ⟨#[]⟩, .slice none 0 0, .int .i64 0] 1 [(0, .tmp 64)], none⟩,
            ⟨some 66, .app 5 72 false (.tmp 63) (.tmp 65), none⟩,
            ⟨some 7, .mov (.tmp 66), none⟩] [(2, 4), (3, 4)]))))))))))) (
      .seq (.reg [⟨some 122, .mov (.tmp 8), none⟩,
         ⟨some 123, .load (some 4) (.tmp 4), none⟩,
         ⟨some 124, .bslice 4 [.int .u64 0, .int .i64 0, .int .i64 0, .int .i64 0] 1 [(0, .tmp 123)], none⟩,
         ⟨some 125, .app 4 32 false (.tmp 122) (.tmp 124), none⟩,
         ⟨some 8, .mov (.tmp 125), none⟩]) (
      .seq (.keep [3, 4, 6, 7, 8, 40, 41, 42] [4]) (.seq (.reg [⟨some 126, .mov (.tmp 6), none⟩,
         ⟨some 127, .mov (.tmp 7), none⟩,
         ⟨some 128, .bslice 1 [.slice none 0 0] 1 [(0, .tmp 127)], none⟩,
         ⟨some 129, .app 1 24 false (.tmp 126) (.tmp 128), none⟩,
         ⟨some 6, .mov (.tmp 129), none⟩]) (
      .seq (.reg [⟨some 130, .mov (.tmp 3), none⟩,
         ⟨some 131, .load (some 4) (.tmp 4), none⟩,
         ⟨some 132, .mov (.tmp 7), none⟩,
         ⟨some 133, .call 39 [.tmp 130, .tmp 131, .tmp 132], none⟩,
         ⟨some 134, .un .not (.tmp 133), none⟩]) (
      .cond (.tmp 134) (.seq (.reg [⟨some 2, .mov (.const (.bool false)), none⟩]) (
       .ret)) (.skip))))))))) (
    .reg [⟨some 135, .bin .add 0 3 (.tmp 42) (.const (.int .i64 1)), none⟩,
      ⟨some 42, .mov (.tmp 135), none⟩]))))))))) (
 .seq (.seq (.reg [⟨some 136, .mov (.tmp 8), none⟩,
     ⟨some 137, .len (.tmp 136), none⟩,
     ⟨some 138, .mov (.const (.int .i64 0)), none⟩]) (
  .seq (.keep [3, 6, 8, 137, 138] []) (.block 3 (.loop (.seq (.keep [3, 6, 8, 137, 138] []) (.seq (.reg [⟨some 139, .bin .lss 0 3 (.tmp 138) (.tmp 137), none⟩]) (
    .seq (.cond (.tmp 139) (.skip) (.exit 3)) (
    .seq (.block 4 (.seq (.reg [⟨some 140, .mov (.tmp 138), none⟩,
         ⟨some 21, .mov (.tmp 140), none⟩]) (
      .seq (.dreg [⟨some 141, .mov (.tmp 3), none⟩,
         ⟨some 142, .mov (.tmp 8), none⟩,
         ⟨some 143, .mov (.tmp 21), none⟩,
         ⟨some 144, .iaddr 4 (.tmp 142) (.tmp 143), none⟩,
         ⟨some 145, .load (some 4) (.tmp 144), none⟩,
         ⟨some 146, .mov (.tmp 6), none⟩,
         ⟨some 147, .mov (.tmp 21), none⟩,
         ⟨some 148, .iaddr 1 (.tmp 146) (.tmp 147), none⟩,
         ⟨some 149, .load none (.tmp 148), none⟩,
         ⟨some 150, .call 39 [.tmp 141, .tmp 145, .tmp 149], none⟩,
         ⟨some 151, .un .not (.tmp 150), none⟩] [(4, 8)]) (
      .cond (.tmp 151) (.seq (.reg [⟨some 2, .mov (.const (.bool false)), none⟩]) (
       .ret)) (.skip))))) (
    .seq (.keep [3, 6, 8, 137, 138] []) (.reg [⟨some 152, .bin .add 0 3 (.tmp 138) (.const (.int .i64 1)), none⟩,
      ⟨some 138, .mov (.tmp 152), none⟩])))))))))) (
 .seq (.reg [⟨some 2, .mov (.const (.bool true)), none⟩]) (
 .ret))))))))))))),
  [.tmp 2]⟩
theorem m11 : mFn Try.prog 11 s11 = true := by kernel_rfl
def s13 : SFn := ⟨.seq (.reg [⟨some 0, .mov (.const (.pointer none)), none⟩]) (
 .seq (.reg [⟨some 1, .build [.slice none 0 0] [], none⟩,
    ⟨some 2, .hbox (.tmp 1), none⟩,
    ⟨some 0, .mov (.tmp 2), none⟩]) (
 .ret)),
  [.tmp 0]⟩
theorem m13 : mFn Try.prog 13 s13 = true := by kernel_rfl
def s14 : SFn := ⟨.seq (.reg [⟨some 2, .lalloc [.int .u64 0, .int .i64 0, .int .i64 0, .int .i64 0], none⟩,
    ⟨some 3, .mov (.const (.int .i64 0)), none⟩]) (
 .seq (.reg [⟨some 4, .mov (.tmp 0), none⟩,
    ⟨some 5, .build [.bool false, .slice none 0 0, .slice none 0 0] [(0, 1, .const (.bool true))], none⟩,
    ⟨some 6, .inv (.tmp 4) [(24, 160)] [.tmp 5], none⟩,
    ⟨some 7, .ext (.tmp 6) 0, none⟩,
    ⟨some 8, .ext (.tmp 6) 1, none⟩,
    ⟨none, .store (some 4) (.tmp 2) (.tmp 7), none⟩,
    ⟨some 3, .mov (.tmp 8), none⟩]) (
 .ret)),
  [.cell 2 (some 4), .tmp 3]⟩
theorem m14 : mFn Try.prog 14 s14 = true := by kernel_rfl
def s15 : SFn := ⟨.seq (.reg [⟨some 4, .mov (.const (.slice none 0 0)), none⟩]) (
 .seq (.seq (.reg [⟨some 5, .mov (.tmp 0), none⟩,
     ⟨some 6, .len (.tmp 5), none⟩,
     ⟨some 7, .mov (.tmp 1), none⟩,
     ⟨some 8, .bin .gtr 0 3 (.tmp 6) (.tmp 7), none⟩]) (
  .cond (.tmp 8) (.seq (.reg [⟨some 9, .mov (.tmp 0), none⟩,
      ⟨some 10, .mov (.tmp 1), none⟩,
      ⟨some 11, .slc 5 (.tmp 9) none (some (.tmp 10)) none, none⟩,
      ⟨some 4, .mov (.tmp 11), none⟩]) (
   .ret)) (.skip))) (
 .seq (.reg [⟨some 12, .mov (.tmp 0), none⟩,
    ⟨some 4, .mov (.tmp 12), none⟩]) (
 .ret))),
  [.tmp 4]⟩
theorem m15 : mFn Try.prog 15 s15 = true := by kernel_rfl
def s16 : SFn := ⟨.seq (.reg [⟨some 4, .lbox (.tmp 1), none⟩,
    ⟨some 5, .lbox (.tmp 2), none⟩,
    ⟨some 6, .lalloc [.int .u64 0, .int .i64 0, .int .i64 0, .int .i64 0], none⟩,
    ⟨some 7, .mov (.const (.int .i64 0)), none⟩]) (
 .seq (.reg [⟨some 12, .mov (.tmp 0), none⟩,
    ⟨some 13, .build [.nilIface] [(0, 1, .tmp 12)], none⟩,
    ⟨some 8, .lalloc [.nilIface], none⟩,
    ⟨none, .store (some 1) (.tmp 8) (.tmp 13), none⟩]) (
 .seq (.dreg [⟨some 15, .load (some 1) (.tmp 8), none⟩,
    ⟨some 16, .load (some 4) (.tmp 4), none⟩,
    ⟨some 17, .faddr 0 (.tmp 5), none⟩,
    ⟨some 18, .load none (.tmp 17), none⟩,
    ⟨some 19, .faddr 1 (.tmp 5), none⟩,
    ⟨some 20, .load none (.tmp 19), none⟩,
    ⟨some 21, .call 56 [.tmp 20], none⟩,
    ⟨some 22, .build [.string ⟨#[]⟩, .slice none 0 0] [(0, 1, .tmp 18), (1, 1, .tmp 21)], none⟩,
    ⟨some 23, .call 55 [.tmp 15, .tmp 16, .tmp 22, .const (.int .i64 1)], none⟩,
    ⟨some 14, .mov (.tmp 23), none⟩,
    ⟨some 24, .ext (.tmp 14) 0, none⟩,
    ⟨some 25, .ext (.tmp 14) 1, none⟩,
    ⟨some 9, .mov (.tmp 24), none⟩,
    ⟨some 10, .mov (.tmp 25), none⟩] [(0, 1), (0, 3), (1, 3), (0, 5), (1, 5), (3, 5), (0, 6), (1, 6), (3, 6)]) (
 .seq (.keep [6, 8, 9, 10] [6, 8]) (.seq (.block 0 (.loop (.seq (.keep [6, 8, 9, 10] [6, 8]) (.seq (.seq (.reg [⟨some 26, .mov (.tmp 10), none⟩,
        ⟨some 27, .bin .eql 0 29 (.tmp 26) (.const (.int .i64 0)), none⟩]) (
     .cond (.tmp 27) (.skip) (.exit 0))) (
    .block 1 (.seq (.reg [⟨some 11, .mov (.const (.slice none 0 0)), none⟩]) (
     .seq (.reg [⟨some 29, .load (some 1) (.tmp 8), none⟩,
        ⟨some 30, .mov (.tmp 9), none⟩,
        ⟨some 31, .call 57 [.tmp 29, .tmp 30], none⟩,
        ⟨some 28, .mov (.tmp 31), none⟩,
        ⟨some 32, .ext (.tmp 28) 0, none⟩,
        ⟨some 33, .ext (.tmp 28) 1, none⟩,
        ⟨some 11, .mov (.tmp 32), none⟩,
        ⟨some 10, .mov (.tmp 33), none⟩]) (
     .seq (.seq (.reg [⟨some 34, .mov (.tmp 10), none⟩,
         ⟨some 35, .bin .eql 0 29 (.tmp 34) (.const (.int .i64 0)), none⟩,
         ⟨some 36, .mov (.tmp 35), none⟩,
         ⟨some 37, .mov (.tmp 11), some (36, true)⟩,
         ⟨some 38, .len (.tmp 37), some (36, true)⟩,
         ⟨some 39, .bin .eql 0 3 (.tmp 38) (.const (.int .i64 1)), some (36, true)⟩,
         ⟨some 40, .pick (.tmp 36) (.tmp 39) (.const (.bool false)), none⟩]) (
      .seq (.keep [6, 8, 10, 11, 40] [6, 8]) (.cond (.tmp 40) (.seq (.reg [⟨some 41, .mov (.tmp 11), none⟩,
          ⟨some 42, .iaddr 5 (.tmp 41) (.const (.int .i64 0)), none⟩,
          ⟨some 43, .faddr 1 (.tmp 42), none⟩,
          ⟨some 44, .load (some 4) (.tmp 43), none⟩,
          ⟨none, .store (some 4) (.tmp 6) (.tmp 44), none⟩,
          ⟨some 7, .mov (.const (.int .i64 0)), none⟩]) (
       .ret)) (.skip)))) (
     .reg [⟨some 45, .mov (.tmp 11), none⟩,
       ⟨some 46, .build [.bool false, .slice none 0 0, .slice none 0 0] [(2, 1, .tmp 45)], none⟩,
       ⟨some 47, .build [.bool false, .slice none 0 0, .slice none 0 0] [(0, 3, .tmp 46)], none⟩,
       ⟨some 48, .bslice 3 [.bool false, .slice none 0 0, .slice none 0 0] 1 [(0, .tmp 47)], none⟩,
       ⟨some 9, .mov (.tmp 48), none⟩]))))))))) (
 .seq (.reg [⟨some 49, .build [.int .u64 0, .int .i64 0, .int .i64 0, .int .i64 0] [], none⟩,
    ⟨some 50, .mov (.tmp 10), none⟩,
    ⟨none, .store (some 4) (.tmp 6) (.tmp 49), none⟩,
    ⟨some 7, .mov (.tmp 50), none⟩]) (
 .ret)))))),
  [.cell 6 (some 4), .tmp 7]⟩
theorem m16 : mFn Try.prog 16 s16 = true := by kernel_rfl
def s17 : SFn := ⟨.seq (.reg [⟨some 1, .lbox (.tmp 0), none⟩,
    ⟨some 2, .lalloc [.string ⟨#[]⟩, .slice none 0 0], none⟩]) (
 .seq (.reg [⟨some 3, .faddr 1 (.tmp 1), none⟩,
    ⟨some 4, .load none (.tmp 3), none⟩,
    ⟨some 5, .faddr 2 (.tmp 1), none⟩,
    ⟨some 6, .load none (.tmp 5), none⟩,
    ⟨some 7, .build [.int .i64 0, .string ⟨#[]⟩, .string ⟨#[]⟩] [(0, 1, .const (.int .i64 1)), (1, 1, .tmp 6)], none⟩,
    ⟨some 8, .bslice 3 [.int .i64 0, .string ⟨#[]⟩, .string ⟨#[]⟩] 1 [(0, .tmp 7)], none⟩,
    ⟨some 9, .build [.string ⟨#[]⟩, .slice none 0 0] [(0, 1, .tmp 4), (1, 1, .tmp 8)], none⟩,
    ⟨none, .store (some 2) (.tmp 2) (.tmp 9), none⟩]) (
 .ret)),
  [.cell 2 (some 2)]⟩
theorem m17 : mFn Try.prog 17 s17 = true := by kernel_rfl
def s18 : SFn := ⟨.seq (.reg [⟨some 3, .lbox (.tmp 1), none⟩,
    ⟨some 4, .mov (.const (.slice none 0 0)), none⟩,
    ⟨some 5, .mov (.const (.int .i64 0)), none⟩]) (
 .seq (.reg [⟨some 6, .mov (.tmp 0), none⟩,
    ⟨some 7, .build [.nilIface] [(0, 1, .tmp 6)], none⟩,
    ⟨some 8, .load (some 4) (.tmp 3), none⟩,
    ⟨some 9, .call 58 [.tmp 7, .const (.slice none 0 0), .tmp 8, .const (.int .i64 1)], none⟩,
    ⟨some 10, .ext (.tmp 9) 0, none⟩,
    ⟨some 11, .ext (.tmp 9) 1, none⟩,
    ⟨some 4, .mov (.tmp 10), none⟩,
    ⟨some 5, .mov (.tmp 11), none⟩]) (
 .ret)),
  [.tmp 4, .tmp 5]⟩
theorem m18 : mFn Try.prog 18 s18 = true := by kernel_rfl
def s19 : SFn := ⟨.seq (.reg [⟨some 2, .mov (.const (.int .i64 0)), none⟩]) (
 .seq (.reg [⟨some 3, .mov (.tmp 0), none⟩,
    ⟨some 4, .nilchk (.tmp 3), none⟩,
    ⟨some 5, .faddr 0 (.tmp 4), none⟩,
    ⟨some 6, .load none (.tmp 5), none⟩,
    ⟨some 7, .len (.tmp 6), none⟩,
    ⟨some 2, .mov (.tmp 7), none⟩]) (
 .ret)),
  [.tmp 2]⟩
theorem m19 : mFn Try.prog 19 s19 = true := by kernel_rfl
def s20 : SFn := ⟨.seq (.reg [⟨some 4, .lbox (.tmp 1), none⟩,
    ⟨some 6, .lalloc [.int .u64 0, .int .i64 0, .int .i64 0, .int .i64 0], none⟩,
    ⟨some 7, .mov (.const (.int .i64 0)), none⟩,
    ⟨some 8, .mov (.const (.int .i64 0)), none⟩]) (
 .seq (.reg [⟨some 9, .mov (.tmp 0), none⟩,
    ⟨some 10, .build [.nilIface] [(0, 1, .tmp 9)], none⟩,
    ⟨some 11, .load (some 4) (.tmp 4), none⟩,
    ⟨some 12, .mov (.tmp 2), none⟩,
    ⟨some 13, .call 59 [.tmp 10, .tmp 11, .tmp 12, .const (.int .i64 1)], none⟩,
    ⟨some 14, .ext (.tmp 13) 0, none⟩,
    ⟨some 15, .ext (.tmp 13) 1, none⟩,
    ⟨some 16, .ext (.tmp 13) 2, none⟩,
    ⟨none, .store (some 4) (.tmp 6) (.tmp 14), none⟩,
    ⟨some 7, .mov (.tmp 15), none⟩,
    ⟨some 8, .mov (.tmp 16), none⟩]) (
 .ret)),
  [.cell 6 (some 4), .tmp 7, .tmp 8]⟩
theorem m20 : mFn Try.prog 20 s20 = true := by kernel_rfl
def s21 : SFn := ⟨.seq (.reg [⟨some 4, .mov (.const (.bool false)), none⟩]) (
 .seq (.seq (.reg [⟨some 7, .mov (.tmp 0), none⟩,
     ⟨some 8, .len (.tmp 7), none⟩,
     ⟨some 9, .mov (.const (.int .i64 0)), none⟩]) (
  .block 0 (.loop (.seq (.keep [1, 7, 8, 9] []) (.seq (.reg [⟨some 10, .bin .lss 0 3 (.tmp 9) (.tmp 8), none⟩]) (
    .seq (.cond (.tmp 10) (.skip) (.exit 0)) (
    .seq (.block 1 (.seq (.reg [⟨some 11, .iaddr 1 (.tmp 7) (.tmp 9), none⟩,
         ⟨some 12, .load none (.tmp 11), none⟩,
         ⟨some 6, .mov (.tmp 12), none⟩]) (
      .seq (.reg [⟨some 13, .mov (.tmp 6), none⟩,
         ⟨some 14, .mov (.tmp 1), none⟩,
         ⟨some 15, .bin .eql 0 3 (.tmp 13) (.tmp 14), none⟩]) (
      .cond (.tmp 15) (.seq (.reg [⟨some 4, .mov (.const (.bool true)), none⟩]) (
       .ret)) (.skip))))) (
    .reg [⟨some 16, .bin .add 0 3 (.tmp 9) (.const (.int .i64 1)), none⟩,
      ⟨some 9, .mov (.tmp 16), none⟩])))))))) (
 .seq (.reg [⟨some 4, .mov (.const (.bool false)), none⟩]) (
 .ret))),
  [.tmp 4]⟩
theorem m21 : mFn Try.prog 21 s21 = true := by kernel_rfl
def s22 : SFn := ⟨.seq (.reg [⟨some 4, .mov (.const (.bool false)), none⟩]) (
 .seq (.seq (.reg [⟨some 6, .mov (.tmp 0), none⟩,
     ⟨some 7, .len (.tmp 6), none⟩,
     ⟨some 8, .mov (.tmp 1), none⟩,
     ⟨some 9, .len (.tmp 8), none⟩,
     ⟨some 10, .bin .neq 0 3 (.tmp 7) (.tmp 9), none⟩]) (
  .cond (.tmp 10) (.seq (.reg [⟨some 4, .mov (.const (.bool false)), none⟩]) (
   .ret)) (.skip))) (
 .seq (.seq (.reg [⟨some 11, .mov (.tmp 0), none⟩,
     ⟨some 12, .len (.tmp 11), none⟩,
     ⟨some 13, .mov (.const (.int .i64 0)), none⟩]) (
  .block 0 (.loop (.seq (.keep [0, 1, 12, 13] []) (.seq (.reg [⟨some 14, .bin .lss 0 3 (.tmp 13) (.tmp 12), none⟩]) (
    .seq (.cond (.tmp 14) (.skip) (.exit 0)) (
    .seq (.block 1 (.seq (.reg [⟨some 15, .mov (.tmp 13), none⟩,
         ⟨some 5, .mov (.tmp 15), none⟩]) (
      .seq (.dreg [⟨some 16, .mov (.tmp 0), none⟩,
         ⟨some 17, .mov (.tmp 5), none⟩,
         ⟨some 18, .iaddr 2 (.tmp 16) (.tmp 17), none⟩,
         ⟨some 19, .load (some 2) (.tmp 18), none⟩,
         ⟨some 20, .mov (.tmp 1), none⟩,
         ⟨some 21, .mov (.tmp 5), none⟩,
         ⟨some 22, .iaddr 2 (.tmp 20) (.tmp 21), none⟩,
         ⟨some 23, .load (some 2) (.tmp 22), none⟩,
         ⟨some 24, .call 31 [.tmp 19, .tmp 23], none⟩,
         ⟨some 25, .un .not (.tmp 24), none⟩] [(3, 7)]) (
      .cond (.tmp 25) (.seq (.reg [⟨some 4, .mov (.const (.bool false)), none⟩]) (
       .ret)) (.skip))))) (
    .reg [⟨some 26, .bin .add 0 3 (.tmp 13) (.const (.int .i64 1)), none⟩,
      ⟨some 13, .mov (.tmp 26), none⟩])))))))) (
 .seq (.keep [] []) (.seq (.reg [⟨some 4, .mov (.const (.bool true)), none⟩]) (
 .ret))))),
  [.tmp 4]⟩
theorem m22 : mFn Try.prog 22 s22 = true := by kernel_rfl
def s31 : SFn := ⟨.seq (.reg [⟨some 2, .lbox (.tmp 0), none⟩,
    ⟨some 3, .lbox (.tmp 1), none⟩,
    ⟨some 4, .mov (.const (.bool false)), none⟩]) (
 .seq (.reg [⟨some 5, .faddr 0 (.tmp 2), none⟩,
    ⟨some 6, .load none (.tmp 5), none⟩,
    ⟨some 7, .faddr 0 (.tmp 3), none⟩,
    ⟨some 8, .load none (.tmp 7), none⟩,
    ⟨some 9, .bin .eql 0 9 (.tmp 6) (.tmp 8), none⟩,
    ⟨some 10, .mov (.tmp 9), none⟩,
    ⟨some 11, .faddr 1 (.tmp 2), some (10, true)⟩,
    ⟨some 12, .load none (.tmp 11), some (10, true)⟩,
    ⟨some 13, .faddr 1 (.tmp 3), some (10, true)⟩,
    ⟨some 14, .load none (.tmp 13), some (10, true)⟩,
    ⟨some 15, .call 64 [.tmp 12, .tmp 14], some (10, true)⟩,
    ⟨some 16, .pick (.tmp 10) (.tmp 15) (.const (.bool false)), none⟩,
    ⟨some 4, .mov (.tmp 16), none⟩]) (
 .ret)),
  [.tmp 4]⟩
theorem m31 : mFn Try.prog 31 s31 = true := by kernel_rfl
def s36 : SFn := ⟨.seq (.reg [⟨some 3, .lbox (.tmp 1), none⟩,
    ⟨some 4, .mov (.const (.int .i64 0)), none⟩,
    ⟨some 5, .mov (.const (.bool false)), none⟩]) (
 .seq (.reg [⟨some 15, .mov (.tmp 0), none⟩,
    ⟨some 16, .mkif 24 (.tmp 15), none⟩,
    ⟨some 17, .load (some 4) (.tmp 3), none⟩,
    ⟨some 18, .call 18 [.tmp 16, .tmp 17], none⟩,
    ⟨some 14, .mov (.tmp 18), none⟩,
    ⟨some 19, .ext (.tmp 14) 0, none⟩,
    ⟨some 20, .ext (.tmp 14) 1, none⟩,
    ⟨some 6, .mov (.tmp 19), none⟩,
    ⟨some 7, .mov (.tmp 20), none⟩]) (
 .seq (.seq (.dreg [⟨some 21, .mov (.tmp 7), none⟩,
     ⟨some 22, .bin .neq 0 29 (.tmp 21) (.const (.int .i64 0)), none⟩,
     ⟨some 23, .mov (.tmp 22), none⟩,
     ⟨some 24, .mov (.tmp 6), some (23, false)⟩,
     ⟨some 25, .len (.tmp 24), some (23, false)⟩,
     ⟨some 26, .bin .eql 0 3 (.tmp 25) (.const (.int .i64 0)), some (23, false)⟩,
     ⟨some 27, .pick (.tmp 23) (.const (.bool true)) (.tmp 26), none⟩,
     ⟨some 28, .mov (.tmp 27), none⟩,
     ⟨some 29, .mov (.tmp 6), some (28, false)⟩,
     ⟨some 30, .iaddr 8 (.tmp 29) (.const (.int .i64 0)), some (28, false)⟩,
     ⟨some 31, .faddr 1 (.tmp 30), some (28, false)⟩,
     ⟨some 32, .load (some 4) (.tmp 31), some (28, false)⟩,
     ⟨some 33, .load (some 4) (.tmp 3), some (28, false)⟩,
     ⟨some 34, .bin .neq 0 28 (.tmp 32) (.tmp 33), some (28, false)⟩,
     ⟨some 35, .pick (.tmp 28) (.const (.bool true)) (.tmp 34), none⟩,
     ⟨some 36, .mov (.tmp 35), none⟩,
     ⟨some 37, .mov (.tmp 6), some (36, false)⟩,
     ⟨some 38, .iaddr 8 (.tmp 37) (.const (.int .i64 0)), some (36, false)⟩,
     ⟨some 39, .faddr 0 (.tmp 38), some (36, false)⟩,
     ⟨some 40, .load none (.tmp 39), some (36, false)⟩,
     ⟨some 41, .bin .neq 0 3 (.tmp 40) (.const (.int .i64 1)), some (36, false)⟩,
     ⟨some 42, .pick (.tmp 36) (.const (.bool true)) (.tmp 41), none⟩] [(11, 12)]) (
  .seq (.keep [6, 42] []) (.cond (.tmp 42) (.seq (.reg [⟨some 4, .mov (.const (.int .i64 0)), none⟩,
      ⟨some 5, .mov (.const (.bool false)), none⟩]) (
   .ret)) (.skip)))) (
 .seq (.reg [⟨some 8, .mov (.const (.int .i64 0)), none⟩]) (
 .seq (.seq (.reg [⟨some 43, .mov (.tmp 6), none⟩,
     ⟨some 44, .len (.tmp 43), none⟩,
     ⟨some 45, .mov (.const (.int .i64 0)), none⟩]) (
  .block 0 (.loop (.seq (.keep [6, 8, 43, 44, 45] []) (.seq (.reg [⟨some 46, .bin .lss 0 3 (.tmp 45) (.tmp 44), none⟩]) (
    .seq (.cond (.tmp 46) (.skip) (.exit 0)) (
    .seq (.block 1 (.seq (.reg [⟨some 47, .iaddr 8 (.tmp 43) (.tmp 45), none⟩,
         ⟨some 48, .load (some 8) (.tmp 47), none⟩,
         ⟨some 10, .lalloc [.int .i64 0, .int .u64 0, .int .i64 0, .int .i64 0, .int .i64 0, .bool false, .slice none 0 0, .slice none 0 0], none⟩,
         ⟨none, .store (some 8) (.tmp 10) (.tmp 48), none⟩]) (
      .reg [⟨some 49, .mov (.tmp 8), none⟩,
        ⟨some 50, .faddr 0 (.tmp 10), none⟩,
        ⟨some 51, .load none (.tmp 50), none⟩,
        ⟨some 52, .mx (.tmp 49) (.tmp 51), none⟩,
        ⟨some 8, .mov (.tmp 52), none⟩]))) (
    .reg [⟨some 53, .bin .add 0 3 (.tmp 45) (.const (.int .i64 1)), none⟩,
      ⟨some 45, .mov (.tmp 53), none⟩])))))))) (
 .seq (.reg [⟨some 55, .mov (.tmp 6), none⟩,
    ⟨some 56, .mov (.tmp 8), none⟩,
    ⟨some 57, .call 71 [.tmp 55, .const (.int .i64 0), .tmp 56], none⟩,
    ⟨some 54, .mov (.tmp 57), none⟩,
    ⟨some 58, .ext (.tmp 54) 0, none⟩,
    ⟨some 59, .ext (.tmp 54) 1, none⟩,
    ⟨some 60, .ext (.tmp 54) 2, none⟩,
    ⟨some 11, .mov (.tmp 58), none⟩,
    ⟨some 12, .mov (.tmp 59), none⟩,
    ⟨some 13, .mov (.tmp 60), none⟩]) (
 .seq (.keep [6, 8, 12, 13] []) (.seq (.reg [⟨some 61, .mov (.tmp 8), none⟩,
    ⟨some 62, .mov (.tmp 13), none⟩,
    ⟨some 63, .mov (.tmp 62), none⟩,
    ⟨some 64, .mov (.tmp 12), some (63, true)⟩,
    ⟨some 65, .mov (.tmp 6), some (63, true)⟩,
    ⟨some 66, .len (.tmp 65), some (63, true)⟩,
    ⟨some 67, .bin .eql 0 3 (.tmp 64) (.tmp 66), some (63, true)⟩,
    ⟨some 68, .pick (.tmp 63) (.tmp 67) (.const (.bool false)), none⟩,
    ⟨some 4, .mov (.tmp 61), none⟩,
    ⟨some 5, .mov (.tmp 68), none⟩]) (
 .ret)))))))),
  [.tmp 4, .tmp 5]⟩
theorem m36 : mFn Try.prog 36 s36 = true := by kernel_rfl
def s37 : SFn := ⟨.seq (.reg [⟨some 4, .lbox (.tmp 1), none⟩,
    ⟨some 6, .lalloc [.int .u64 0, .int .i64 0, .int .i64 0, .int .i64 0], none⟩,
    ⟨some 7, .mov (.const (.bool false)), none⟩,
    ⟨some 8, .mov (.const (.int .i64 0)), none⟩]) (
 .seq (.reg [⟨some 14, .mov (.tmp 0), none⟩,
    ⟨some 15, .build [.nilIface] [(0, 1, .tmp 14)], none⟩,
    ⟨some 9, .lalloc [.nilIface], none⟩,
    ⟨none, .store (some 1) (.tmp 9) (.tmp 15), none⟩]) (
 .seq (.reg [⟨some 17, .load (some 1) (.tmp 9), none⟩,
    ⟨some 18, .load (some 4) (.tmp 4), none⟩,
    ⟨some 19, .mov (.tmp 2), none⟩,
    ⟨some 20, .call 72 [.tmp 17, .tmp 18, .tmp 19, .const (.int .i64 1)], none⟩,
    ⟨some 16, .mov (.tmp 20), none⟩,
    ⟨some 21, .ext (.tmp 16) 0, none⟩,
    ⟨some 22, .ext (.tmp 16) 1, none⟩,
    ⟨some 23, .ext (.tmp 16) 2, none⟩,
    ⟨some 10, .lalloc [.bool false, .slice none 0 0, .slice none 0 0], none⟩,
    ⟨none, .store (some 3) (.tmp 10) (.tmp 21), none⟩,
    ⟨some 11, .mov (.tmp 22), none⟩,
    ⟨some 12, .mov (.tmp 23), none⟩]) (
 .seq (.keep [4, 6, 9, 10, 11, 12] [4, 6, 9, 10]) (.seq (.seq (.reg [⟨some 24, .mov (.tmp 12), none⟩,
     ⟨some 25, .bin .neq 0 29 (.tmp 24) (.const (.int .i64 0)), none⟩]) (
  .cond (.tmp 25) (.seq (.reg [⟨some 26, .build [.int .u64 0, .int .i64 0, .int .i64 0, .int .i64 0] [], none⟩,
      ⟨some 27, .mov (.tmp 12), none⟩,
      ⟨none, .store (some 4) (.tmp 6) (.tmp 26), none⟩,
      ⟨some 7, .mov (.const (.bool false)), none⟩,
      ⟨some 8, .mov (.tmp 27), none⟩]) (
   .ret)) (.skip))) (
 .seq (.seq (.reg [⟨some 28, .mov (.tmp 11), none⟩,
     ⟨some 29, .un .not (.tmp 28), none⟩]) (
  .cond (.tmp 29) (.seq (.reg [⟨some 30, .load (some 4) (.tmp 4), none⟩,
      ⟨none, .store (some 4) (.tmp 6) (.tmp 30), none⟩,
      ⟨some 7, .mov (.const (.bool false)), none⟩,
      ⟨some 8, .mov (.const (.int .i64 0)), none⟩]) (
   .ret)) (.skip))) (
 .seq (.seq (.reg [⟨some 31, .faddr 0 (.tmp 10), none⟩,
     ⟨some 32, .faddr 0 (.tmp 31), none⟩,
     ⟨some 33, .load none (.tmp 32), none⟩,
     ⟨some 34, .un .not (.tmp 33), none⟩,
     ⟨some 35, .mov (.tmp 34), none⟩,
     ⟨some 36, .faddr 0 (.tmp 10), some (35, true)⟩,
     ⟨some 37, .faddr 2 (.tmp 36), some (35, true)⟩,
     ⟨some 38, .load none (.tmp 37), some (35, true)⟩,
     ⟨some 39, .len (.tmp 38), some (35, true)⟩,
     ⟨some 40, .bin .eql 0 3 (.tmp 39) (.const (.int .i64 1)), some (35, true)⟩,
     ⟨some 41, .pick (.tmp 35) (.tmp 40) (.const (.bool false)), none⟩]) (
  .seq (.keep [6, 9, 10, 41] [6, 9, 10]) (.cond (.tmp 41) (.seq (.reg [⟨some 42, .faddr 0 (.tmp 10), none⟩,
      ⟨some 43, .faddr 2 (.tmp 42), none⟩,
      ⟨some 44, .load none (.tmp 43), none⟩,
      ⟨some 45, .iaddr 5 (.tmp 44) (.const (.int .i64 0)), none⟩,
      ⟨some 46, .faddr 1 (.tmp 45), none⟩,
      ⟨some 47, .load (some 4) (.tmp 46), none⟩,
      ⟨none, .store (some 4) (.tmp 6) (.tmp 47), none⟩,
      ⟨some 7, .mov (.const (.bool true)), none⟩,
      ⟨some 8, .mov (.const (.int .i64 0)), none⟩]) (
   .ret)) (.skip)))) (
 .seq (.reg [⟨some 49, .load (some 1) (.tmp 9), none⟩,
    ⟨some 50, .load (some 3) (.tmp 10), none⟩,
    ⟨some 51, .bslice 3 [.bool false, .slice none 0 0, .slice none 0 0] 1 [(0, .tmp 50)], none⟩,
    ⟨some 52, .call 57 [.tmp 49, .tmp 51], none⟩,
    ⟨some 48, .mov (.tmp 52), none⟩,
    ⟨some 53, .ext (.tmp 48) 0, none⟩,
    ⟨some 54, .ext (.tmp 48) 1, none⟩,
    ⟨some 13, .mov (.tmp 53), none⟩,
    ⟨some 12, .mov (.tmp 54), none⟩]) (
 .seq (.keep [6, 12, 13] [6]) (.seq (.seq (.reg [⟨some 55, .mov (.tmp 12), none⟩,
     ⟨some 56, .bin .neq 0 29 (.tmp 55) (.const (.int .i64 0)), none⟩]) (
  .cond (.tmp 56) (.seq (.reg [⟨some 57, .build [.int .u64 0, .int .i64 0, .int .i64 0, .int .i64 0] [], none⟩,
      ⟨some 58, .mov (.tmp 12), none⟩,
      ⟨none, .store (some 4) (.tmp 6) (.tmp 57), none⟩,
      ⟨some 7, .mov (.const (.bool false)), none⟩,
      ⟨some 8, .mov (.tmp 58), none⟩]) (
   .ret)) (.skip))) (
 .seq (.reg [⟨some 59, .mov (.tmp 13), none⟩,
    ⟨some 60, .iaddr 5 (.tmp 59) (.const (.int .i64 0)), none⟩,
    ⟨some 61, .faddr 1 (.tmp 60), none⟩,
    ⟨some 62, .load (some 4) (.tmp 61), none⟩,
    ⟨none, .store (some 4) (.tmp 6) (.tmp 62), none⟩,
    ⟨some 7, .mov (.const (.bool true)), none⟩,
    ⟨some 8, .mov (.const (.int .i64 0)), none⟩]) (
 .ret))))))))))),
  [.cell 6 (some 4), .tmp 7, .tmp 8]⟩
theorem m37 : mFn Try.prog 37 s37 = true := by kernel_rfl
def s38 : SFn := ⟨.seq (.reg [⟨some 4, .mov (.const (.slice none 0 0)), none⟩]) (
 .seq (.reg [⟨some 5, .mov (.const (.slice none 0 0)), none⟩]) (
 .seq (.seq (.reg [⟨some 8, .mov (.tmp 0), none⟩,
     ⟨some 9, .len (.tmp 8), none⟩,
     ⟨some 10, .mov (.const (.int .i64 0)), none⟩]) (
  .block 0 (.loop (.seq (.keep [1, 5, 8, 9, 10] []) (.seq (.reg [⟨some 11, .bin .lss 0 3 (.tmp 10) (.tmp 9), none⟩]) (
    .seq (.cond (.tmp 11) (.skip) (.exit 0)) (
    .seq (.block 1 (.seq (.reg [⟨some 12, .iaddr 5 (.tmp 8) (.tmp 10), none⟩,
         ⟨some 13, .load (some 5) (.tmp 12), none⟩,
         ⟨some 7, .lalloc [.int .i64 0, .string ⟨#[]⟩, .string ⟨#[]⟩, .slice none 0 0, .int .i64 0], none⟩,
         ⟨none, .store (some 5) (.tmp 7) (.tmp 13), none⟩]) (
      .seq (.reg [⟨some 14, .faddr 1 (.tmp 7), none⟩,
         ⟨some 15, .load none (.tmp 14), none⟩,
         ⟨some 16, .mov (.tmp 1), none⟩,
         ⟨some 17, .bin .neq 0 9 (.tmp 15) (.tmp 16), none⟩]) (
      .cond (.tmp 17) (.reg [⟨some 18, .mov (.tmp 5), none⟩,
         ⟨some 19, .load (some 5) (.tmp 7), none⟩,
         ⟨some 20, .bslice 5 [.int .i64 0, .string ⟨#[]⟩, .string ⟨#[]⟩, .slice none 0 0, .int .i64 0] 1 [(0, .tmp 19)], none⟩,
         ⟨some 21, .app 5 72 false (.tmp 18) (.tmp 20), none⟩,
         ⟨some 5, .mov (.tmp 21), none⟩]) (.skip))))) (
    .reg [⟨some 22, .bin .add 0 3 (.tmp 10) (.const (.int .i64 1)), none⟩,
      ⟨some 10, .mov (.tmp 22), none⟩])))))))) (
 .seq (.keep [5] []) (.seq (.reg [⟨some 23, .mov (.tmp 5), none⟩,
    ⟨some 4, .mov (.tmp 23), none⟩]) (
 .ret))))),
  [.tmp 4]⟩
theorem m38 : mFn Try.prog 38 s38 = true := by kernel_rfl
def s39 : SFn := ⟨.seq (.reg [⟨some 4, .lbox (.tmp 1), none⟩,
    ⟨some 6, .mov (.const (.bool false)), none⟩]) (
 .seq (.reg [⟨some 28, .mov (.tmp 0), none⟩,
    ⟨some 29, .mkif 24 (.tmp 28), none⟩,
    ⟨some 30, .load (some 4) (.tmp 4), none⟩,
    ⟨some 31, .call 18 [.tmp 29, .tmp 30], none⟩,
    ⟨some 27, .mov (.tmp 31), none⟩,
    ⟨some 32, .ext (.tmp 27) 0, none⟩,
    ⟨some 33, .ext (.tmp 27) 1, none⟩,
    ⟨some 7, .mov (.tmp 32), none⟩,
    ⟨some 8, .mov (.tmp 33), none⟩]) (
 .seq (.seq (.reg [⟨some 34, .mov (.tmp 8), none⟩,
     ⟨some 35, .bin .neq 0 29 (.tmp 34) (.const (.int .i64 0)), none⟩]) (
  .cond (.tmp 35) (.seq (.reg [⟨some 6, .mov (.const (.bool false)), none⟩]) (
   .ret)) (.skip))) (
 .seq (.reg [⟨some 9, .mov (.const (.string ⟨#[]⟩)), none⟩]) (
 .seq (.keep [0, 2, 4, 7, 9] [4]) (.seq (.reg [⟨some 10, .mov (.const (.int .i64 0)), none⟩]) (
 .seq (.seq (.reg [⟨some 36, .mov (.tmp 7), none⟩,
     ⟨some 37, .len (.tmp 36), none⟩,
     ⟨some 38, .mov (.const (.int .i64 0)), none⟩]) (
  .block 0 (.loop (.seq (.keep [0, 2, 4, 9, 10, 36, 37, 38] [4]) (.seq (.reg [⟨some 39, .bin .lss 0 3 (.tmp 38) (.tmp 37), none⟩]) (
    .seq (.cond (.tmp 39) (.skip) (.exit 0)) (
    .seq (.block 1 (.seq (.reg [⟨some 40, .iaddr 8 (.tmp 36) (.tmp 38), none⟩,
         ⟨some 41, .load (some 8) (.tmp 40), none⟩,
         ⟨some 12, .lalloc [.int .i64 0, .int .u64 0, .int .i64 0, .int .i64 0, .int .i64 0, .bool false, .slice none 0 0, .slice none 0 0], none⟩,
         ⟨none, .store (some 8) (.tmp 12) (.tmp 41), none⟩]) (
      .seq (.seq (.reg [⟨some 42, .faddr 5 (.tmp 12), none⟩,
          ⟨some 43, .faddr 1 (.tmp 42), none⟩,
          ⟨some 44, .load none (.tmp 43), none⟩,
          ⟨some 45, .len (.tmp 44), none⟩,
          ⟨some 46, .mov (.const (.int .i64 0)), none⟩]) (
       .block 2 (.loop (.seq (.keep [0, 2, 4, 9, 10, 12, 36, 37, 38, 44, 45, 46] [4, 12]) (.seq (.reg [⟨some 47, .bin .lss 0 3 (.tmp 46) (.tmp 45), none⟩]) (
         .seq (.cond (.tmp 47) (.skip) (.exit 2)) (
         .seq (.block 3 (.seq (.reg [⟨some 48, .mov (.tmp 46), none⟩,
              ⟨some 49, .iaddr 2 (.tmp 44) (.tmp 46), none⟩,
              ⟨some 50, .load (some 2) (.tmp 49), none⟩,
              ⟨some 14, .lalloc [.string ⟨#[]⟩, .slice none 0 0], none⟩,
              ⟨some 13, .mov (.tmp 48), none⟩,
              ⟨none, .store (some 2) (.tmp 14) (.tmp 50), none⟩]) (
           .seq (.reg [⟨some 52, .mov (.tmp 2), none⟩,
              ⟨some 53, .faddr 0 (.tmp 14), none⟩,
              ⟨some 54, .load none (.tmp 53), none⟩,
              ⟨some 55, .call 45 [.tmp 52, .tmp 54], none⟩,
              ⟨some 51, .mov (.tmp 55), none⟩,
              ⟨some 56, .ext (.tmp 51) 0, none⟩,
              ⟨some 57, .ext (.tmp 51) 1, none⟩,
              ⟨some 15, .mov (.tmp 56), none⟩,
              ⟨some 16, .mov (.tmp 57), none⟩]) (
           .seq (.keep [0, 2, 4, 9, 10, 12, 13, 14, 15, 16, 36, 37, 38, 44, 45, 46] [4, 12, 14]) (.seq (.seq (.reg [⟨some 58, .faddr 5 (.tmp 12), none⟩,
               ⟨some 59, .faddr 0 (.tmp 58), none⟩,
               ⟨some 60, .load none (.tmp 59), none⟩,
               ⟨some 61, .un .not (.tmp 60), none⟩,
               ⟨some 62, .mov (.tmp 61), none⟩,
               ⟨some 63, .mov (.tmp 16), some (62, false)⟩,
               ⟨some 64, .un .not (.tmp 63), some (62, false)⟩,
               ⟨some 65, .pick (.tmp 62) (.const (.bool true)) (.tmp 64), none⟩,
               ⟨some 66, .mov (.tmp 65), none⟩,
               ⟨some 67, .mov (.tmp 10), some (66, false)⟩,
               ⟨some 68, .mov (.tmp 13), some (66, false)⟩,
               ⟨some 69, .bin .add 0 3 (.tmp 67) (.tmp 68), some (66, false)⟩,
               ⟨some 70, .bin .gtr 0 3 (.tmp 69) (.const (.int .i64 0)), some (66, false)⟩,
               ⟨some 71, .mov (.tmp 70), some (66, false)⟩,
               ⟨some 72, .faddr 0 (.tmp 14), some (71, true)⟩,
               ⟨some 73, .load none (.tmp 72), some (71, true)⟩,
               ⟨some 74, .mov (.tmp 9), some (71, true)⟩,
               ⟨some 75, .bin .leq 0 9 (.tmp 73) (.tmp 74), some (71, true)⟩,
               ⟨some 76, .pick (.tmp 71) (.tmp 75) (.const (.bool false)), some (66, false)⟩,
               ⟨some 77, .pick (.tmp 66) (.const (.bool true)) (.tmp 76), none⟩,
               ⟨some 78, .mov (.tmp 77), none⟩,
               ⟨some 79, .faddr 1 (.tmp 14), some (78, false)⟩,
               ⟨some 80, .load none (.tmp 79), some (78, false)⟩,
               ⟨some 81, .len (.tmp 80), some (78, false)⟩,
               ⟨some 82, .bin .neq 0 3 (.tmp 81) (.const (.int .i64 1)), some (78, false)⟩,
               ⟨some 83, .pick (.tmp 78) (.const (.bool true)) (.tmp 82), none⟩,
               ⟨some 84, .mov (.tmp 83), none⟩,
               ⟨some 85, .faddr 1 (.tmp 14), some (84, false)⟩,
               ⟨some 86, .load none (.tmp 85), some (84, false)⟩,
               ⟨some 87, .iaddr 3 (.tmp 86) (.const (.int .i64 0)), some (84, false)⟩,
               ⟨some 88, .faddr 1 (.tmp 87), some (84, false)⟩,
               ⟨some 89, .load none (.tmp 88), some (84, false)⟩,
               ⟨some 90, .mov (.tmp 15), some (84, false)⟩,
               ⟨some 91, .bin .neq 0 9 (.tmp 89) (.tmp 90), some (84, false)⟩,
               ⟨some 92, .pick (.tmp 84) (.const (.bool true)) (.tmp 91), none⟩]) (
            .seq (.keep [0, 2, 4, 10, 12, 14, 36, 37, 38, 44, 45, 46, 92] [4, 12, 14]) (.cond (.tmp 92) (.seq (.reg [⟨some 6, .mov (.const (.bool false)), none⟩]) (
             .ret)) (.skip)))) (
           .reg [⟨some 93, .faddr 0 (.tmp 14), none⟩,
             ⟨some 94, .load none (.tmp 93), none⟩,
             ⟨some 9, .mov (.tmp 94), none⟩])))))) (
         .reg [⟨some 95, .bin .add 0 3 (.tmp 46) (.const (.int .i64 1)), none⟩,
           ⟨some 46, .mov (.tmp 95), none⟩])))))))) (
      .reg [⟨some 96, .mov (.tmp 10), none⟩,
        ⟨some 97, .faddr 5 (.tmp 12), none⟩,
        ⟨some 98, .faddr 1 (.tmp 97), none⟩,
        ⟨some 99, .load none (.tmp 98), none⟩,
        ⟨some 100, .len (.tmp 99), none⟩,
        ⟨some 101, .bin .add 0 3 (.tmp 96) (.tmp 100), none⟩,
        ⟨some 10, .mov (.tmp 101), none⟩])))) (
    .reg [⟨some 102, .bin .add 0 3 (.tmp 38) (.const (.int .i64 1)), none⟩,
      ⟨some 38, .mov (.tmp 102), none⟩])))))))) (
 .seq (.keep [0, 2, 4, 10] [4]) (.seq (.seq (.reg [⟨some 103, .mov (.tmp 2), none⟩,
     ⟨some 104, .len (.tmp 103), none⟩,
     ⟨some 105, .mov (.const (.int .i64 0)), none⟩]) (
  .block 4 (.loop (.seq (.keep [0, 2, 4, 10, 103, 104, 105] [4]) (.seq (.reg [⟨some 106, .bin .lss 0 3 (.tmp 105) (.tmp 104), none⟩]) (
    .seq (.cond (.tmp 106) (.skip) (.exit 4)) (
    .seq (.block 5 (.seq (.reg [⟨some 107, .iaddr 5 (.tmp 103) (.tmp 105), none⟩,
         ⟨some 108, .load (some 5) (.tmp 107), none⟩,
         ⟨some 18, .lalloc [.int .i64 0, .string ⟨#[]⟩, .string ⟨#[]⟩, .slice none 0 0, .int .i64 0], none⟩,
         ⟨none, .store (some 5) (.tmp 18) (.tmp 108), none⟩]) (
      .seq (.reg [⟨some 110, .mov (.tmp 0), none⟩,
         ⟨some 111, .mkif 24 (.tmp 110), none⟩,
         ⟨some 112, .load (some 4) (.tmp 4), none⟩,
         ⟨some 113, .faddr 1 (.tmp 18), none⟩,
         ⟨some 114, .load none (.tmp 113), none⟩,
         ⟨some 115, .call 48 [.tmp 111, .tmp 112, .tmp 114], none⟩,
         ⟨some 109, .mov (.tmp 115), none⟩,
         ⟨some 116, .ext (.tmp 109) 0, none⟩,
         ⟨some 117, .ext (.tmp 109) 1, none⟩,
         ⟨some 118, .ext (.tmp 109) 2, none⟩,
         ⟨some 19, .lalloc [.string ⟨#[]⟩, .slice none 0 0], none⟩,
         ⟨none, .store (some 2) (.tmp 19) (.tmp 116), none⟩,
         ⟨some 20, .mov (.tmp 117), none⟩,
         ⟨some 21, .mov (.tmp 118), none⟩]) (
      .seq (.keep [0, 2, 4, 10, 18, 19, 20, 21, 103, 104, 105] [4, 18, 19]) (.seq (.dreg [⟨some 119, .mov (.tmp 21), none⟩,
         ⟨some 120, .bin .neq 0 29 (.tmp 119) (.const (.int .i64 0)), none⟩,
         ⟨some 121, .mov (.tmp 120), none⟩,
         ⟨some 122, .mov (.tmp 20), some (121, false)⟩,
         ⟨some 123, .un .not (.tmp 122), some (121, false)⟩,
         ⟨some 124, .pick (.tmp 121) (.const (.bool true)) (.tmp 123), none⟩,
         ⟨some 125, .mov (.tmp 124), none⟩,
         ⟨some 126, .faddr 0 (.tmp 19), some (125, false)⟩,
         ⟨some 127, .load none (.tmp 126), some (125, false)⟩,
         ⟨some 128, .faddr 1 (.tmp 18), some (125, false)⟩,
         ⟨some 129, .load none (.tmp 128), some (125, false)⟩,
         ⟨some 130, .bin .neq 0 9 (.tmp 127) (.tmp 129), some (125, false)⟩,
         ⟨some 131, .pick (.tmp 125) (.const (.bool true)) (.tmp 130), none⟩,
         ⟨some 132, .mov (.tmp 131), none⟩,
         ⟨some 133, .faddr 1 (.tmp 19), some (132, false)⟩,
         ⟨some 134, .load none (.tmp 133), some (132, false)⟩,
         ⟨some 135, .len (.tmp 134), some (132, false)⟩,
         ⟨some 136, .bin .neq 0 3 (.tmp 135) (.const (.int .i64 1)), some (132, false)⟩,
         ⟨some 137, .pick (.tmp 132) (.const (.bool true)) (.tmp 136), none⟩,
         ⟨some 138, .mov (.tmp 137), none⟩,
         ⟨some 139, .faddr 1 (.tmp 19), some (138, false)⟩,
         ⟨some 140, .load none (.tmp 139), some (138, false)⟩,
         ⟨some 141, .iaddr 3 (.tmp 140) (.const (.int .i64 0)), some (138, false)⟩,
         ⟨some 142, .faddr 1 (.tmp 141), some (138, false)⟩,
         ⟨some 143, .load none (.tmp 142), some (138, false)⟩,
         ⟨some 144, .faddr 2 (.tmp 18), some (138, false)⟩,
         ⟨some 145, .load none (.tmp 144), some (138, false)⟩,
         ⟨some 146, .bin .neq 0 9 (.tmp 143) (.tmp 145), some (138, false)⟩,
         ⟨some 147, .pick (.tmp 138) (.const (.bool true)) (.tmp 146), none⟩] [(8, 10), (21, 26), (24, 26)]) (
      .seq (.keep [0, 2, 4, 10, 103, 104, 105, 147] [4]) (.cond (.tmp 147) (.seq (.reg [⟨some 6, .mov (.const (.bool false)), none⟩]) (
       .ret)) (.skip)))))))) (
    .reg [⟨some 148, .bin .add 0 3 (.tmp 105) (.const (.int .i64 1)), none⟩,
      ⟨some 105, .mov (.tmp 148), none⟩])))))))) (
 .seq (.reg [⟨some 150, .mov (.tmp 0), none⟩,
    ⟨some 151, .mkif 24 (.tmp 150), none⟩,
    ⟨some 152, .load (some 4) (.tmp 4), none⟩,
    ⟨some 153, .call 48 [.tmp 151, .tmp 152, .const (.string ⟨#[110, 111, 32, 115, 117, 99, 104, 32, 110, 97, 109, 101]⟩)], none⟩,
    ⟨some 149, .mov (.tmp 153), none⟩,
    ⟨some 154, .ext (.tmp 149) 0, none⟩,
    ⟨some 155, .ext (.tmp 149) 1, none⟩,
    ⟨some 156, .ext (.tmp 149) 2, none⟩,
    ⟨some 22, .lalloc [.string ⟨#[]⟩, .slice none 0 0], none⟩,
    ⟨none, .store (some 2) (.tmp 22) (.tmp 154), none⟩,
    ⟨some 23, .mov (.tmp 155), none⟩,
    ⟨some 24, .mov (.tmp 156), none⟩]) (
 .seq (.keep [2, 10, 23, 24] []) (.seq (.reg [⟨some 158, .mov (.tmp 2), none⟩,
    ⟨some 159, .call 45 [.tmp 158, .const (.string ⟨#[110, 111, 32, 115, 117, 99, 104, 32, 110, 97, 109, 101]⟩)], none⟩,
    ⟨some 157, .mov (.tmp 159), none⟩,
    ⟨some 160, .ext (.tmp 157) 0, none⟩,
    ⟨some 161, .ext (.tmp 157) 1, none⟩,
    ⟨some 25, .mov (.tmp 160), none⟩,
    ⟨some 26, .mov (.tmp 161), none⟩]) (
 .seq (.reg [⟨some 162, .mov (.tmp 24), none⟩,
    ⟨some 163, .bin .eql 0 29 (.tmp 162) (.const (.int .i64 0)), none⟩,
    ⟨some 164, .mov (.tmp 163), none⟩,
    ⟨some 165, .mov (.tmp 23), some (164, true)⟩,
    ⟨some 166, .mov (.tmp 26), some (164, true)⟩,
    ⟨some 167, .bin .eql 1 4 (.tmp 165) (.tmp 166), some (164, true)⟩,
    ⟨some 168, .pick (.tmp 164) (.tmp 167) (.const (.bool false)), none⟩,
    ⟨some 169, .mov (.tmp 168), none⟩,
    ⟨some 170, .mov (.tmp 10), some (169, true)⟩,
    ⟨some 171, .mov (.tmp 2), some (169, true)⟩,
    ⟨some 172, .len (.tmp 171), some (169, true)⟩,
    ⟨some 173, .bin .eql 0 3 (.tmp 170) (.tmp 172), some (169, true)⟩,
    ⟨some 174, .pick (.tmp 169) (.tmp 173) (.const (.bool false)), none⟩,
    ⟨some 6, .mov (.tmp 174), none⟩]) (
 .ret))))))))))))),
  [.tmp 6]⟩
theorem m39 : mFn Try.prog 39 s39 = true := by kernel_rfl
def s45 : SFn := ⟨.seq (.reg [⟨some 4, .mov (.const (.string ⟨#[]⟩)), none⟩,
    ⟨some 5, .mov (.const (.bool false)), none⟩]) (
 .seq (.seq (.reg [⟨some 8, .mov (.tmp 0), none⟩,
     ⟨some 9, .len (.tmp 8), none⟩,
     ⟨some 10, .mov (.const (.int .i64 0)), none⟩]) (
  .block 0 (.loop (.seq (.keep [1, 8, 9, 10] []) (.seq (.reg [⟨some 11, .bin .lss 0 3 (.tmp 10) (.tmp 9), none⟩]) (
    .seq (.cond (.tmp 11) (.skip) (.exit 0)) (
    .seq (.block 1 (.seq (.reg [⟨some 12, .iaddr 5 (.tmp 8) (.tmp 10), none⟩,
         ⟨some 13, .load (some 5) (.tmp 12), none⟩,
         ⟨some 7, .lalloc [.int .i64 0, .string ⟨#[]⟩, .string ⟨#[]⟩, .slice none 0 0, .int .i64 0], none⟩,
         ⟨none, .store (some 5) (.tmp 7) (.tmp 13), none⟩]) (
      .seq (.reg [⟨some 14, .faddr 1 (.tmp 7), none⟩,
         ⟨some 15, .load none (.tmp 14), none⟩,
         ⟨some 16, .mov (.tmp 1), none⟩,
         ⟨some 17, .bin .eql 0 9 (.tmp 15) (.tmp 16), none⟩]) (
      .cond (.tmp 17) (.seq (.reg [⟨some 18, .faddr 2 (.tmp 7), none⟩,
          ⟨some 19, .load none (.tmp 18), none⟩,
          ⟨some 4, .mov (.tmp 19), none⟩,
          ⟨some 5, .mov (.const (.bool true)), none⟩]) (
       .ret)) (.skip))))) (
    .reg [⟨some 20, .bin .add 0 3 (.tmp 10) (.const (.int .i64 1)), none⟩,
      ⟨some 10, .mov (.tmp 20), none⟩])))))))) (
 .seq (.keep [] []) (.seq (.reg [⟨some 4, .mov (.const (.string ⟨#[]⟩)), none⟩,
    ⟨some 5, .mov (.const (.bool false)), none⟩]) (
 .ret)))),
  [.tmp 4, .tmp 5]⟩
theorem m45 : mFn Try.prog 45 s45 = true := by kernel_rfl
def s48 : SFn := ⟨.seq (.reg [⟨some 4, .lbox (.tmp 1), none⟩,
    ⟨some 6, .lalloc [.string ⟨#[]⟩, .slice none 0 0], none⟩,
    ⟨some 7, .mov (.const (.bool false)), none⟩,
    ⟨some 8, .mov (.const (.int .i64 0)), none⟩]) (
 .seq (.reg [⟨some 16, .mov (.tmp 0), none⟩,
    ⟨some 17, .build [.nilIface] [(0, 1, .tmp 16)], none⟩,
    ⟨some 9, .lalloc [.nilIface], none⟩,
    ⟨none, .store (some 1) (.tmp 9) (.tmp 17), none⟩]) (
 .seq (.reg [⟨some 10, .mov (.const (.int .i64 1)), none⟩]) (
 .block 0 (.loop (.seq (.keep [2, 4, 6, 9, 10] [4, 6, 9]) (.seq (.block 1 (.seq (.reg [⟨some 21, .load (some 1) (.tmp 9), none⟩,
        ⟨some 22, .load (some 4) (.tmp 4), none⟩,
        ⟨some 23, .mov (.tmp 10), none⟩,
        ⟨some 24, .call 83 [.tmp 21, .tmp 22, .tmp 23], none⟩,
        ⟨some 20, .mov (.tmp 24), none⟩,
        ⟨some 25, .ext (.tmp 20) 0, none⟩,
        ⟨some 26, .ext (.tmp 20) 1, none⟩,
        ⟨some 11, .lalloc [.bool false, .slice none 0 0, .slice none 0 0], none⟩,
        ⟨none, .store (some 3) (.tmp 11) (.tmp 25), none⟩,
        ⟨some 12, .mov (.tmp 26), none⟩]) (
     .seq (.seq (.reg [⟨some 27, .mov (.tmp 12), none⟩,
         ⟨some 28, .bin .neq 0 29 (.tmp 27) (.const (.int .i64 0)), none⟩]) (
      .cond (.tmp 28) (.seq (.reg [⟨some 29, .build [.string ⟨#[]⟩, .slice none 0 0] [], none⟩,
          ⟨some 30, .mov (.tmp 12), none⟩,
          ⟨none, .store (some 2) (.tmp 6) (.tmp 29), none⟩,
          ⟨some 7, .mov (.const (.bool false)), none⟩,
          ⟨some 8, .mov (.tmp 30), none⟩]) (
       .ret)) (.skip))) (
     .seq (.keep [2, 4, 6, 9, 10, 11] [4, 6, 9, 11]) (.seq (.seq (.reg [⟨some 31, .faddr 0 (.tmp 11), none⟩,
         ⟨some 32, .faddr 0 (.tmp 31), none⟩,
         ⟨some 33, .load none (.tmp 32), none⟩,
         ⟨some 34, .un .not (.tmp 33), none⟩]) (
      .cond (.tmp 34) (.seq (.dreg [⟨some 35, .faddr 0 (.tmp 11), none⟩,
          ⟨some 36, .faddr 2 (.tmp 35), none⟩,
          ⟨some 37, .load none (.tmp 36), none⟩,
          ⟨some 38, .load (some 3) (.tmp 11), none⟩,
          ⟨some 39, .mov (.tmp 2), none⟩,
          ⟨some 40, .call 84 [.tmp 38, .tmp 39], none⟩,
          ⟨some 41, .iaddr 5 (.tmp 37) (.tmp 40), none⟩,
          ⟨some 42, .faddr 1 (.tmp 41), none⟩,
          ⟨some 43, .load (some 4) (.tmp 42), none⟩,
          ⟨none, .store (some 4) (.tmp 4) (.tmp 43), none⟩] [(2, 3), (2, 5)]) (
       .exit 1)) (.skip))) (
     .seq (.reg [⟨some 45, .load (some 3) (.tmp 11), none⟩,
        ⟨some 46, .mov (.tmp 2), none⟩,
        ⟨some 47, .call 85 [.tmp 45, .tmp 46], none⟩,
        ⟨some 44, .mov (.tmp 47), none⟩,
        ⟨some 48, .ext (.tmp 44) 0, none⟩,
        ⟨some 49, .ext (.tmp 44) 1, none⟩,
        ⟨some 13, .mov (.tmp 48), none⟩,
        ⟨some 14, .mov (.tmp 49), none⟩]) (
     .seq (.keep [6, 11, 13, 14] [6, 11]) (.seq (.seq (.reg [⟨some 50, .mov (.tmp 14), none⟩,
         ⟨some 51, .un .not (.tmp 50), none⟩]) (
      .cond (.tmp 51) (.seq (.reg [⟨some 52, .build [.string ⟨#[]⟩, .slice none 0 0] [], none⟩,
          ⟨none, .store (some 2) (.tmp 6) (.tmp 52), none⟩,
          ⟨some 7, .mov (.const (.bool false)), none⟩,
          ⟨some 8, .mov (.const (.int .i64 0)), none⟩]) (
       .ret)) (.skip))) (
     .seq (.reg [⟨some 53, .faddr 0 (.tmp 11), none⟩,
        ⟨some 54, .faddr 1 (.tmp 53), none⟩,
        ⟨some 55, .load none (.tmp 54), none⟩,
        ⟨some 56, .mov (.tmp 13), none⟩,
        ⟨some 57, .iaddr 2 (.tmp 55) (.tmp 56), none⟩,
        ⟨some 58, .load (some 2) (.tmp 57), none⟩,
        ⟨some 15, .lalloc [.string ⟨#[]⟩, .slice none 0 0], none⟩,
        ⟨none, .store (some 2) (.tmp 15) (.tmp 58), none⟩]) (
     .seq (.dreg [⟨some 59, .faddr 0 (.tmp 15), none⟩,
        ⟨some 60, .load none (.tmp 59), none⟩,
        ⟨some 61, .faddr 1 (.tmp 15), none⟩,
        ⟨some 62, .load none (.tmp 61), none⟩,
        ⟨some 63, .call 56 [.tmp 62], none⟩,
        ⟨some 64, .build [.string ⟨#[]⟩, .slice none 0 0] [(0, 1, .tmp 60), (1, 1, .tmp 63)], none⟩,
        ⟨none, .store (some 2) (.tmp 6) (.tmp 64), none⟩,
        ⟨some 7, .mov (.const (.bool true)), none⟩,
        ⟨some 8, .mov (.const (.int .i64 0)), none⟩] [(1, 3), (1, 4)]) (
     .ret))))))))))) (
   .seq (.keep [2, 4, 6, 9, 10] [4, 6, 9]) (.reg [⟨some 18, .mov (.tmp 10), none⟩,
     ⟨some 19, .bin .add 0 3 (.tmp 18) (.const (.int .i64 1)), none⟩,
     ⟨some 10, .mov (.tmp 19), none⟩])))))))),
  [.cell 6 (some 2), .tmp 7, .tmp 8]⟩
theorem m48 : mFn Try.prog 48 s48 = true := by kernel_rfl
def s55 : SFn := ⟨.seq (.reg [⟨some 4, .lbox (.tmp 0), none⟩,
    ⟨some 5, .lbox (.tmp 1), none⟩,
    ⟨some 6, .lbox (.tmp 2), none⟩,
    ⟨some 8, .mov (.const (.slice none 0 0)), none⟩,
    ⟨some 9, .mov (.const (.int .i64 0)), none⟩]) (
 .seq (.reg [⟨some 19, .load (some 1) (.tmp 4), none⟩,
    ⟨some 20, .load (some 4) (.tmp 5), none⟩,
    ⟨some 21, .mov (.tmp 3), none⟩,
    ⟨some 22, .call 83 [.tmp 19, .tmp 20, .tmp 21], none⟩,
    ⟨some 18, .mov (.tmp 22), none⟩,
    ⟨some 23, .ext (.tmp 18) 0, none⟩,
    ⟨some 24, .ext (.tmp 18) 1, none⟩,
    ⟨some 10, .lalloc [.bool false, .slice none 0 0, .slice none 0 0], none⟩,
    ⟨none, .store (some 3) (.tmp 10) (.tmp 23), none⟩,
    ⟨some 11, .mov (.tmp 24), none⟩]) (
 .seq (.keep [3, 4, 6, 10, 11] [4, 6, 10]) (.seq (.seq (.reg [⟨some 25, .mov (.tmp 11), none⟩,
     ⟨some 26, .bin .neq 0 29 (.tmp 25) (.const (.int .i64 0)), none⟩]) (
  .cond (.tmp 26) (.seq (.reg [⟨some 27, .mov (.tmp 11), none⟩,
      ⟨some 8, .mov (.const (.slice none 0 0)), none⟩,
      ⟨some 9, .mov (.tmp 27), none⟩]) (
   .ret)) (.skip))) (
 .seq (.seq (.reg [⟨some 28, .faddr 0 (.tmp 10), none⟩,
     ⟨some 29, .faddr 0 (.tmp 28), none⟩,
     ⟨some 30, .load none (.tmp 29), none⟩]) (
  .cond (.tmp 30) (.seq (.reg [⟨some 32, .load (some 3) (.tmp 10), none⟩,
      ⟨some 33, .faddr 0 (.tmp 6), none⟩,
      ⟨some 34, .load none (.tmp 33), none⟩,
      ⟨some 35, .call 85 [.tmp 32, .tmp 34], none⟩,
      ⟨some 31, .mov (.tmp 35), none⟩,
      ⟨some 36, .ext (.tmp 31) 0, none⟩,
      ⟨some 37, .ext (.tmp 31) 1, none⟩,
      ⟨some 12, .mov (.tmp 36), none⟩,
      ⟨some 13, .mov (.tmp 37), none⟩]) (
   .seq (.keep [6, 10, 12, 13] [6, 10]) (.seq (.reg [⟨some 38, .mov (.tmp 13), none⟩]) (
   .cond (.tmp 38) (.reg [⟨some 39, .faddr 0 (.tmp 10), none⟩,
      ⟨some 40, .faddr 1 (.tmp 39), none⟩,
      ⟨some 41, .load none (.tmp 40), none⟩,
      ⟨some 42, .mov (.tmp 12), none⟩,
      ⟨some 43, .load (some 2) (.tmp 6), none⟩,
      ⟨some 44, .iaddr 2 (.tmp 41) (.tmp 42), none⟩,
      ⟨none, .store (some 2) (.tmp 44) (.tmp 43), none⟩]) (.reg [⟨some 45, .faddr 0 (.tmp 10), none⟩,
      ⟨some 46, .faddr 1 (.tmp 45), none⟩,
      ⟨some 47, .load none (.tmp 46), none⟩,
      ⟨some 48, .mov (.tmp 12), none⟩,
      ⟨some 49, .load (some 2) (.tmp 6), none⟩,
      ⟨some 50, .bslice 2 [.string ⟨#[]⟩, .slice none 0 0] 1 [(0, .tmp 49)], none⟩,
      ⟨some 51, .call 94 [.tmp 47, .tmp 48, .tmp 50], none⟩,
      ⟨some 52, .faddr 0 (.tmp 10), none⟩,
      ⟨some 53, .faddr 1 (.tmp 52), none⟩,
      ⟨none, .store none (.tmp 53) (.tmp 51), none⟩]))))) (.seq (.reg [⟨some 54, .load (some 3) (.tmp 10), none⟩,
      ⟨some 55, .faddr 0 (.tmp 6), none⟩,
      ⟨some 56, .load none (.tmp 55), none⟩,
      ⟨some 57, .call 84 [.tmp 54, .tmp 56], none⟩,
      ⟨some 14, .mov (.tmp 57), none⟩]) (
   .seq (.dreg [⟨some 59, .load (some 1) (.tmp 4), none⟩,
      ⟨some 60, .faddr 0 (.tmp 10), none⟩,
      ⟨some 61, .faddr 2 (.tmp 60), none⟩,
      ⟨some 62, .load none (.tmp 61), none⟩,
      ⟨some 63, .mov (.tmp 14), none⟩,
      ⟨some 64, .iaddr 5 (.tmp 62) (.tmp 63), none⟩,
      ⟨some 65, .faddr 1 (.tmp 64), none⟩,
      ⟨some 66, .load (some 4) (.tmp 65), none⟩,
      ⟨some 67, .load (some 2) (.tmp 6), none⟩,
      ⟨some 68, .mov (.tmp 3), none⟩,
      ⟨some 69, .bin .add 0 3 (.tmp 68) (.const (.int .i64 1)), none⟩,
      ⟨some 70, .call 55 [.tmp 59, .tmp 66, .tmp 67, .tmp 69], none⟩,
      ⟨some 58, .mov (.tmp 70), none⟩,
      ⟨some 71, .ext (.tmp 58) 0, none⟩,
      ⟨some 72, .ext (.tmp 58) 1, none⟩,
      ⟨some 15, .mov (.tmp 71), none⟩,
      ⟨some 16, .mov (.tmp 72), none⟩] [(0, 3), (0, 7), (0, 8), (3, 8), (7, 8)]) (
   .seq (.keep [4, 10, 14, 15, 16] [4, 10]) (.seq (.seq (.reg [⟨some 73, .mov (.tmp 16), none⟩,
       ⟨some 74, .bin .neq 0 29 (.tmp 73) (.const (.int .i64 0)), none⟩]) (
    .cond (.tmp 74) (.seq (.reg [⟨some 75, .mov (.tmp 16), none⟩,
        ⟨some 8, .mov (.const (.slice none 0 0)), none⟩,
        ⟨some 9, .mov (.tmp 75), none⟩]) (
     .ret)) (.skip))) (
   .seq (.reg [⟨some 77, .load (some 1) (.tmp 4), none⟩,
      ⟨some 78, .mov (.tmp 15), none⟩,
      ⟨some 79, .call 57 [.tmp 77, .tmp 78], none⟩,
      ⟨some 76, .mov (.tmp 79), none⟩,
      ⟨some 80, .ext (.tmp 76) 0, none⟩,
      ⟨some 81, .ext (.tmp 76) 1, none⟩,
      ⟨some 17, .mov (.tmp 80), none⟩,
      ⟨some 16, .mov (.tmp 81), none⟩]) (
   .seq (.seq (.reg [⟨some 82, .mov (.tmp 16), none⟩,
       ⟨some 83, .bin .neq 0 29 (.tmp 82) (.const (.int .i64 0)), none⟩]) (
    .seq (.keep [10, 14, 16, 17, 83] [10]) (.cond (.tmp 83) (.seq (.reg [⟨some 84, .mov (.tmp 16), none⟩,
        ⟨some 8, .mov (.const (.slice none 0 0)), none⟩,
        ⟨some 9, .mov (.tmp 84), none⟩]) (
     .ret)) (.skip)))) (
   .reg [⟨some 85, .faddr 0 (.tmp 10), none⟩,
     ⟨some 86, .faddr 2 (.tmp 85), none⟩,
     ⟨some 87, .load none (.tmp 86), none⟩,
     ⟨some 88, .mov (.tmp 14), none⟩,
     ⟨some 89, .mov (.tmp 14), none⟩,
     ⟨some 90, .bin .add 0 3 (.tmp 89) (.const (.int .i64 1)), none⟩,
     ⟨some 91, .mov (.tmp 17), none⟩,
     ⟨some 92, .call 95 [.tmp 87, .tmp 88, .tmp 90, .tmp 91], none⟩,
     ⟨some 93, .faddr 0 (.tmp 10), none⟩,
     ⟨some 94, .faddr 2 (.tmp 93), none⟩,
     ⟨none, .store none (.tmp 94) (.tmp 92), none⟩]))))))))) (
 .seq (.seq (.reg [⟨some 95, .load (some 3) (.tmp 10), none⟩,
     ⟨some 96, .call 96 [.tmp 95], none⟩,
     ⟨some 97, .bin .gtr 0 3 (.tmp 96) (.const (.int .i64 4)), none⟩]) (
  .seq (.keep [10, 97] [10]) (.cond (.tmp 97) (.seq (.reg [⟨some 98, .load (some 3) (.tmp 10), none⟩,
      ⟨some 99, .call 97 [.tmp 98], none⟩,
      ⟨some 8, .mov (.tmp 99), none⟩,
      ⟨some 9, .mov (.const (.int .i64 0)), none⟩]) (
   .ret)) (.skip)))) (
 .seq (.reg [⟨some 100, .load (some 3) (.tmp 10), none⟩,
    ⟨some 101, .bslice 3 [.bool false, .slice none 0 0, .slice none 0 0] 1 [(0, .tmp 100)], none⟩,
    ⟨some 8, .mov (.tmp 101), none⟩,
    ⟨some 9, .mov (.const (.int .i64 0)), none⟩]) (
 .ret))))))),
  [.tmp 8, .tmp 9]⟩
theorem m55 : mFn Try.prog 55 s55 = true := by kernel_rfl
def s56 : SFn := ⟨.seq (.reg [⟨some 2, .mov (.const (.slice none 0 0)), none⟩]) (
 .seq (.seq (.reg [⟨some 3, .mov (.tmp 0), none⟩,
     ⟨some 4, .bin .eql 3 36 (.tmp 3) (.const (.slice none 0 0)), none⟩]) (
  .cond (.tmp 4) (.seq (.reg [⟨some 2, .mov (.const (.slice none 0 0)), none⟩]) (
   .ret)) (.skip))) (
 .seq (.reg [⟨some 5, .bslice 3 [.int .i64 0, .string ⟨#[]⟩, .string ⟨#[]⟩] 0 [], none⟩,
    ⟨some 6, .mov (.tmp 0), none⟩,
    ⟨some 7, .app 3 40 false (.tmp 5) (.tmp 6), none⟩,
    ⟨some 2, .mov (.tmp 7), none⟩]) (
 .ret))),
  [.tmp 2]⟩
theorem m56 : mFn Try.prog 56 s56 = true := by kernel_rfl
def s57 : SFn := ⟨.seq (.reg [⟨some 2, .lbox (.tmp 0), none⟩,
    ⟨some 4, .mov (.const (.slice none 0 0)), none⟩,
    ⟨some 5, .mov (.const (.int .i64 0)), none⟩]) (
 .seq (.reg [⟨some 6, .mov (.const (.slice none 0 0)), none⟩]) (
 .seq (.seq (.reg [⟨some 11, .mov (.tmp 1), none⟩,
     ⟨some 12, .len (.tmp 11), none⟩,
     ⟨some 13, .mov (.const (.int .i64 0)), none⟩]) (
  .block 0 (.loop (.seq (.keep [2, 6, 11, 12, 13] [2]) (.seq (.reg [⟨some 14, .bin .lss 0 3 (.tmp 13) (.tmp 12), none⟩]) (
    .seq (.cond (.tmp 14) (.skip) (.exit 0)) (
    .seq (.block 1 (.seq (.reg [⟨some 15, .iaddr 3 (.tmp 11) (.tmp 13), none⟩,
         ⟨some 16, .load (some 3) (.tmp 15), none⟩,
         ⟨some 8, .lalloc [.bool false, .slice none 0 0, .slice none 0 0], none⟩,
         ⟨none, .store (some 3) (.tmp 8) (.tmp 16), none⟩]) (
      .seq (.reg [⟨some 18, .faddr 0 (.tmp 2), none⟩,
         ⟨some 19, .load none (.tmp 18), none⟩,
         ⟨some 20, .faddr 0 (.tmp 8), none⟩,
         ⟨some 21, .load (some 3) (.tmp 20), none⟩,
         ⟨some 22, .inv (.tmp 19) [(24, 160)] [.tmp 21], none⟩,
         ⟨some 17, .mov (.tmp 22), none⟩,
         ⟨some 23, .ext (.tmp 17) 0, none⟩,
         ⟨some 24, .ext (.tmp 17) 1, none⟩,
         ⟨some 9, .lalloc [.int .u64 0, .int .i64 0, .int .i64 0, .int .i64 0], none⟩,
         ⟨none, .store (some 4) (.tmp 9) (.tmp 23), none⟩,
         ⟨some 10, .mov (.tmp 24), none⟩]) (
      .seq (.keep [2, 6, 8, 9, 10, 11, 12, 13] [2, 8, 9]) (.seq (.seq (.reg [⟨some 25, .mov (.tmp 10), none⟩,
          ⟨some 26, .bin .neq 0 29 (.tmp 25) (.const (.int .i64 0)), none⟩]) (
       .cond (.tmp 26) (.seq (.reg [⟨some 27, .mov (.tmp 10), none⟩,
           ⟨some 4, .mov (.const (.slice none 0 0)), none⟩,
           ⟨some 5, .mov (.tmp 27), none⟩]) (
        .ret)) (.skip))) (
      .dreg [⟨some 28, .mov (.tmp 6), none⟩,
        ⟨some 29, .faddr 0 (.tmp 8), none⟩,
        ⟨some 30, .load (some 3) (.tmp 29), none⟩,
        ⟨some 31, .call 98 [.tmp 30], none⟩,
        ⟨some 32, .load (some 4) (.tmp 9), none⟩,
        ⟨some 33, .build [.string ⟨#[]⟩, .int .u64 0, .int .i64 0, .int .i64 0, .int .i64 0] [(0, 1, .tmp 31), (1, 4, .tmp 32)], none⟩,
        ⟨some 34, .bimm 5 [.string ⟨#[]⟩, .int .u64 0, .int .i64 0, .int .i64 0, .int .i64 0] 1 [(0, .tmp 33)], none⟩,
        ⟨some 35, .app 5 48 false (.tmp 28) (.tmp 34), none⟩,
        ⟨some 6, .mov (.tmp 35), none⟩] [(2, 4), (3, 4)])))))) (
    .reg [⟨some 36, .bin .add 0 3 (.tmp 13) (.const (.int .i64 1)), none⟩,
      ⟨some 13, .mov (.tmp 36), none⟩])))))))) (
 .seq (.keep [6] []) (.seq (.reg [⟨some 37, .mov (.tmp 6), none⟩,
    ⟨some 4, .mov (.tmp 37), none⟩,
    ⟨some 5, .mov (.const (.int .i64 0)), none⟩]) (
 .ret))))),
  [.tmp 4, .tmp 5]⟩
theorem m57 : mFn Try.prog 57 s57 = true := by kernel_rfl
def s58 : SFn := ⟨.seq (.reg [⟨some 4, .lbox (.tmp 0), none⟩,
    ⟨some 6, .lbox (.tmp 2), none⟩,
    ⟨some 8, .mov (.const (.slice none 0 0)), none⟩,
    ⟨some 9, .mov (.const (.int .i64 0)), none⟩]) (
 .seq (.reg [⟨some 15, .load (some 1) (.tmp 4), none⟩,
    ⟨some 16, .load (some 4) (.tmp 6), none⟩,
    ⟨some 17, .mov (.tmp 3), none⟩,
    ⟨some 18, .call 83 [.tmp 15, .tmp 16, .tmp 17], none⟩,
    ⟨some 14, .mov (.tmp 18), none⟩,
    ⟨some 19, .ext (.tmp 14) 0, none⟩,
    ⟨some 20, .ext (.tmp 14) 1, none⟩,
    ⟨some 10, .lalloc [.bool false, .slice none 0 0, .slice none 0 0], none⟩,
    ⟨none, .store (some 3) (.tmp 10) (.tmp 19), none⟩,
    ⟨some 11, .mov (.tmp 20), none⟩]) (
 .seq (.seq (.reg [⟨some 21, .mov (.tmp 11), none⟩,
     ⟨some 22, .bin .neq 0 29 (.tmp 21) (.const (.int .i64 0)), none⟩]) (
  .seq (.keep [1, 3, 4, 6, 10, 11, 22] [4, 6, 10]) (.cond (.tmp 22) (.seq (.reg [⟨some 23, .mov (.tmp 11), none⟩,
      ⟨some 8, .mov (.const (.slice none 0 0)), none⟩,
      ⟨some 9, .mov (.tmp 23), none⟩]) (
   .ret)) (.skip)))) (
 .seq (.dreg [⟨some 24, .mov (.tmp 1), none⟩,
    ⟨some 25, .mov (.tmp 3), none⟩,
    ⟨some 26, .load (some 4) (.tmp 6), none⟩,
    ⟨some 27, .faddr 0 (.tmp 10), none⟩,
    ⟨some 28, .load (some 3) (.tmp 27), none⟩,
    ⟨some 29, .call 99 [.tmp 28], none⟩,
    ⟨some 30, .build [.int .i64 0, .int .u64 0, .int .i64 0, .int .i64 0, .int .i64 0, .bool false, .slice none 0 0, .slice none 0 0] [(0, 1, .tmp 25), (1, 4, .tmp 26), (5, 3, .tmp 29)], none⟩,
    ⟨some 31, .bimm 8 [.int .i64 0, .int .u64 0, .int .i64 0, .int .i64 0, .int .i64 0, .bool false, .slice none 0 0, .slice none 0 0] 1 [(0, .tmp 30)], none⟩,
    ⟨some 32, .app 8 96 false (.tmp 24) (.tmp 31), none⟩,
    ⟨some 1, .mov (.tmp 32), none⟩] [(2, 4), (2, 5)]) (
 .seq (.seq (.reg [⟨some 33, .faddr 0 (.tmp 10), none⟩,
     ⟨some 34, .faddr 2 (.tmp 33), none⟩,
     ⟨some 35, .load none (.tmp 34), none⟩,
     ⟨some 36, .len (.tmp 35), none⟩,
     ⟨some 37, .mov (.const (.int .i64 0)), none⟩]) (
  .seq (.keep [1, 3, 4, 35, 36, 37] [4]) (.block 0 (.loop (.seq (.keep [1, 3, 4, 35, 36, 37] [4]) (.seq (.reg [⟨some 38, .bin .lss 0 3 (.tmp 37) (.tmp 36), none⟩]) (
    .seq (.cond (.tmp 38) (.skip) (.exit 0)) (
    .seq (.block 1 (.seq (.reg [⟨some 39, .iaddr 5 (.tmp 35) (.tmp 37), none⟩,
         ⟨some 40, .load (some 5) (.tmp 39), none⟩,
         ⟨some 13, .lalloc [.string ⟨#[]⟩, .int .u64 0, .int .i64 0, .int .i64 0, .int .i64 0], none⟩,
         ⟨none, .store (some 5) (.tmp 13) (.tmp 40), none⟩]) (
      .seq (.reg [⟨some 42, .load (some 1) (.tmp 4), none⟩,
         ⟨some 43, .mov (.tmp 1), none⟩,
         ⟨some 44, .faddr 1 (.tmp 13), none⟩,
         ⟨some 45, .load (some 4) (.tmp 44), none⟩,
         ⟨some 46, .mov (.tmp 3), none⟩,
         ⟨some 47, .bin .add 0 3 (.tmp 46) (.const (.int .i64 1)), none⟩,
         ⟨some 48, .call 58 [.tmp 42, .tmp 43, .tmp 45, .tmp 47], none⟩,
         ⟨some 41, .mov (.tmp 48), none⟩,
         ⟨some 49, .ext (.tmp 41) 0, none⟩,
         ⟨some 50, .ext (.tmp 41) 1, none⟩,
         ⟨some 1, .mov (.tmp 49), none⟩,
         ⟨some 11, .mov (.tmp 50), none⟩]) (
      .seq (.keep [1, 3, 4, 11, 35, 36, 37] [4]) (.seq (.reg [⟨some 51, .mov (.tmp 11), none⟩,
         ⟨some 52, .bin .neq 0 29 (.tmp 51) (.const (.int .i64 0)), none⟩]) (
      .cond (.tmp 52) (.seq (.reg [⟨some 53, .mov (.tmp 11), none⟩,
          ⟨some 8, .mov (.const (.slice none 0 0)), none⟩,
          ⟨some 9, .mov (.tmp 53), none⟩]) (
       .ret)) (.skip))))))) (
    .reg [⟨some 54, .bin .add 0 3 (.tmp 37) (.const (.int .i64 1)), none⟩,
      ⟨some 37, .mov (.tmp 54), none⟩]))))))))) (
 .seq (.reg [⟨some 55, .mov (.tmp 1), none⟩,
    ⟨some 8, .mov (.tmp 55), none⟩,
    ⟨some 9, .mov (.const (.int .i64 0)), none⟩]) (
 .ret)))))),
  [.tmp 8, .tmp 9]⟩
theorem m58 : mFn Try.prog 58 s58 = true := by kernel_rfl
def s59 : SFn := ⟨.seq (.reg [⟨some 4, .lbox (.tmp 0), none⟩,
    ⟨some 5, .lbox (.tmp 1), none⟩,
    ⟨some 8, .lalloc [.int .u64 0, .int .i64 0, .int .i64 0, .int .i64 0], none⟩,
    ⟨some 9, .mov (.const (.int .i64 0)), none⟩,
    ⟨some 10, .mov (.const (.int .i64 0)), none⟩]) (
 .seq (.reg [⟨some 21, .load (some 1) (.tmp 4), none⟩,
    ⟨some 22, .load (some 4) (.tmp 5), none⟩,
    ⟨some 23, .mov (.tmp 3), none⟩,
    ⟨some 24, .call 83 [.tmp 21, .tmp 22, .tmp 23], none⟩,
    ⟨some 20, .mov (.tmp 24), none⟩,
    ⟨some 25, .ext (.tmp 20) 0, none⟩,
    ⟨some 26, .ext (.tmp 20) 1, none⟩,
    ⟨some 11, .lalloc [.bool false, .slice none 0 0, .slice none 0 0], none⟩,
    ⟨none, .store (some 3) (.tmp 11) (.tmp 25), none⟩,
    ⟨some 12, .mov (.tmp 26), none⟩]) (
 .seq (.keep [2, 3, 4, 5, 8, 11, 12] [4, 5, 8, 11]) (.seq (.seq (.reg [⟨some 27, .mov (.tmp 12), none⟩,
     ⟨some 28, .bin .neq 0 29 (.tmp 27) (.const (.int .i64 0)), none⟩]) (
  .cond (.tmp 28) (.seq (.reg [⟨some 29, .build [.int .u64 0, .int .i64 0, .int .i64 0, .int .i64 0] [], none⟩,
      ⟨some 30, .mov (.tmp 12), none⟩,
      ⟨none, .store (some 4) (.tmp 8) (.tmp 29), none⟩,
      ⟨some 9, .mov (.const (.int .i64 0)), none⟩,
      ⟨some 10, .mov (.tmp 30), none⟩]) (
   .ret)) (.skip))) (
 .seq (.reg [⟨some 13, .mov (.const (.int .i64 0)), none⟩]) (
 .seq (.seq (.reg [⟨some 31, .faddr 0 (.tmp 11), none⟩,
     ⟨some 32, .faddr 2 (.tmp 31), none⟩,
     ⟨some 33, .load none (.tmp 32), none⟩,
     ⟨some 34, .len (.tmp 33), none⟩,
     ⟨some 35, .mov (.const (.int .i64 0)), none⟩]) (
  .block 0 (.loop (.seq (.keep [2, 3, 4, 5, 8, 11, 13, 33, 34, 35] [4, 5, 8, 11]) (.seq (.reg [⟨some 36, .bin .lss 0 3 (.tmp 35) (.tmp 34), none⟩]) (
    .seq (.cond (.tmp 36) (.skip) (.exit 0)) (
    .seq (.block 1 (.seq (.reg [⟨some 37, .mov (.tmp 35), none⟩,
         ⟨some 38, .iaddr 5 (.tmp 33) (.tmp 35), none⟩,
         ⟨some 39, .load (some 5) (.tmp 38), none⟩,
         ⟨some 15, .lalloc [.string ⟨#[]⟩, .int .u64 0, .int .i64 0, .int .i64 0, .int .i64 0], none⟩,
         ⟨some 14, .mov (.tmp 37), none⟩,
         ⟨none, .store (some 5) (.tmp 15) (.tmp 39), none⟩]) (
      .seq (.reg [⟨some 41, .load (some 1) (.tmp 4), none⟩,
         ⟨some 42, .faddr 1 (.tmp 15), none⟩,
         ⟨some 43, .load (some 4) (.tmp 42), none⟩,
         ⟨some 44, .mov (.tmp 2), none⟩,
         ⟨some 45, .mov (.tmp 3), none⟩,
         ⟨some 46, .bin .add 0 3 (.tmp 45) (.const (.int .i64 1)), none⟩,
         ⟨some 47, .call 59 [.tmp 41, .tmp 43, .tmp 44, .tmp 46], none⟩,
         ⟨some 40, .mov (.tmp 47), none⟩,
         ⟨some 48, .ext (.tmp 40) 0, none⟩,
         ⟨some 49, .ext (.tmp 40) 1, none⟩,
         ⟨some 50, .ext (.tmp 40) 2, none⟩,
         ⟨some 16, .lalloc [.int .u64 0, .int .i64 0, .int .i64 0, .int .i64 0], none⟩,
         ⟨none, .store (some 4) (.tmp 16) (.tmp 48), none⟩,
         ⟨some 17, .mov (.tmp 49), none⟩,
         ⟨some 18, .mov (.tmp 50), none⟩]) (
      .seq (.keep [2, 3, 4, 5, 8, 11, 13, 14, 16, 17, 18, 33, 34, 35] [4, 5, 8, 11, 16]) (.seq (.seq (.reg [⟨some 51, .mov (.tmp 18), none⟩,
          ⟨some 52, .bin .neq 0 29 (.tmp 51) (.const (.int .i64 0)), none⟩]) (
       .cond (.tmp 52) (.seq (.reg [⟨some 53, .build [.int .u64 0, .int .i64 0, .int .i64 0, .int .i64 0] [], none⟩,
           ⟨some 54, .mov (.tmp 18), none⟩,
           ⟨none, .store (some 4) (.tmp 8) (.tmp 53), none⟩,
           ⟨some 9, .mov (.const (.int .i64 0)), none⟩,
           ⟨some 10, .mov (.tmp 54), none⟩]) (
        .ret)) (.skip))) (
      .seq (.reg [⟨some 55, .faddr 0 (.tmp 11), none⟩,
         ⟨some 56, .faddr 2 (.tmp 55), none⟩,
         ⟨some 57, .load none (.tmp 56), none⟩,
         ⟨some 58, .mov (.tmp 14), none⟩,
         ⟨some 59, .load (some 4) (.tmp 16), none⟩,
         ⟨some 60, .iaddr 5 (.tmp 57) (.tmp 58), none⟩,
         ⟨some 61, .faddr 1 (.tmp 60), none⟩,
         ⟨none, .store (some 4) (.tmp 61) (.tmp 59), none⟩]) (
      .seq (.keep [2, 3, 4, 5, 8, 11, 13, 17, 33, 34, 35] [4, 5, 8, 11]) (.reg [⟨some 62, .mov (.tmp 13), none⟩,
        ⟨some 63, .mov (.tmp 17), none⟩,
        ⟨some 64, .bin .add 0 3 (.tmp 62) (.tmp 63), none⟩,
        ⟨some 13, .mov (.tmp 64), none⟩])))))))) (
    .reg [⟨some 65, .bin .add 0 3 (.tmp 35) (.const (.int .i64 1)), none⟩,
      ⟨some 35, .mov (.tmp 65), none⟩])))))))) (
 .seq (.seq (.reg [⟨some 66, .mov (.tmp 13), none⟩,
     ⟨some 67, .bin .eql 0 3 (.tmp 66) (.const (.int .i64 0)), none⟩,
     ⟨some 68, .mov (.tmp 67), none⟩,
     ⟨some 69, .mov (.tmp 2), some (68, true)⟩,
     ⟨some 70, .faddr 1 (.tmp 5), some (68, true)⟩,
     ⟨some 71, .load none (.tmp 70), some (68, true)⟩,
     ⟨some 72, .call 100 [.tmp 69, .tmp 71], some (68, true)⟩,
     ⟨some 73, .un .not (.tmp 72), some (68, true)⟩,
     ⟨some 74, .pick (.tmp 68) (.tmp 73) (.const (.bool false)), none⟩]) (
  .seq (.keep [4, 5, 8, 11, 13, 74] [4, 5, 8, 11]) (.cond (.tmp 74) (.seq (.reg [⟨some 75, .load (some 4) (.tmp 5), none⟩,
      ⟨none, .store (some 4) (.tmp 8) (.tmp 75), none⟩,
      ⟨some 9, .mov (.const (.int .i64 0)), none⟩,
      ⟨some 10, .mov (.const (.int .i64 0)), none⟩]) (
   .ret)) (.skip)))) (
 .seq (.reg [⟨some 77, .faddr 0 (.tmp 4), none⟩,
    ⟨some 78, .load none (.tmp 77), none⟩,
    ⟨some 79, .faddr 0 (.tmp 11), none⟩,
    ⟨some 80, .load (some 3) (.tmp 79), none⟩,
    ⟨some 81, .inv (.tmp 78) [(24, 160)] [.tmp 80], none⟩,
    ⟨some 76, .mov (.tmp 81), none⟩,
    ⟨some 82, .ext (.tmp 76) 0, none⟩,
    ⟨some 83, .ext (.tmp 76) 1, none⟩,
    ⟨some 19, .lalloc [.int .u64 0, .int .i64 0, .int .i64 0, .int .i64 0], none⟩,
    ⟨none, .store (some 4) (.tmp 19) (.tmp 82), none⟩,
    ⟨some 12, .mov (.tmp 83), none⟩]) (
 .seq (.keep [8, 12, 13, 19] [8, 19]) (.seq (.seq (.reg [⟨some 84, .mov (.tmp 12), none⟩,
     ⟨some 85, .bin .neq 0 29 (.tmp 84) (.const (.int .i64 0)), none⟩]) (
  .cond (.tmp 85) (.seq (.reg [⟨some 86, .build [.int .u64 0, .int .i64 0, .int .i64 0, .int .i64 0] [], none⟩,
      ⟨some 87, .mov (.tmp 12), none⟩,
      ⟨none, .store (some 4) (.tmp 8) (.tmp 86), none⟩,
      ⟨some 9, .mov (.const (.int .i64 0)), none⟩,
      ⟨some 10, .mov (.tmp 87), none⟩]) (
   .ret)) (.skip))) (
 .seq (.reg [⟨some 88, .load (some 4) (.tmp 19), none⟩,
    ⟨some 89, .mov (.tmp 13), none⟩,
    ⟨some 90, .bin .add 0 3 (.tmp 89) (.const (.int .i64 1)), none⟩,
    ⟨none, .store (some 4) (.tmp 8) (.tmp 88), none⟩,
    ⟨some 9, .mov (.tmp 90), none⟩,
    ⟨some 10, .mov (.const (.int .i64 0)), none⟩]) (
 .ret))))))))))),
  [.cell 8 (some 4), .tmp 9, .tmp 10]⟩
theorem m59 : mFn Try.prog 59 s59 = true := by kernel_rfl
def s64 : SFn := ⟨.seq (.reg [⟨some 4, .mov (.const (.bool false)), none⟩]) (
 .seq (.seq (.reg [⟨some 6, .mov (.tmp 0), none⟩,
     ⟨some 7, .len (.tmp 6), none⟩,
     ⟨some 8, .mov (.tmp 1), none⟩,
     ⟨some 9, .len (.tmp 8), none⟩,
     ⟨some 10, .bin .neq 0 3 (.tmp 7) (.tmp 9), none⟩]) (
  .cond (.tmp 10) (.seq (.reg [⟨some 4, .mov (.const (.bool false)), none⟩]) (
   .ret)) (.skip))) (
 .seq (.seq (.reg [⟨some 11, .mov (.tmp 0), none⟩,
     ⟨some 12, .len (.tmp 11), none⟩,
     ⟨some 13, .mov (.const (.int .i64 0)), none⟩]) (
  .block 0 (.loop (.seq (.keep [0, 1, 12, 13] []) (.seq (.reg [⟨some 14, .bin .lss 0 3 (.tmp 13) (.tmp 12), none⟩]) (
    .seq (.cond (.tmp 14) (.skip) (.exit 0)) (
    .seq (.block 1 (.seq (.reg [⟨some 15, .mov (.tmp 13), none⟩,
         ⟨some 5, .mov (.tmp 15), none⟩]) (
      .seq (.dreg [⟨some 16, .mov (.tmp 0), none⟩,
         ⟨some 17, .mov (.tmp 5), none⟩,
         ⟨some 18, .iaddr 3 (.tmp 16) (.tmp 17), none⟩,
         ⟨some 19, .load (some 3) (.tmp 18), none⟩,
         ⟨some 20, .mov (.tmp 1), none⟩,
         ⟨some 21, .mov (.tmp 5), none⟩,
         ⟨some 22, .iaddr 3 (.tmp 20) (.tmp 21), none⟩,
         ⟨some 23, .load (some 3) (.tmp 22), none⟩,
         ⟨some 24, .bin .neq 0 128 (.tmp 19) (.tmp 23), none⟩] [(3, 7)]) (
      .cond (.tmp 24) (.seq (.reg [⟨some 4, .mov (.const (.bool false)), none⟩]) (
       .ret)) (.skip))))) (
    .reg [⟨some 25, .bin .add 0 3 (.tmp 13) (.const (.int .i64 1)), none⟩,
      ⟨some 13, .mov (.tmp 25), none⟩])))))))) (
 .seq (.keep [] []) (.seq (.reg [⟨some 4, .mov (.const (.bool true)), none⟩]) (
 .ret))))),
  [.tmp 4]⟩
theorem m64 : mFn Try.prog 64 s64 = true := by kernel_rfl
def s71 : SFn := ⟨.seq (.reg [⟨some 6, .mov (.const (.string ⟨#[]⟩)), none⟩,
    ⟨some 7, .mov (.const (.int .i64 0)), none⟩,
    ⟨some 8, .mov (.const (.bool false)), none⟩]) (
 .seq (.reg [⟨some 18, .mov (.tmp 0), none⟩,
    ⟨some 19, .mov (.tmp 1), none⟩,
    ⟨some 20, .iaddr 8 (.tmp 18) (.tmp 19), none⟩,
    ⟨some 21, .load (some 8) (.tmp 20), none⟩,
    ⟨some 9, .lalloc [.int .i64 0, .int .u64 0, .int .i64 0, .int .i64 0, .int .i64 0, .bool false, .slice none 0 0, .slice none 0 0], none⟩,
    ⟨none, .store (some 8) (.tmp 9) (.tmp 21), none⟩]) (
 .seq (.reg [⟨some 22, .faddr 5 (.tmp 9), none⟩,
    ⟨some 23, .load (some 3) (.tmp 22), none⟩,
    ⟨some 10, .lalloc [.bool false, .slice none 0 0, .slice none 0 0], none⟩,
    ⟨none, .store (some 3) (.tmp 10) (.tmp 23), none⟩]) (
 .seq (.seq (.reg [⟨some 24, .faddr 0 (.tmp 10), none⟩,
     ⟨some 25, .load none (.tmp 24), none⟩]) (
  .seq (.keep [0, 1, 2, 9, 10, 25] [9, 10]) (.cond (.tmp 25) (.seq (.reg [⟨some 11, .mov (.const (.string ⟨#[]⟩)), none⟩]) (
   .seq (.seq (.reg [⟨some 26, .faddr 1 (.tmp 10), none⟩,
       ⟨some 27, .load none (.tmp 26), none⟩,
       ⟨some 28, .len (.tmp 27), none⟩,
       ⟨some 29, .bin .gtr 0 3 (.tmp 28) (.const (.int .i64 0)), none⟩]) (
    .cond (.tmp 29) (.reg [⟨some 30, .faddr 1 (.tmp 10), none⟩,
       ⟨some 31, .load none (.tmp 30), none⟩,
       ⟨some 32, .iaddr 2 (.tmp 31) (.const (.int .i64 0)), none⟩,
       ⟨some 33, .faddr 0 (.tmp 32), none⟩,
       ⟨some 34, .load none (.tmp 33), none⟩,
       ⟨some 11, .mov (.tmp 34), none⟩]) (.skip))) (
   .seq (.dreg [⟨some 35, .mov (.tmp 11), none⟩,
      ⟨some 36, .mov (.tmp 1), none⟩,
      ⟨some 37, .bin .add 0 3 (.tmp 36) (.const (.int .i64 1)), none⟩,
      ⟨some 38, .faddr 0 (.tmp 9), none⟩,
      ⟨some 39, .load none (.tmp 38), none⟩,
      ⟨some 40, .mov (.tmp 2), none⟩,
      ⟨some 41, .bin .eql 0 3 (.tmp 39) (.tmp 40), none⟩,
      ⟨some 42, .mov (.tmp 41), none⟩,
      ⟨some 43, .faddr 2 (.tmp 10), some (42, true)⟩,
      ⟨some 44, .load none (.tmp 43), some (42, true)⟩,
      ⟨some 45, .len (.tmp 44), some (42, true)⟩,
      ⟨some 46, .bin .eql 0 3 (.tmp 45) (.const (.int .i64 0)), some (42, true)⟩,
      ⟨some 47, .pick (.tmp 42) (.tmp 46) (.const (.bool false)), none⟩,
      ⟨some 48, .mov (.tmp 47), none⟩,
      ⟨some 49, .faddr 1 (.tmp 10), some (48, true)⟩,
      ⟨some 50, .load none (.tmp 49), some (48, true)⟩,
      ⟨some 51, .len (.tmp 50), some (48, true)⟩,
      ⟨some 52, .bin .leq 0 3 (.tmp 51) (.const (.int .i64 4)), some (48, true)⟩,
      ⟨some 53, .pick (.tmp 48) (.tmp 52) (.const (.bool false)), none⟩,
      ⟨some 54, .mov (.tmp 53), none⟩,
      ⟨some 55, .faddr 0 (.tmp 9), some (54, true)⟩,
      ⟨some 56, .load none (.tmp 55), some (54, true)⟩,
      ⟨some 57, .bin .eql 0 3 (.tmp 56) (.const (.int .i64 1)), some (54, true)⟩,
      ⟨some 58, .mov (.tmp 57), some (54, true)⟩,
      ⟨some 59, .faddr 1 (.tmp 10), some (58, false)⟩,
      ⟨some 60, .load none (.tmp 59), some (58, false)⟩,
      ⟨some 61, .len (.tmp 60), some (58, false)⟩,
      ⟨some 62, .bin .geq 0 3 (.tmp 61) (.const (.int .i64 2)), some (58, false)⟩,
      ⟨some 63, .pick (.tmp 58) (.const (.bool true)) (.tmp 62), some (54, true)⟩,
      ⟨some 64, .pick (.tmp 54) (.tmp 63) (.const (.bool false)), none⟩,
      ⟨some 6, .mov (.tmp 35), none⟩,
      ⟨some 7, .mov (.tmp 37), none⟩,
      ⟨some 8, .mov (.tmp 64), none⟩] []) (
   .ret)))) (.skip)))) (
 .seq (.keep [0, 1, 2, 9, 10] [9, 10]) (.seq (.seq (.reg [⟨some 65, .faddr 2 (.tmp 10), none⟩,
     ⟨some 66, .load none (.tmp 65), none⟩,
     ⟨some 67, .len (.tmp 66), none⟩,
     ⟨some 68, .bin .lss 0 3 (.tmp 67) (.const (.int .i64 2)), none⟩,
     ⟨some 69, .mov (.tmp 68), none⟩,
     ⟨some 70, .faddr 2 (.tmp 10), some (69, false)⟩,
     ⟨some 71, .load none (.tmp 70), some (69, false)⟩,
     ⟨some 72, .len (.tmp 71), some (69, false)⟩,
     ⟨some 73, .bin .gtr 0 3 (.tmp 72) (.const (.int .i64 4)), some (69, false)⟩,
     ⟨some 74, .pick (.tmp 69) (.const (.bool true)) (.tmp 73), none⟩,
     ⟨some 75, .mov (.tmp 74), none⟩,
     ⟨some 76, .faddr 1 (.tmp 10), some (75, false)⟩,
     ⟨some 77, .load none (.tmp 76), some (75, false)⟩,
     ⟨some 78, .len (.tmp 77), some (75, false)⟩,
     ⟨some 79, .bin .gtr 0 3 (.tmp 78) (.const (.int .i64 0)), some (75, false)⟩,
     ⟨some 80, .pick (.tmp 75) (.const (.bool true)) (.tmp 79), none⟩]) (
  .seq (.keep [0, 1, 2, 9, 10, 80] [9, 10]) (.cond (.tmp 80) (.seq (.reg [⟨some 81, .mov (.tmp 1), none⟩,
      ⟨some 6, .mov (.const (.string ⟨#[]⟩)), none⟩,
      ⟨some 7, .mov (.tmp 81), none⟩,
      ⟨some 8, .mov (.const (.bool false)), none⟩]) (
   .ret)) (.skip)))) (
 .seq (.reg [⟨some 82, .mov (.tmp 1), none⟩,
    ⟨some 83, .bin .add 0 3 (.tmp 82) (.const (.int .i64 1)), none⟩,
    ⟨some 12, .mov (.tmp 83), none⟩]) (
 .seq (.seq (.reg [⟨some 84, .faddr 2 (.tmp 10), none⟩,
     ⟨some 85, .load none (.tmp 84), none⟩,
     ⟨some 86, .len (.tmp 85), none⟩,
     ⟨some 87, .mov (.const (.int .i64 0)), none⟩]) (
  .block 0 (.loop (.seq (.keep [0, 1, 2, 9, 10, 12, 85, 86, 87] [9, 10]) (.seq (.reg [⟨some 88, .bin .lss 0 3 (.tmp 87) (.tmp 86), none⟩]) (
    .seq (.cond (.tmp 88) (.skip) (.exit 0)) (
    .seq (.block 1 (.seq (.reg [⟨some 89, .mov (.tmp 87), none⟩,
         ⟨some 90, .iaddr 5 (.tmp 85) (.tmp 87), none⟩,
         ⟨some 91, .load (some 5) (.tmp 90), none⟩,
         ⟨some 14, .lalloc [.string ⟨#[]⟩, .int .u64 0, .int .i64 0, .int .i64 0, .int .i64 0], none⟩,
         ⟨some 13, .mov (.tmp 89), none⟩,
         ⟨none, .store (some 5) (.tmp 14) (.tmp 91), none⟩]) (
      .seq (.seq (.dreg [⟨some 92, .mov (.tmp 12), none⟩,
          ⟨some 93, .mov (.tmp 0), none⟩,
          ⟨some 94, .len (.tmp 93), none⟩,
          ⟨some 95, .bin .geq 0 3 (.tmp 92) (.tmp 94), none⟩,
          ⟨some 96, .mov (.tmp 95), none⟩,
          ⟨some 97, .mov (.tmp 0), some (96, false)⟩,
          ⟨some 98, .mov (.tmp 12), some (96, false)⟩,
          ⟨some 99, .iaddr 8 (.tmp 97) (.tmp 98), some (96, false)⟩,
          ⟨some 100, .faddr 1 (.tmp 99), some (96, false)⟩,
          ⟨some 101, .load (some 4) (.tmp 100), some (96, false)⟩,
          ⟨some 102, .faddr 1 (.tmp 14), some (96, false)⟩,
          ⟨some 103, .load (some 4) (.tmp 102), some (96, false)⟩,
          ⟨some 104, .bin .neq 0 28 (.tmp 101) (.tmp 103), some (96, false)⟩,
          ⟨some 105, .pick (.tmp 96) (.const (.bool true)) (.tmp 104), none⟩,
          ⟨some 106, .mov (.tmp 105), none⟩,
          ⟨some 107, .mov (.tmp 0), some (106, false)⟩,
          ⟨some 108, .mov (.tmp 12), some (106, false)⟩,
          ⟨some 109, .iaddr 8 (.tmp 107) (.tmp 108), some (106, false)⟩,
          ⟨some 110, .faddr 0 (.tmp 109), some (106, false)⟩,
          ⟨some 111, .load none (.tmp 110), some (106, false)⟩,
          ⟨some 112, .faddr 0 (.tmp 9), some (106, false)⟩,
          ⟨some 113, .load none (.tmp 112), some (106, false)⟩,
          ⟨some 114, .bin .add 0 3 (.tmp 113) (.const (.int .i64 1)), some (106, false)⟩,
          ⟨some 115, .bin .neq 0 3 (.tmp 111) (.tmp 114), some (106, false)⟩,
          ⟨some 116, .pick (.tmp 106) (.const (.bool true)) (.tmp 115), none⟩,
          ⟨some 117, .mov (.tmp 116), none⟩,
          ⟨some 118, .mov (.tmp 13), some (117, false)⟩,
          ⟨some 119, .bin .gtr 0 3 (.tmp 118) (.const (.int .i64 0)), some (117, false)⟩,
          ⟨some 120, .mov (.tmp 119), some (117, false)⟩,
          ⟨some 121, .faddr 2 (.tmp 10), some (120, true)⟩,
          ⟨some 122, .load none (.tmp 121), some (120, true)⟩,
          ⟨some 123, .mov (.tmp 13), some (120, true)⟩,
          ⟨some 124, .bin .sub 0 3 (.tmp 123) (.const (.int .i64 1)), some (120, true)⟩,
          ⟨some 125, .iaddr 5 (.tmp 122) (.tmp 124), some (120, true)⟩,
          ⟨some 126, .faddr 0 (.tmp 125), some (120, true)⟩,
          ⟨some 127, .load none (.tmp 126), some (120, true)⟩,
          ⟨some 128, .faddr 0 (.tmp 14), some (120, true)⟩,
          ⟨some 129, .load none (.tmp 128), some (120, true)⟩,
          ⟨some 130, .bin .geq 0 9 (.tmp 127) (.tmp 129), some (120, true)⟩,
          ⟨some 131, .pick (.tmp 120) (.tmp 130) (.const (.bool false)), some (117, false)⟩,
          ⟨some 132, .pick (.tmp 117) (.const (.bool true)) (.tmp 131), none⟩] [(9, 11), (19, 21), (30, 37), (35, 37)]) (
       .seq (.keep [0, 1, 2, 9, 10, 12, 14, 85, 86, 87, 132] [9, 10, 14]) (.cond (.tmp 132) (.seq (.reg [⟨some 133, .mov (.tmp 1), none⟩,
           ⟨some 6, .mov (.const (.string ⟨#[]⟩)), none⟩,
           ⟨some 7, .mov (.tmp 133), none⟩,
           ⟨some 8, .mov (.const (.bool false)), none⟩]) (
        .ret)) (.skip)))) (
      .seq (.reg [⟨some 135, .mov (.tmp 0), none⟩,
         ⟨some 136, .mov (.tmp 12), none⟩,
         ⟨some 137, .mov (.tmp 2), none⟩,
         ⟨some 138, .call 71 [.tmp 135, .tmp 136, .tmp 137], none⟩,
         ⟨some 134, .mov (.tmp 138), none⟩,
         ⟨some 139, .ext (.tmp 134) 0, none⟩,
         ⟨some 140, .ext (.tmp 134) 1, none⟩,
         ⟨some 141, .ext (.tmp 134) 2, none⟩,
         ⟨some 15, .mov (.tmp 139), none⟩,
         ⟨some 16, .mov (.tmp 140), none⟩,
         ⟨some 17, .mov (.tmp 141), none⟩]) (
      .seq (.keep [0, 1, 2, 9, 10, 14, 15, 16, 17, 85, 86, 87] [9, 10, 14]) (.seq (.seq (.reg [⟨some 142, .mov (.tmp 17), none⟩,
          ⟨some 143, .un .not (.tmp 142), none⟩,
          ⟨some 144, .mov (.tmp 143), none⟩,
          ⟨some 145, .mov (.tmp 15), some (144, false)⟩,
          ⟨some 146, .faddr 0 (.tmp 14), some (144, false)⟩,
          ⟨some 147, .load none (.tmp 146), some (144, false)⟩,
          ⟨some 148, .bin .neq 0 9 (.tmp 145) (.tmp 147), some (144, false)⟩,
          ⟨some 149, .pick (.tmp 144) (.const (.bool true)) (.tmp 148), none⟩]) (
       .cond (.tmp 149) (.seq (.reg [⟨some 150, .mov (.tmp 1), none⟩,
           ⟨some 6, .mov (.const (.string ⟨#[]⟩)), none⟩,
           ⟨some 7, .mov (.tmp 150), none⟩,
           ⟨some 8, .mov (.const (.bool false)), none⟩]) (
        .ret)) (.skip))) (
      .reg [⟨some 151, .mov (.tmp 16), none⟩,
        ⟨some 12, .mov (.tmp 151), none⟩]))))))) (
    .reg [⟨some 152, .bin .add 0 3 (.tmp 87) (.const (.int .i64 1)), none⟩,
      ⟨some 87, .mov (.tmp 152), none⟩])))))))) (
 .seq (.keep [10, 12] [10]) (.seq (.reg [⟨some 153, .faddr 2 (.tmp 10), none⟩,
    ⟨some 154, .load none (.tmp 153), none⟩,
    ⟨some 155, .iaddr 5 (.tmp 154) (.const (.int .i64 0)), none⟩,
    ⟨some 156, .faddr 0 (.tmp 155), none⟩,
    ⟨some 157, .load none (.tmp 156), none⟩,
    ⟨some 158, .mov (.tmp 12), none⟩,
    ⟨some 6, .mov (.tmp 157), none⟩,
    ⟨some 7, .mov (.tmp 158), none⟩,
    ⟨some 8, .mov (.const (.bool true)), none⟩]) (
 .ret)))))))))),
  [.tmp 6, .tmp 7, .tmp 8]⟩
theorem m71 : mFn Try.prog 71 s71 = true := by kernel_rfl
def s72 : SFn := ⟨.seq (.reg [⟨some 4, .lbox (.tmp 0), none⟩,
    ⟨some 5, .lbox (.tmp 1), none⟩,
    ⟨some 8, .lalloc [.bool false, .slice none 0 0, .slice none 0 0], none⟩,
    ⟨some 9, .mov (.const (.bool false)), none⟩,
    ⟨some 10, .mov (.const (.int .i64 0)), none⟩]) (
 .seq (.reg [⟨some 23, .load (some 1) (.tmp 4), none⟩,
    ⟨some 24, .load (some 4) (.tmp 5), none⟩,
    ⟨some 25, .mov (.tmp 3), none⟩,
    ⟨some 26, .call 83 [.tmp 23, .tmp 24, .tmp 25], none⟩,
    ⟨some 22, .mov (.tmp 26), none⟩,
    ⟨some 27, .ext (.tmp 22) 0, none⟩,
    ⟨some 28, .ext (.tmp 22) 1, none⟩,
    ⟨some 11, .lalloc [.bool false, .slice none 0 0, .slice none 0 0], none⟩,
    ⟨none, .store (some 3) (.tmp 11) (.tmp 27), none⟩,
    ⟨some 12, .mov (.tmp 28), none⟩]) (
 .seq (.keep [2, 3, 4, 8, 11, 12] [4, 8, 11]) (.seq (.seq (.reg [⟨some 29, .mov (.tmp 12), none⟩,
     ⟨some 30, .bin .neq 0 29 (.tmp 29) (.const (.int .i64 0)), none⟩]) (
  .cond (.tmp 30) (.seq (.reg [⟨some 31, .build [.bool false, .slice none 0 0, .slice none 0 0] [], none⟩,
      ⟨some 32, .mov (.tmp 12), none⟩,
      ⟨none, .store (some 3) (.tmp 8) (.tmp 31), none⟩,
      ⟨some 9, .mov (.const (.bool false)), none⟩,
      ⟨some 10, .mov (.tmp 32), none⟩]) (
   .ret)) (.skip))) (
 .seq (.seq (.reg [⟨some 33, .faddr 0 (.tmp 11), none⟩,
     ⟨some 34, .faddr 0 (.tmp 33), none⟩,
     ⟨some 35, .load none (.tmp 34), none⟩]) (
  .cond (.tmp 35) (.seq (.reg [⟨some 37, .load (some 3) (.tmp 11), none⟩,
      ⟨some 38, .mov (.tmp 2), none⟩,
      ⟨some 39, .call 85 [.tmp 37, .tmp 38], none⟩,
      ⟨some 36, .mov (.tmp 39), none⟩,
      ⟨some 40, .ext (.tmp 36) 0, none⟩,
      ⟨some 41, .ext (.tmp 36) 1, none⟩,
      ⟨some 13, .mov (.tmp 40), none⟩,
      ⟨some 14, .mov (.tmp 41), none⟩]) (
   .seq (.keep [8, 11, 13, 14] [8, 11]) (.seq (.seq (.reg [⟨some 42, .mov (.tmp 14), none⟩]) (
    .cond (.tmp 42) (.reg [⟨some 43, .faddr 0 (.tmp 11), none⟩,
       ⟨some 44, .faddr 1 (.tmp 43), none⟩,
       ⟨some 45, .load none (.tmp 44), none⟩,
       ⟨some 46, .mov (.tmp 13), none⟩,
       ⟨some 47, .mov (.tmp 13), none⟩,
       ⟨some 48, .bin .add 0 3 (.tmp 47) (.const (.int .i64 1)), none⟩,
       ⟨some 49, .call 105 [.tmp 45, .tmp 46, .tmp 48], none⟩,
       ⟨some 50, .faddr 0 (.tmp 11), none⟩,
       ⟨some 51, .faddr 1 (.tmp 50), none⟩,
       ⟨none, .store none (.tmp 51) (.tmp 49), none⟩]) (.skip))) (
   .seq (.reg [⟨some 52, .load (some 3) (.tmp 11), none⟩,
      ⟨some 53, .mov (.tmp 14), none⟩,
      ⟨none, .store (some 3) (.tmp 8) (.tmp 52), none⟩,
      ⟨some 9, .mov (.tmp 53), none⟩,
      ⟨some 10, .mov (.const (.int .i64 0)), none⟩]) (
   .ret))))) (.skip))) (
 .seq (.keep [2, 3, 4, 8, 11] [4, 8, 11]) (.seq (.reg [⟨some 54, .load (some 3) (.tmp 11), none⟩,
    ⟨some 55, .mov (.tmp 2), none⟩,
    ⟨some 56, .call 84 [.tmp 54, .tmp 55], none⟩,
    ⟨some 15, .mov (.tmp 56), none⟩]) (
 .seq (.dreg [⟨some 58, .load (some 1) (.tmp 4), none⟩,
    ⟨some 59, .faddr 0 (.tmp 11), none⟩,
    ⟨some 60, .faddr 2 (.tmp 59), none⟩,
    ⟨some 61, .load none (.tmp 60), none⟩,
    ⟨some 62, .mov (.tmp 15), none⟩,
    ⟨some 63, .iaddr 5 (.tmp 61) (.tmp 62), none⟩,
    ⟨some 64, .faddr 1 (.tmp 63), none⟩,
    ⟨some 65, .load (some 4) (.tmp 64), none⟩,
    ⟨some 66, .mov (.tmp 2), none⟩,
    ⟨some 67, .mov (.tmp 3), none⟩,
    ⟨some 68, .bin .add 0 3 (.tmp 67) (.const (.int .i64 1)), none⟩,
    ⟨some 69, .call 72 [.tmp 58, .tmp 65, .tmp 66, .tmp 68], none⟩,
    ⟨some 57, .mov (.tmp 69), none⟩,
    ⟨some 70, .ext (.tmp 57) 0, none⟩,
    ⟨some 71, .ext (.tmp 57) 1, none⟩,
    ⟨some 72, .ext (.tmp 57) 2, none⟩,
    ⟨some 16, .lalloc [.bool false, .slice none 0 0, .slice none 0 0], none⟩,
    ⟨none, .store (some 3) (.tmp 16) (.tmp 70), none⟩,
    ⟨some 17, .mov (.tmp 71), none⟩,
    ⟨some 12, .mov (.tmp 72), none⟩] [(0, 3), (0, 7), (0, 16), (3, 16), (7, 16), (11, 16)]) (
 .seq (.keep [3, 4, 8, 11, 12, 15, 16, 17] [4, 8, 11, 16]) (.seq (.seq (.reg [⟨some 73, .mov (.tmp 12), none⟩,
     ⟨some 74, .bin .neq 0 29 (.tmp 73) (.const (.int .i64 0)), none⟩,
     ⟨some 75, .mov (.tmp 74), none⟩,
     ⟨some 76, .mov (.tmp 17), some (75, false)⟩,
     ⟨some 77, .un .not (.tmp 76), some (75, false)⟩,
     ⟨some 78, .pick (.tmp 75) (.const (.bool true)) (.tmp 77), none⟩]) (
  .cond (.tmp 78) (.seq (.reg [⟨some 79, .build [.bool false, .slice none 0 0, .slice none 0 0] [], none⟩,
      ⟨some 80, .mov (.tmp 12), none⟩,
      ⟨none, .store (some 3) (.tmp 8) (.tmp 79), none⟩,
      ⟨some 9, .mov (.const (.bool false)), none⟩,
      ⟨some 10, .mov (.tmp 80), none⟩]) (
   .ret)) (.skip))) (
 .seq (.reg [⟨some 81, .mov (.tmp 15), none⟩,
    ⟨some 82, .mov (.tmp 15), none⟩,
    ⟨some 83, .bin .add 0 3 (.tmp 82) (.const (.int .i64 1)), none⟩,
    ⟨some 18, .mov (.tmp 81), none⟩,
    ⟨some 19, .mov (.tmp 83), none⟩]) (
 .seq (.keep [3, 4, 8, 11, 12, 15, 16, 18, 19] [4, 8, 11, 16]) (.seq (.reg [⟨some 84, .load (some 3) (.tmp 16), none⟩,
    ⟨some 85, .bslice 3 [.bool false, .slice none 0 0, .slice none 0 0] 1 [(0, .tmp 84)], none⟩,
    ⟨some 20, .mov (.tmp 85), none⟩]) (
 .seq (.seq (.reg [⟨some 86, .load (some 3) (.tmp 16), none⟩,
     ⟨some 87, .call 96 [.tmp 86], none⟩,
     ⟨some 88, .bin .lss 0 3 (.tmp 87) (.const (.int .i64 2)), none⟩,
     ⟨some 89, .mov (.tmp 88), none⟩,
     ⟨some 90, .faddr 0 (.tmp 11), some (89, true)⟩,
     ⟨some 91, .faddr 2 (.tmp 90), some (89, true)⟩,
     ⟨some 92, .load none (.tmp 91), some (89, true)⟩,
     ⟨some 93, .len (.tmp 92), some (89, true)⟩,
     ⟨some 94, .bin .gtr 0 3 (.tmp 93) (.const (.int .i64 1)), some (89, true)⟩,
     ⟨some 95, .pick (.tmp 89) (.tmp 94) (.const (.bool false)), none⟩]) (
  .cond (.tmp 95) (.seq (.reg [⟨some 96, .mov (.tmp 15), none⟩,
      ⟨some 97, .faddr 0 (.tmp 11), none⟩,
      ⟨some 98, .faddr 2 (.tmp 97), none⟩,
      ⟨some 99, .load none (.tmp 98), none⟩,
      ⟨some 100, .len (.tmp 99), none⟩,
      ⟨some 101, .bin .sub 0 3 (.tmp 100) (.const (.int .i64 2)), none⟩,
      ⟨some 102, .mn (.tmp 96) (.tmp 101), none⟩,
      ⟨some 18, .mov (.tmp 102), none⟩]) (
   .seq (.keep [3, 4, 8, 11, 15, 16, 18] [4, 8, 11, 16]) (.seq (.reg [⟨some 103, .mov (.tmp 18), none⟩,
      ⟨some 104, .bin .add 0 3 (.tmp 103) (.const (.int .i64 2)), none⟩,
      ⟨some 19, .mov (.tmp 104), none⟩]) (
   .reg [⟨some 106, .load (some 1) (.tmp 4), none⟩,
     ⟨some 107, .load (some 3) (.tmp 11), none⟩,
     ⟨some 108, .mov (.tmp 15), none⟩,
     ⟨some 109, .mov (.tmp 18), none⟩,
     ⟨some 110, .load (some 3) (.tmp 16), none⟩,
     ⟨some 111, .mov (.tmp 3), none⟩,
     ⟨some 112, .call 106 [.tmp 106, .tmp 107, .tmp 108, .tmp 109, .tmp 110, .tmp 111], none⟩,
     ⟨some 105, .mov (.tmp 112), none⟩,
     ⟨some 113, .ext (.tmp 105) 0, none⟩,
     ⟨some 114, .ext (.tmp 105) 1, none⟩,
     ⟨some 20, .mov (.tmp 113), none⟩,
     ⟨some 12, .mov (.tmp 114), none⟩])))) (.skip))) (
 .seq (.keep [4, 8, 11, 12, 18, 19, 20] [4, 8, 11]) (.seq (.seq (.reg [⟨some 115, .mov (.tmp 12), none⟩,
     ⟨some 116, .bin .neq 0 29 (.tmp 115) (.const (.int .i64 0)), none⟩]) (
  .cond (.tmp 116) (.seq (.reg [⟨some 117, .build [.bool false, .slice none 0 0, .slice none 0 0] [], none⟩,
      ⟨some 118, .mov (.tmp 12), none⟩,
      ⟨none, .store (some 3) (.tmp 8) (.tmp 117), none⟩,
      ⟨some 9, .mov (.const (.bool false)), none⟩,
      ⟨some 10, .mov (.tmp 118), none⟩]) (
   .ret)) (.skip))) (
 .seq (.reg [⟨some 120, .load (some 1) (.tmp 4), none⟩,
    ⟨some 121, .mov (.tmp 20), none⟩,
    ⟨some 122, .call 57 [.tmp 120, .tmp 121], none⟩,
    ⟨some 119, .mov (.tmp 122), none⟩,
    ⟨some 123, .ext (.tmp 119) 0, none⟩,
    ⟨some 124, .ext (.tmp 119) 1, none⟩,
    ⟨some 21, .mov (.tmp 123), none⟩,
    ⟨some 12, .mov (.tmp 124), none⟩]) (
 .seq (.keep [8, 11, 12, 18, 19, 21] [8, 11]) (.seq (.seq (.reg [⟨some 125, .mov (.tmp 12), none⟩,
     ⟨some 126, .bin .neq 0 29 (.tmp 125) (.const (.int .i64 0)), none⟩]) (
  .cond (.tmp 126) (.seq (.reg [⟨some 127, .build [.bool false, .slice none 0 0, .slice none 0 0] [], none⟩,
      ⟨some 128, .mov (.tmp 12), none⟩,
      ⟨none, .store (some 3) (.tmp 8) (.tmp 127), none⟩,
      ⟨some 9, .mov (.const (.bool false)), none⟩,
      ⟨some 10, .mov (.tmp 128), none⟩]) (
   .ret)) (.skip))) (
 .seq (.reg [⟨some 129, .faddr 0 (.tmp 11), none⟩,
    ⟨some 130, .faddr 2 (.tmp 129), none⟩,
    ⟨some 131, .load none (.tmp 130), none⟩,
    ⟨some 132, .mov (.tmp 18), none⟩,
    ⟨some 133, .mov (.tmp 19), none⟩,
    ⟨some 134, .mov (.tmp 21), none⟩,
    ⟨some 135, .call 95 [.tmp 131, .tmp 132, .tmp 133, .tmp 134], none⟩,
    ⟨some 136, .faddr 0 (.tmp 11), none⟩,
    ⟨some 137, .faddr 2 (.tmp 136), none⟩,
    ⟨none, .store none (.tmp 137) (.tmp 135), none⟩]) (
 .seq (.keep [8, 11] [8, 11]) (.seq (.reg [⟨some 138, .load (some 3) (.tmp 11), none⟩,
    ⟨none, .store (some 3) (.tmp 8) (.tmp 138), none⟩,
    ⟨some 9, .mov (.const (.bool true)), none⟩,
    ⟨some 10, .mov (.const (.int .i64 0)), none⟩]) (
 .ret)))))))))))))))))))))),
  [.cell 8 (some 3), .tmp 9, .tmp 10]⟩
theorem m72 : mFn Try.prog 72 s72 = true := by kernel_rfl
def s83 : SFn := ⟨.seq (.reg [⟨some 3, .lbox (.tmp 0), none⟩,
    ⟨some 4, .lbox (.tmp 1), none⟩,
    ⟨some 6, .lalloc [.bool false, .slice none 0 0, .slice none 0 0], none⟩,
    ⟨some 7, .mov (.const (.int .i64 0)), none⟩]) (
 .seq (.seq (.reg [⟨some 10, .mov (.tmp 2), none⟩,
     ⟨some 11, .bin .gtr 0 3 (.tmp 10) (.const (.int .i64 8)), none⟩]) (
  .cond (.tmp 11) (.seq (.reg [⟨some 12, .build [.bool false, .slice none 0 0, .slice none 0 0] [], none⟩,
      ⟨none, .store (some 3) (.tmp 6) (.tmp 12), none⟩,
      ⟨some 7, .mov (.const (.int .i64 70)), none⟩]) (
   .ret)) (.skip))) (
 .seq (.reg [⟨some 14, .faddr 0 (.tmp 3), none⟩,
    ⟨some 15, .load none (.tmp 14), none⟩,
    ⟨some 16, .load (some 4) (.tmp 4), none⟩,
    ⟨some 17, .inv (.tmp 15) [(24, 93)] [.tmp 16], none⟩,
    ⟨some 13, .mov (.tmp 17), none⟩,
    ⟨some 18, .ext (.tmp 13) 0, none⟩,
    ⟨some 19, .ext (.tmp 13) 1, none⟩,
    ⟨some 8, .lalloc [.bool false, .slice none 0 0, .slice none 0 0], none⟩,
    ⟨none, .store (some 3) (.tmp 8) (.tmp 18), none⟩,
    ⟨some 9, .mov (.tmp 19), none⟩]) (
 .seq (.keep [6, 8, 9] [6, 8]) (.seq (.seq (.reg [⟨some 20, .mov (.tmp 9), none⟩,
     ⟨some 21, .bin .neq 0 29 (.tmp 20) (.const (.int .i64 0)), none⟩]) (
  .cond (.tmp 21) (.seq (.reg [⟨some 22, .build [.bool false, .slice none 0 0, .slice none 0 0] [], none⟩,
      ⟨some 23, .mov (.tmp 9), none⟩,
      ⟨none, .store (some 3) (.tmp 6) (.tmp 22), none⟩,
      ⟨some 7, .mov (.tmp 23), none⟩]) (
   .ret)) (.skip))) (
 .seq (.seq (.reg [⟨some 24, .faddr 0 (.tmp 8), none⟩,
     ⟨some 25, .load none (.tmp 24), none⟩,
     ⟨some 26, .un .not (.tmp 25), none⟩,
     ⟨some 27, .mov (.tmp 26), none⟩,
     ⟨some 28, .faddr 2 (.tmp 8), some (27, true)⟩,
     ⟨some 29, .load none (.tmp 28), some (27, true)⟩,
     ⟨some 30, .len (.tmp 29), some (27, true)⟩,
     ⟨some 31, .bin .eql 0 3 (.tmp 30) (.const (.int .i64 0)), some (27, true)⟩,
     ⟨some 32, .pick (.tmp 27) (.tmp 31) (.const (.bool false)), none⟩]) (
  .seq (.keep [6, 8, 32] [6, 8]) (.cond (.tmp 32) (.seq (.reg [⟨some 33, .build [.bool false, .slice none 0 0, .slice none 0 0] [], none⟩,
      ⟨none, .store (some 3) (.tmp 6) (.tmp 33), none⟩,
      ⟨some 7, .mov (.const (.int .i64 70)), none⟩]) (
   .ret)) (.skip)))) (
 .seq (.reg [⟨some 34, .load (some 3) (.tmp 8), none⟩,
    ⟨some 35, .build [.bool false, .slice none 0 0, .slice none 0 0] [(0, 3, .tmp 34)], none⟩,
    ⟨none, .store (some 3) (.tmp 6) (.tmp 35), none⟩,
    ⟨some 7, .mov (.const (.int .i64 0)), none⟩]) (
 .ret))))))),
  [.cell 6 (some 3), .tmp 7]⟩
theorem m83 : mFn Try.prog 83 s83 = true := by kernel_rfl
def s84 : SFn := ⟨.seq (.reg [⟨some 2, .lbox (.tmp 0), none⟩,
    ⟨some 4, .mov (.const (.int .i64 0)), none⟩]) (
 .seq (.reg [⟨some 6, .faddr 0 (.tmp 2), none⟩,
    ⟨some 7, .faddr 2 (.tmp 6), none⟩,
    ⟨some 8, .load none (.tmp 7), none⟩,
    ⟨some 9, .len (.tmp 8), none⟩,
    ⟨some 10, .bin .sub 0 3 (.tmp 9) (.const (.int .i64 1)), none⟩,
    ⟨some 5, .mov (.tmp 10), none⟩]) (
 .seq (.block 0 (.loop (.seq (.keep [1, 2, 5] [2]) (.seq (.seq (.reg [⟨some 11, .mov (.tmp 5), none⟩,
        ⟨some 12, .bin .gtr 0 3 (.tmp 11) (.const (.int .i64 0)), none⟩,
        ⟨some 13, .mov (.tmp 12), none⟩,
        ⟨some 14, .faddr 0 (.tmp 2), some (13, true)⟩,
        ⟨some 15, .faddr 2 (.tmp 14), some (13, true)⟩,
        ⟨some 16, .load none (.tmp 15), some (13, true)⟩,
        ⟨some 17, .mov (.tmp 5), some (13, true)⟩,
        ⟨some 18, .iaddr 5 (.tmp 16) (.tmp 17), some (13, true)⟩,
        ⟨some 19, .faddr 0 (.tmp 18), some (13, true)⟩,
        ⟨some 20, .load none (.tmp 19), some (13, true)⟩,
        ⟨some 21, .mov (.tmp 1), some (13, true)⟩,
        ⟨some 22, .bin .gtr 0 9 (.tmp 20) (.tmp 21), some (13, true)⟩,
        ⟨some 23, .pick (.tmp 13) (.tmp 22) (.const (.bool false)), none⟩]) (
     .cond (.tmp 23) (.skip) (.exit 0))) (
    .block 1 (.reg [⟨some 24, .mov (.tmp 5), none⟩,
       ⟨some 25, .bin .sub 0 3 (.tmp 24) (.const (.int .i64 1)), none⟩,
       ⟨some 5, .mov (.tmp 25), none⟩])))))) (
 .seq (.keep [5] []) (.seq (.reg [⟨some 26, .mov (.tmp 5), none⟩,
    ⟨some 4, .mov (.tmp 26), none⟩]) (
 .ret))))),
  [.tmp 4]⟩
theorem m84 : mFn Try.prog 84 s84 = true := by kernel_rfl
def s85 : SFn := ⟨.seq (.reg [⟨some 2, .lbox (.tmp 0), none⟩,
    ⟨some 4, .mov (.const (.int .i64 0)), none⟩,
    ⟨some 5, .mov (.const (.bool false)), none⟩]) (
 .seq (.reg [⟨some 6, .faddr 0 (.tmp 2), none⟩,
    ⟨some 7, .faddr 1 (.tmp 6), none⟩,
    ⟨some 8, .load none (.tmp 7), none⟩,
    ⟨some 9, .mov (.tmp 1), none⟩,
    ⟨some 10, .call 114 [.tmp 8, .tmp 9, .func 115], none⟩,
    ⟨some 11, .ext (.tmp 10) 0, none⟩,
    ⟨some 12, .ext (.tmp 10) 1, none⟩,
    ⟨some 4, .mov (.tmp 11), none⟩,
    ⟨some 5, .mov (.tmp 12), none⟩]) (
 .ret)),
  [.tmp 4, .tmp 5]⟩
theorem m85 : mFn Try.prog 85 s85 = true := by kernel_rfl
def s93 : SFn := ⟨.seq (.reg [⟨some 3, .lbox (.tmp 1), none⟩,
    ⟨some 4, .lalloc [.bool false, .slice none 0 0, .slice none 0 0], none⟩,
    ⟨some 5, .mov (.const (.int .i64 0)), none⟩]) (
 .seq (.seq (.dreg [⟨some 6, .faddr 0 (.tmp 3), none⟩,
     ⟨some 7, .load none (.tmp 6), none⟩,
     ⟨some 8, .bin .lss 0 26 (.tmp 7) (.const (.int .u64 1)), none⟩,
     ⟨some 9, .mov (.tmp 8), none⟩,
     ⟨some 10, .faddr 0 (.tmp 3), some (9, false)⟩,
     ⟨some 11, .load none (.tmp 10), some (9, false)⟩,
     ⟨some 12, .mov (.tmp 0), some (9, false)⟩,
     ⟨some 13, .nilchk (.tmp 12), some (9, false)⟩,
     ⟨some 14, .faddr 0 (.tmp 13), some (9, false)⟩,
     ⟨some 15, .load none (.tmp 14), some (9, false)⟩,
     ⟨some 16, .len (.tmp 15), some (9, false)⟩,
     ⟨some 17, .conv .u64 (.tmp 16), some (9, false)⟩,
     ⟨some 18, .bin .gtr 0 26 (.tmp 11) (.tmp 17), some (9, false)⟩,
     ⟨some 19, .pick (.tmp 9) (.const (.bool true)) (.tmp 18), none⟩,
     ⟨some 20, .mov (.tmp 19), none⟩,
     ⟨some 21, .faddr 0 (.tmp 3), some (20, false)⟩,
     ⟨some 22, .load none (.tmp 21), some (20, false)⟩,
     ⟨some 23, .conv .i64 (.tmp 22), some (20, false)⟩,
     ⟨some 24, .bin .sub 0 3 (.tmp 23) (.const (.int .i64 1)), some (20, false)⟩,
     ⟨some 25, .call 120 [.tmp 24], some (20, false)⟩,
     ⟨some 26, .load (some 4) (.tmp 3), some (20, false)⟩,
     ⟨some 27, .bin .neq 0 28 (.tmp 25) (.tmp 26), some (20, false)⟩,
     ⟨some 28, .pick (.tmp 20) (.const (.bool true)) (.tmp 27), none⟩] [(5, 9), (16, 20), (19, 20)]) (
  .seq (.keep [0, 3, 4, 28] [3, 4]) (.cond (.tmp 28) (.seq (.reg [⟨some 29, .build [.bool false, .slice none 0 0, .slice none 0 0] [], none⟩,
      ⟨none, .store (some 3) (.tmp 4) (.tmp 29), none⟩,
      ⟨some 5, .mov (.const (.int .i64 71)), none⟩]) (
   .ret)) (.skip)))) (
 .seq (.dreg [⟨some 30, .mov (.tmp 0), none⟩,
    ⟨some 31, .nilchk (.tmp 30), none⟩,
    ⟨some 32, .faddr 0 (.tmp 31), none⟩,
    ⟨some 33, .load none (.tmp 32), none⟩,
    ⟨some 34, .faddr 0 (.tmp 3), none⟩,
    ⟨some 35, .load none (.tmp 34), none⟩,
    ⟨some 36, .bin .sub 0 26 (.tmp 35) (.const (.int .u64 1)), none⟩,
    ⟨some 37, .iaddr 3 (.tmp 33) (.tmp 36), none⟩,
    ⟨some 38, .load (some 3) (.tmp 37), none⟩,
    ⟨some 39, .call 99 [.tmp 38], none⟩,
    ⟨none, .store (some 3) (.tmp 4) (.tmp 39), none⟩,
    ⟨some 5, .mov (.const (.int .i64 0)), none⟩] [(3, 5)]) (
 .ret))),
  [.cell 4 (some 3), .tmp 5]⟩
theorem m93 : mFn Try.prog 93 s93 = true := by kernel_rfl
def s94 : SFn := ⟨.seq (.reg [⟨some 6, .mov (.const (.slice none 0 0)), none⟩]) (
 .seq (.reg [⟨some 10, .mov (.tmp 0), none⟩,
    ⟨some 11, .mov (.tmp 1), none⟩,
    ⟨some 12, .slc 2 (.tmp 10) (some (.tmp 11)) none none, none⟩]) (
 .seq (.reg [⟨some 13, .mov (.tmp 2), none⟩,
    ⟨some 14, .len (.tmp 13), none⟩,
    ⟨some 7, .mov (.tmp 14), none⟩]) (
 .seq (.seq (.reg [⟨some 15, .mov (.tmp 7), none⟩,
     ⟨some 16, .bin .eql 0 3 (.tmp 15) (.const (.int .i64 0)), none⟩]) (
  .cond (.tmp 16) (.seq (.reg [⟨some 17, .mov (.tmp 0), none⟩,
      ⟨some 6, .mov (.tmp 17), none⟩]) (
   .ret)) (.skip))) (
 .seq (.reg [⟨some 18, .mov (.tmp 0), none⟩,
    ⟨some 19, .len (.tmp 18), none⟩,
    ⟨some 8, .mov (.tmp 19), none⟩]) (
 .seq (.seq (.reg [⟨some 20, .mov (.tmp 1), none⟩,
     ⟨some 21, .mov (.tmp 8), none⟩,
     ⟨some 22, .bin .eql 0 3 (.tmp 20) (.tmp 21), none⟩]) (
  .seq (.keep [0, 1, 2, 7, 8, 22] []) (.cond (.tmp 22) (.seq (.reg [⟨some 23, .mov (.tmp 0), none⟩,
      ⟨some 24, .mov (.tmp 2), none⟩,
      ⟨some 25, .app 2 40 false (.tmp 23) (.tmp 24), none⟩,
      ⟨some 6, .mov (.tmp 25), none⟩]) (
   .ret)) (.skip)))) (
 .seq (.seq (.reg [⟨some 26, .mov (.tmp 8), none⟩,
     ⟨some 27, .mov (.tmp 7), none⟩,
     ⟨some 28, .bin .add 0 3 (.tmp 26) (.tmp 27), none⟩,
     ⟨some 29, .mov (.tmp 0), none⟩,
     ⟨some 30, .capx (.tmp 29), none⟩,
     ⟨some 31, .bin .gtr 0 3 (.tmp 28) (.tmp 30), none⟩]) (
  .cond (.tmp 31) (.seq (.reg [⟨some 32, .mov (.tmp 0), none⟩,
      ⟨some 33, .mov (.tmp 1), none⟩,
      ⟨some 34, .slc 2 (.tmp 32) none (some (.tmp 33)) none, none⟩,
      ⟨some 35, .mov (.tmp 8), none⟩,
      ⟨some 36, .mov (.tmp 7), none⟩,
      ⟨some 37, .bin .add 0 3 (.tmp 35) (.tmp 36), none⟩,
      ⟨some 38, .mov (.tmp 1), none⟩,
      ⟨some 39, .bin .sub 0 3 (.tmp 37) (.tmp 38), none⟩,
      ⟨some 40, .appz 2 40 [.string ⟨#[]⟩, .slice none 0 0] (.tmp 34) (.tmp 39), none⟩,
      ⟨some 9, .mov (.tmp 40), none⟩]) (
   .seq (.keep [0, 1, 2, 7, 9] []) (.seq (.reg [⟨some 41, .mov (.tmp 9), none⟩,
      ⟨some 42, .mov (.tmp 1), none⟩,
      ⟨some 43, .slc 2 (.tmp 41) (some (.tmp 42)) none none, none⟩,
      ⟨some 44, .mov (.tmp 2), none⟩,
      ⟨some 45, .cpy 2 (.tmp 43) (.tmp 44), none⟩]) (
   .seq (.dreg [⟨some 46, .mov (.tmp 9), none⟩,
      ⟨some 47, .mov (.tmp 1), none⟩,
      ⟨some 48, .mov (.tmp 7), none⟩,
      ⟨some 49, .bin .add 0 3 (.tmp 47) (.tmp 48), none⟩,
      ⟨some 50, .slc 2 (.tmp 46) (some (.tmp 49)) none none, none⟩,
      ⟨some 51, .mov (.tmp 0), none⟩,
      ⟨some 52, .mov (.tmp 1), none⟩,
      ⟨some 53, .slc 2 (.tmp 51) (some (.tmp 52)) none none, none⟩,
      ⟨some 54, .cpy 2 (.tmp 50) (.tmp 53), none⟩] []) (
   .seq (.reg [⟨some 55, .mov (.tmp 9), none⟩,
      ⟨some 6, .mov (.tmp 55), none⟩]) (
   .ret)))))) (.skip))) (
 .seq (.keep [0, 1, 2, 7, 8] []) (.seq (.reg [⟨some 56, .mov (.tmp 0), none⟩,
    ⟨some 57, .mov (.tmp 8), none⟩,
    ⟨some 58, .mov (.tmp 7), none⟩,
    ⟨some 59, .bin .add 0 3 (.tmp 57) (.tmp 58), none⟩,
    ⟨some 60, .slc 2 (.tmp 56) none (some (.tmp 59)) none, none⟩,
    ⟨some 0, .mov (.tmp 60), none⟩]) (
 .seq (.seq (.reg [⟨some 61, .mov (.tmp 2), none⟩,
     ⟨some 62, .mov (.tmp 0), none⟩,
     ⟨some 63, .mov (.tmp 1), none⟩,
     ⟨some 64, .mov (.tmp 7), none⟩,
     ⟨some 65, .bin .add 0 3 (.tmp 63) (.tmp 64), none⟩,
     ⟨some 66, .slc 2 (.tmp 62) (some (.tmp 65)) none none, none⟩,
     ⟨some 67, .ovl 121 (.tmp 61) (.tmp 66), none⟩,
     ⟨some 68, .un .not (.tmp 67), none⟩]) (
  .cond (.tmp 68) (.seq (.dreg [⟨some 69, .mov (.tmp 0), none⟩,
      ⟨some 70, .mov (.tmp 1), none⟩,
      ⟨some 71, .mov (.tmp 7), none⟩,
      ⟨some 72, .bin .add 0 3 (.tmp 70) (.tmp 71), none⟩,
      ⟨some 73, .slc 2 (.tmp 69) (some (.tmp 72)) none none, none⟩,
      ⟨some 74, .mov (.tmp 0), none⟩,
      ⟨some 75, .mov (.tmp 1), none⟩,
      ⟨some 76, .slc 2 (.tmp 74) (some (.tmp 75)) none none, none⟩,
      ⟨some 77, .cpy 2 (.tmp 73) (.tmp 76), none⟩] []) (
   .seq (.keep [0, 1, 2] []) (.seq (.reg [⟨some 78, .mov (.tmp 0), none⟩,
      ⟨some 79, .mov (.tmp 1), none⟩,
      ⟨some 80, .slc 2 (.tmp 78) (some (.tmp 79)) none none, none⟩,
      ⟨some 81, .mov (.tmp 2), none⟩,
      ⟨some 82, .cpy 2 (.tmp 80) (.tmp 81), none⟩]) (
   .seq (.reg [⟨some 83, .mov (.tmp 0), none⟩,
      ⟨some 6, .mov (.tmp 83), none⟩]) (
   .ret))))) (.skip))) (
 .seq (.reg [⟨some 84, .mov (.tmp 0), none⟩,
    ⟨some 85, .mov (.tmp 8), none⟩,
    ⟨some 86, .slc 2 (.tmp 84) (some (.tmp 85)) none none, none⟩,
    ⟨some 87, .mov (.tmp 2), none⟩,
    ⟨some 88, .cpy 2 (.tmp 86) (.tmp 87), none⟩]) (
 .seq (.keep [0, 1, 7] []) (.seq (.reg [⟨some 89, .mov (.tmp 0), none⟩,
    ⟨some 90, .mov (.tmp 1), none⟩,
    ⟨some 91, .slc 2 (.tmp 89) (some (.tmp 90)) none none, none⟩,
    ⟨some 92, .mov (.tmp 7), none⟩,
    ⟨some 93, .call 122 [.tmp 91, .tmp 92], none⟩]) (
 .seq (.reg [⟨some 94, .mov (.tmp 0), none⟩,
    ⟨some 6, .mov (.tmp 94), none⟩]) (
 .ret)))))))))))))),
  [.tmp 6]⟩
theorem m94 : mFn Try.prog 94 s94 = true := by kernel_rfl
def s95 : SFn := ⟨.seq (.reg [⟨some 8, .mov (.const (.slice none 0 0)), none⟩]) (
 .seq (.reg [⟨some 15, .mov (.tmp 0), none⟩,
    ⟨some 16, .mov (.tmp 1), none⟩,
    ⟨some 17, .mov (.tmp 2), none⟩,
    ⟨some 18, .slc 5 (.tmp 15) (some (.tmp 16)) (some (.tmp 17)) none, none⟩]) (
 .seq (.seq (.reg [⟨some 19, .mov (.tmp 1), none⟩,
     ⟨some 20, .mov (.tmp 2), none⟩,
     ⟨some 21, .bin .eql 0 3 (.tmp 19) (.tmp 20), none⟩]) (
  .cond (.tmp 21) (.seq (.reg [⟨some 22, .mov (.tmp 0), none⟩,
      ⟨some 23, .mov (.tmp 1), none⟩,
      ⟨some 24, .mov (.tmp 3), none⟩,
      ⟨some 25, .call 123 [.tmp 22, .tmp 23, .tmp 24], none⟩,
      ⟨some 8, .mov (.tmp 25), none⟩]) (
   .ret)) (.skip))) (
 .seq (.seq (.reg [⟨some 26, .mov (.tmp 2), none⟩,
     ⟨some 27, .mov (.tmp 0), none⟩,
     ⟨some 28, .len (.tmp 27), none⟩,
     ⟨some 29, .bin .eql 0 3 (.tmp 26) (.tmp 28), none⟩]) (
  .seq (.keep [0, 1, 2, 3, 29] []) (.cond (.tmp 29) (.seq (.reg [⟨some 30, .mov (.tmp 0), none⟩,
      ⟨some 31, .mov (.tmp 1), none⟩,
      ⟨some 32, .slc 5 (.tmp 30) none (some (.tmp 31)) none, none⟩,
      ⟨some 33, .mov (.tmp 3), none⟩,
      ⟨some 34, .app 5 48 false (.tmp 32) (.tmp 33), none⟩,
      ⟨some 9, .mov (.tmp 34), none⟩]) (
   .seq (.seq (.reg [⟨some 35, .mov (.tmp 9), none⟩,
       ⟨some 36, .len (.tmp 35), none⟩,
       ⟨some 37, .mov (.tmp 0), none⟩,
       ⟨some 38, .len (.tmp 37), none⟩,
       ⟨some 39, .bin .lss 0 3 (.tmp 36) (.tmp 38), none⟩]) (
    .cond (.tmp 39) (.reg [⟨some 40, .mov (.tmp 0), none⟩,
       ⟨some 41, .mov (.tmp 9), none⟩,
       ⟨some 42, .len (.tmp 41), none⟩,
       ⟨some 43, .slc 5 (.tmp 40) (some (.tmp 42)) none none, none⟩,
       ⟨none, .clr 5 [.string ⟨#[]⟩, .int .u64 0, .int .i64 0, .int .i64 0, .int .i64 0] (.tmp 43), none⟩]) (.skip))) (
   .seq (.keep [9] []) (.seq (.reg [⟨some 44, .mov (.tmp 9), none⟩,
      ⟨some 8, .mov (.tmp 44), none⟩]) (
   .ret))))) (.skip)))) (
 .seq (.dreg [⟨some 45, .mov (.tmp 0), none⟩,
    ⟨some 46, .mov (.tmp 1), none⟩,
    ⟨some 47, .slc 5 (.tmp 45) none (some (.tmp 46)) none, none⟩,
    ⟨some 48, .len (.tmp 47), none⟩,
    ⟨some 49, .mov (.tmp 3), none⟩,
    ⟨some 50, .len (.tmp 49), none⟩,
    ⟨some 51, .bin .add 0 3 (.tmp 48) (.tmp 50), none⟩,
    ⟨some 52, .mov (.tmp 0), none⟩,
    ⟨some 53, .mov (.tmp 2), none⟩,
    ⟨some 54, .slc 5 (.tmp 52) (some (.tmp 53)) none none, none⟩,
    ⟨some 55, .len (.tmp 54), none⟩,
    ⟨some 56, .bin .add 0 3 (.tmp 51) (.tmp 55), none⟩,
    ⟨some 10, .mov (.tmp 56), none⟩] []) (
 .seq (.keep [0, 1, 2, 3, 10] []) (.seq (.seq (.reg [⟨some 57, .mov (.tmp 10), none⟩,
     ⟨some 58, .mov (.tmp 0), none⟩,
     ⟨some 59, .capx (.tmp 58), none⟩,
     ⟨some 60, .bin .gtr 0 3 (.tmp 57) (.tmp 59), none⟩]) (
  .cond (.tmp 60) (.seq (.reg [⟨some 61, .mov (.tmp 0), none⟩,
      ⟨some 62, .mov (.tmp 1), none⟩,
      ⟨some 63, .slc 5 (.tmp 61) none (some (.tmp 62)) none, none⟩,
      ⟨some 64, .mov (.tmp 10), none⟩,
      ⟨some 65, .mov (.tmp 1), none⟩,
      ⟨some 66, .bin .sub 0 3 (.tmp 64) (.tmp 65), none⟩,
      ⟨some 67, .appz 5 48 [.string ⟨#[]⟩, .int .u64 0, .int .i64 0, .int .i64 0, .int .i64 0] (.tmp 63) (.tmp 66), none⟩,
      ⟨some 11, .mov (.tmp 67), none⟩]) (
   .seq (.reg [⟨some 68, .mov (.tmp 11), none⟩,
      ⟨some 69, .mov (.tmp 1), none⟩,
      ⟨some 70, .slc 5 (.tmp 68) (some (.tmp 69)) none none, none⟩,
      ⟨some 71, .mov (.tmp 3), none⟩,
      ⟨some 72, .cpy 5 (.tmp 70) (.tmp 71), none⟩]) (
   .seq (.keep [0, 1, 2, 3, 11] []) (.seq (.dreg [⟨some 73, .mov (.tmp 11), none⟩,
      ⟨some 74, .mov (.tmp 1), none⟩,
      ⟨some 75, .mov (.tmp 3), none⟩,
      ⟨some 76, .len (.tmp 75), none⟩,
      ⟨some 77, .bin .add 0 3 (.tmp 74) (.tmp 76), none⟩,
      ⟨some 78, .slc 5 (.tmp 73) (some (.tmp 77)) none none, none⟩,
      ⟨some 79, .mov (.tmp 0), none⟩,
      ⟨some 80, .mov (.tmp 2), none⟩,
      ⟨some 81, .slc 5 (.tmp 79) (some (.tmp 80)) none none, none⟩,
      ⟨some 82, .cpy 5 (.tmp 78) (.tmp 81), none⟩] []) (
   .seq (.reg [⟨some 83, .mov (.tmp 11), none⟩,
      ⟨some 8, .mov (.tmp 83), none⟩]) (
   .ret)))))) (.skip))) (
 .seq (.reg [⟨some 84, .mov (.tmp 0), none⟩,
    ⟨some 85, .mov (.tmp 10), none⟩,
    ⟨some 86, .slc 5 (.tmp 84) none (some (.tmp 85)) none, none⟩,
    ⟨some 12, .mov (.tmp 86), none⟩]) (
 .seq (.keep [0, 1, 2, 3, 10, 12] []) (.seq (.seq (.reg [⟨some 87, .mov (.tmp 1), none⟩,
     ⟨some 88, .mov (.tmp 3), none⟩,
     ⟨some 89, .len (.tmp 88), none⟩,
     ⟨some 90, .bin .add 0 3 (.tmp 87) (.tmp 89), none⟩,
     ⟨some 91, .mov (.tmp 2), none⟩,
     ⟨some 92, .bin .leq 0 3 (.tmp 90) (.tmp 91), none⟩]) (
  .cond (.tmp 92) (.seq (.reg [⟨some 93, .mov (.tmp 12), none⟩,
      ⟨some 94, .mov (.tmp 1), none⟩,
      ⟨some 95, .slc 5 (.tmp 93) (some (.tmp 94)) none none, none⟩,
      ⟨some 96, .mov (.tmp 3), none⟩,
      ⟨some 97, .cpy 5 (.tmp 95) (.tmp 96), none⟩]) (
   .seq (.dreg [⟨some 98, .mov (.tmp 12), none⟩,
      ⟨some 99, .mov (.tmp 1), none⟩,
      ⟨some 100, .mov (.tmp 3), none⟩,
      ⟨some 101, .len (.tmp 100), none⟩,
      ⟨some 102, .bin .add 0 3 (.tmp 99) (.tmp 101), none⟩,
      ⟨some 103, .slc 5 (.tmp 98) (some (.tmp 102)) none none, none⟩,
      ⟨some 104, .mov (.tmp 0), none⟩,
      ⟨some 105, .mov (.tmp 2), none⟩,
      ⟨some 106, .slc 5 (.tmp 104) (some (.tmp 105)) none none, none⟩,
      ⟨some 107, .cpy 5 (.tmp 103) (.tmp 106), none⟩] []) (
   .seq (.keep [0, 10, 12] []) (.seq (.reg [⟨some 108, .mov (.tmp 0), none⟩,
      ⟨some 109, .mov (.tmp 10), none⟩,
      ⟨some 110, .slc 5 (.tmp 108) (some (.tmp 109)) none none, none⟩,
      ⟨none, .clr 5 [.string ⟨#[]⟩, .int .u64 0, .int .i64 0, .int .i64 0, .int .i64 0] (.tmp 110), none⟩]) (
   .seq (.reg [⟨some 111, .mov (.tmp 12), none⟩,
      ⟨some 8, .mov (.tmp 111), none⟩]) (
   .ret)))))) (.skip))) (
 .seq (.seq (.reg [⟨some 112, .mov (.tmp 12), none⟩,
     ⟨some 113, .mov (.tmp 1), none⟩,
     ⟨some 114, .mov (.tmp 3), none⟩,
     ⟨some 115, .len (.tmp 114), none⟩,
     ⟨some 116, .bin .add 0 3 (.tmp 113) (.tmp 115), none⟩,
     ⟨some 117, .slc 5 (.tmp 112) (some (.tmp 116)) none none, none⟩,
     ⟨some 118, .mov (.tmp 3), none⟩,
     ⟨some 119, .ovl 124 (.tmp 117) (.tmp 118), none⟩,
     ⟨some 120, .un .not (.tmp 119), none⟩]) (
  .seq (.keep [0, 1, 2, 3, 12, 120] []) (.cond (.tmp 120) (.seq (.dreg [⟨some 121, .mov (.tmp 12), none⟩,
      ⟨some 122, .mov (.tmp 1), none⟩,
      ⟨some 123, .mov (.tmp 3), none⟩,
      ⟨some 124, .len (.tmp 123), none⟩,
      ⟨some 125, .bin .add 0 3 (.tmp 122) (.tmp 124), none⟩,
      ⟨some 126, .slc 5 (.tmp 121) (some (.tmp 125)) none none, none⟩,
      ⟨some 127, .mov (.tmp 0), none⟩,
      ⟨some 128, .mov (.tmp 2), none⟩,
      ⟨some 129, .slc 5 (.tmp 127) (some (.tmp 128)) none none, none⟩,
      ⟨some 130, .cpy 5 (.tmp 126) (.tmp 129), none⟩] []) (
   .seq (.reg [⟨some 131, .mov (.tmp 12), none⟩,
      ⟨some 132, .mov (.tmp 1), none⟩,
      ⟨some 133, .slc 5 (.tmp 131) (some (.tmp 132)) none none, none⟩,
      ⟨some 134, .mov (.tmp 3), none⟩,
      ⟨some 135, .cpy 5 (.tmp 133) (.tmp 134), none⟩]) (
   .seq (.keep [12] []) (.seq (.reg [⟨some 136, .mov (.tmp 12), none⟩,
      ⟨some 8, .mov (.tmp 136), none⟩]) (
   .ret))))) (.skip)))) (
 .seq (.reg [⟨some 137, .mov (.tmp 3), none⟩,
    ⟨some 138, .len (.tmp 137), none⟩,
    ⟨some 139, .mov (.tmp 2), none⟩,
    ⟨some 140, .mov (.tmp 1), none⟩,
    ⟨some 141, .bin .sub 0 3 (.tmp 139) (.tmp 140), none⟩,
    ⟨some 142, .bin .sub 0 3 (.tmp 138) (.tmp 141), none⟩,
    ⟨some 13, .mov (.tmp 142), none⟩]) (
 .seq (.seq (.reg [⟨some 143, .mov (.tmp 12), none⟩,
     ⟨some 144, .mov (.tmp 1), none⟩,
     ⟨some 145, .mov (.tmp 2), none⟩,
     ⟨some 146, .slc 5 (.tmp 143) (some (.tmp 144)) (some (.tmp 145)) none, none⟩,
     ⟨some 147, .mov (.tmp 3), none⟩,
     ⟨some 148, .ovl 124 (.tmp 146) (.tmp 147), none⟩,
     ⟨some 149, .un .not (.tmp 148), none⟩]) (
  .seq (.keep [0, 1, 2, 3, 12, 13, 149] []) (.cond (.tmp 149) (.seq (.dreg [⟨some 150, .mov (.tmp 12), none⟩,
      ⟨some 151, .mov (.tmp 1), none⟩,
      ⟨some 152, .mov (.tmp 2), none⟩,
      ⟨some 153, .slc 5 (.tmp 150) (some (.tmp 151)) (some (.tmp 152)) none, none⟩,
      ⟨some 154, .mov (.tmp 3), none⟩,
      ⟨some 155, .mov (.tmp 13), none⟩,
      ⟨some 156, .slc 5 (.tmp 154) (some (.tmp 155)) none none, none⟩,
      ⟨some 157, .cpy 5 (.tmp 153) (.tmp 156), none⟩] []) (
   .seq (.dreg [⟨some 158, .mov (.tmp 12), none⟩,
      ⟨some 159, .mov (.tmp 0), none⟩,
      ⟨some 160, .len (.tmp 159), none⟩,
      ⟨some 161, .slc 5 (.tmp 158) (some (.tmp 160)) none none, none⟩,
      ⟨some 162, .mov (.tmp 3), none⟩,
      ⟨some 163, .mov (.tmp 13), none⟩,
      ⟨some 164, .slc 5 (.tmp 162) none (some (.tmp 163)) none, none⟩,
      ⟨some 165, .cpy 5 (.tmp 161) (.tmp 164), none⟩] []) (
   .seq (.keep [1, 12, 13] []) (.seq (.reg [⟨some 166, .mov (.tmp 12), none⟩,
      ⟨some 167, .mov (.tmp 1), none⟩,
      ⟨some 168, .slc 5 (.tmp 166) (some (.tmp 167)) none none, none⟩,
      ⟨some 169, .mov (.tmp 13), none⟩,
      ⟨some 170, .call 125 [.tmp 168, .tmp 169], none⟩]) (
   .seq (.reg [⟨some 171, .mov (.tmp 12), none⟩,
      ⟨some 8, .mov (.tmp 171), none⟩]) (
   .ret)))))) (.skip)))) (
 .seq (.seq (.reg [⟨some 172, .mov (.tmp 12), none⟩,
     ⟨some 173, .mov (.tmp 0), none⟩,
     ⟨some 174, .len (.tmp 173), none⟩,
     ⟨some 175, .slc 5 (.tmp 172) (some (.tmp 174)) none none, none⟩,
     ⟨some 176, .mov (.tmp 3), none⟩,
     ⟨some 177, .ovl 124 (.tmp 175) (.tmp 176), none⟩,
     ⟨some 178, .un .not (.tmp 177), none⟩]) (
  .cond (.tmp 178) (.seq (.dreg [⟨some 179, .mov (.tmp 12), none⟩,
      ⟨some 180, .mov (.tmp 0), none⟩,
      ⟨some 181, .len (.tmp 180), none⟩,
      ⟨some 182, .slc 5 (.tmp 179) (some (.tmp 181)) none none, none⟩,
      ⟨some 183, .mov (.tmp 3), none⟩,
      ⟨some 184, .mov (.tmp 13), none⟩,
      ⟨some 185, .slc 5 (.tmp 183) none (some (.tmp 184)) none, none⟩,
      ⟨some 186, .cpy 5 (.tmp 182) (.tmp 185), none⟩] []) (
   .seq (.keep [1, 2, 3, 12, 13] []) (.seq (.dreg [⟨some 187, .mov (.tmp 12), none⟩,
      ⟨some 188, .mov (.tmp 1), none⟩,
      ⟨some 189, .mov (.tmp 2), none⟩,
      ⟨some 190, .slc 5 (.tmp 187) (some (.tmp 188)) (some (.tmp 189)) none, none⟩,
      ⟨some 191, .mov (.tmp 3), none⟩,
      ⟨some 192, .mov (.tmp 13), none⟩,
      ⟨some 193, .slc 5 (.tmp 191) (some (.tmp 192)) none none, none⟩,
      ⟨some 194, .cpy 5 (.tmp 190) (.tmp 193), none⟩] []) (
   .seq (.reg [⟨some 195, .mov (.tmp 12), none⟩,
      ⟨some 196, .mov (.tmp 1), none⟩,
      ⟨some 197, .slc 5 (.tmp 195) (some (.tmp 196)) none none, none⟩,
      ⟨some 198, .mov (.tmp 13), none⟩,
      ⟨some 199, .call 125 [.tmp 197, .tmp 198], none⟩]) (
   .seq (.reg [⟨some 200, .mov (.tmp 12), none⟩,
      ⟨some 8, .mov (.tmp 200), none⟩]) (
   .ret)))))) (.skip))) (
 .seq (.keep [0, 1, 2, 3, 12] []) (.seq (.reg [⟨some 201, .mov (.tmp 3), none⟩,
    ⟨some 202, .mov (.tmp 0), none⟩,
    ⟨some 203, .mov (.tmp 2), none⟩,
    ⟨some 204, .slc 5 (.tmp 202) (some (.tmp 203)) none none, none⟩,
    ⟨some 205, .call 126 [.tmp 201, .tmp 204], none⟩,
    ⟨some 14, .mov (.tmp 205), none⟩]) (
 .seq (.reg [⟨some 206, .mov (.tmp 12), none⟩,
    ⟨some 207, .mov (.tmp 1), none⟩,
    ⟨some 208, .slc 5 (.tmp 206) (some (.tmp 207)) none none, none⟩,
    ⟨some 209, .mov (.tmp 3), none⟩,
    ⟨some 210, .cpy 5 (.tmp 208) (.tmp 209), none⟩]) (
 .seq (.dreg [⟨some 211, .mov (.tmp 12), none⟩,
    ⟨some 212, .mov (.tmp 1), none⟩,
    ⟨some 213, .mov (.tmp 3), none⟩,
    ⟨some 214, .len (.tmp 213), none⟩,
    ⟨some 215, .bin .add 0 3 (.tmp 212) (.tmp 214), none⟩,
    ⟨some 216, .slc 5 (.tmp 211) (some (.tmp 215)) none none, none⟩,
    ⟨some 217, .mov (.tmp 12), none⟩,
    ⟨some 218, .mov (.tmp 1), none⟩,
    ⟨some 219, .mov (.tmp 14), none⟩,
    ⟨some 220, .bin .add 0 3 (.tmp 218) (.tmp 219), none⟩,
    ⟨some 221, .slc 5 (.tmp 217) (some (.tmp 220)) none none, none⟩,
    ⟨some 222, .cpy 5 (.tmp 216) (.tmp 221), none⟩] []) (
 .seq (.keep [12] []) (.seq (.reg [⟨some 223, .mov (.tmp 12), none⟩,
    ⟨some 8, .mov (.tmp 223), none⟩]) (
 .ret)))))))))))))))))))),
  [.tmp 8]⟩
theorem m95 : mFn Try.prog 95 s95 = true := by kernel_rfl
def s96 : SFn := ⟨.seq (.reg [⟨some 1, .lbox (.tmp 0), none⟩,
    ⟨some 2, .mov (.const (.int .i64 0)), none⟩]) (
 .seq (.seq (.reg [⟨some 3, .faddr 0 (.tmp 1), none⟩,
     ⟨some 4, .faddr 0 (.tmp 3), none⟩,
     ⟨some 5, .load none (.tmp 4), none⟩]) (
  .cond (.tmp 5) (.seq (.reg [⟨some 6, .faddr 0 (.tmp 1), none⟩,
      ⟨some 7, .faddr 1 (.tmp 6), none⟩,
      ⟨some 8, .load none (.tmp 7), none⟩,
      ⟨some 9, .len (.tmp 8), none⟩,
      ⟨some 2, .mov (.tmp 9), none⟩]) (
   .ret)) (.skip))) (
 .seq (.reg [⟨some 10, .faddr 0 (.tmp 1), none⟩,
    ⟨some 11, .faddr 2 (.tmp 10), none⟩,
    ⟨some 12, .load none (.tmp 11), none⟩,
    ⟨some 13, .len (.tmp 12), none⟩,
    ⟨some 2, .mov (.tmp 13), none⟩]) (
 .ret))),
  [.tmp 2]⟩
theorem m96 : mFn Try.prog 96 s96 = true := by kernel_rfl
def s97 : SFn := ⟨.seq (.reg [⟨some 1, .lbox (.tmp 0), none⟩,
    ⟨some 2, .mov (.const (.slice none 0 0)), none⟩]) (
 .seq (.reg [⟨some 6, .load (some 3) (.tmp 1), none⟩,
    ⟨some 7, .call 96 [.tmp 6], none⟩,
    ⟨some 8, .bin .add 0 3 (.tmp 7) (.const (.int .i64 1)), none⟩,
    ⟨some 9, .bin .quo 0 3 (.tmp 8) (.const (.int .i64 2)), none⟩,
    ⟨some 3, .mov (.tmp 9), none⟩]) (
 .seq (.dreg [⟨some 10, .faddr 0 (.tmp 1), none⟩,
    ⟨some 11, .faddr 0 (.tmp 10), none⟩,
    ⟨some 12, .load none (.tmp 11), none⟩,
    ⟨some 13, .build [.bool false, .slice none 0 0, .slice none 0 0] [(0, 1, .tmp 12)], none⟩,
    ⟨some 14, .build [.bool false, .slice none 0 0, .slice none 0 0] [(0, 3, .tmp 13)], none⟩,
    ⟨some 15, .faddr 0 (.tmp 1), none⟩,
    ⟨some 16, .faddr 0 (.tmp 15), none⟩,
    ⟨some 17, .load none (.tmp 16), none⟩,
    ⟨some 18, .build [.bool false, .slice none 0 0, .slice none 0 0] [(0, 1, .tmp 17)], none⟩,
    ⟨some 19, .build [.bool false, .slice none 0 0, .slice none 0 0] [(0, 3, .tmp 18)], none⟩,
    ⟨some 4, .lalloc [.bool false, .slice none 0 0, .slice none 0 0], none⟩,
    ⟨some 5, .lalloc [.bool false, .slice none 0 0, .slice none 0 0], none⟩,
    ⟨none, .store (some 3) (.tmp 4) (.tmp 14), none⟩,
    ⟨none, .store (some 3) (.tmp 5) (.tmp 19), none⟩] [(2, 7), (2, 10), (7, 10), (2, 11), (7, 11), (10, 11), (7, 12)]) (
 .seq (.keep [1, 3, 4, 5] [1, 4, 5]) (.seq (.seq (.reg [⟨some 20, .faddr 0 (.tmp 1), none⟩,
     ⟨some 21, .faddr 0 (.tmp 20), none⟩,
     ⟨some 22, .load none (.tmp 21), none⟩]) (
  .cond (.tmp 22) (.dreg [⟨some 23, .faddr 0 (.tmp 1), none⟩,
     ⟨some 24, .faddr 1 (.tmp 23), none⟩,
     ⟨some 25, .load none (.tmp 24), none⟩,
     ⟨some 26, .mov (.tmp 3), none⟩,
     ⟨some 27, .slc 2 (.tmp 25) none (some (.tmp 26)) none, none⟩,
     ⟨some 28, .call 127 [.tmp 27], none⟩,
     ⟨some 29, .faddr 0 (.tmp 1), none⟩,
     ⟨some 30, .faddr 1 (.tmp 29), none⟩,
     ⟨some 31, .load none (.tmp 30), none⟩,
     ⟨some 32, .mov (.tmp 3), none⟩,
     ⟨some 33, .slc 2 (.tmp 31) (some (.tmp 32)) none none, none⟩,
     ⟨some 34, .call 127 [.tmp 33], none⟩,
     ⟨some 35, .faddr 0 (.tmp 4), none⟩,
     ⟨some 36, .faddr 1 (.tmp 35), none⟩,
     ⟨none, .store none (.tmp 36) (.tmp 28), none⟩,
     ⟨some 37, .faddr 0 (.tmp 5), none⟩,
     ⟨some 38, .faddr 1 (.tmp 37), none⟩,
     ⟨none, .store none (.tmp 38) (.tmp 34), none⟩] [(2, 8), (5, 8)]) (.dreg [⟨some 39, .faddr 0 (.tmp 1), none⟩,
     ⟨some 40, .faddr 2 (.tmp 39), none⟩,
     ⟨some 41, .load none (.tmp 40), none⟩,
     ⟨some 42, .mov (.tmp 3), none⟩,
     ⟨some 43, .slc 5 (.tmp 41) none (some (.tmp 42)) none, none⟩,
     ⟨some 44, .call 128 [.tmp 43], none⟩,
     ⟨some 45, .faddr 0 (.tmp 1), none⟩,
     ⟨some 46, .faddr 2 (.tmp 45), none⟩,
     ⟨some 47, .load none (.tmp 46), none⟩,
     ⟨some 48, .mov (.tmp 3), none⟩,
     ⟨some 49, .slc 5 (.tmp 47) (some (.tmp 48)) none none, none⟩,
     ⟨some 50, .call 128 [.tmp 49], none⟩,
     ⟨some 51, .faddr 0 (.tmp 4), none⟩,
     ⟨some 52, .faddr 2 (.tmp 51), none⟩,
     ⟨none, .store none (.tmp 52) (.tmp 44), none⟩,
     ⟨some 53, .faddr 0 (.tmp 5), none⟩,
     ⟨some 54, .faddr 2 (.tmp 53), none⟩,
     ⟨none, .store none (.tmp 54) (.tmp 50), none⟩] [(2, 8), (5, 8)]))) (
 .seq (.keep [4, 5] [4, 5]) (.seq (.reg [⟨some 55, .load (some 3) (.tmp 4), none⟩,
    ⟨some 56, .load (some 3) (.tmp 5), none⟩,
    ⟨some 57, .bslice 3 [.bool false, .slice none 0 0, .slice none 0 0] 2 [(0, .tmp 55), (1, .tmp 56)], none⟩,
    ⟨some 2, .mov (.tmp 57), none⟩]) (
 .ret))))))),
  [.tmp 2]⟩
theorem m97 : mFn Try.prog 97 s97 = true := by kernel_rfl
end Go.Proofs.Ytbldkkabkijpgaa
