/- The abstract machine: a contract out of a text that is walked; ranges over functions; contracts by other numbers. No condition. -/
import Derived.Test.YtfkjiiopmogniaaAb3
namespace Go.Abs
variable {P : Program} {T : Tbl} {c : Cx} {m : Mem}

def argsT : List V → Nat → List (Nat × V)
  | [], _ => []
  | x :: xs, i => (i, x) :: argsT xs (i + 1)
theorem tget_args : ∀ (xs : List V) (i t : Nat), tget (argsT xs i) t = if h : i ≤ t ∧ t < i + xs.length then xs[t - i]'(by omega) else .junk := by
  intro xs
  induction xs with
  | nil => intro i t; simp [argsT, tget]; omega
  | cons x xs ih =>
    intro i t
    simp only [argsT, tget]
    by_cases e : t = i
    · subst e; simp
    · simp only [e, if_false, ih]
      by_cases h : i + 1 ≤ t ∧ t < i + 1 + xs.length
      · rw [dif_pos h, dif_pos (by simp; omega)]
        have : t - i = (t - (i + 1)) + 1 := by omega
        simp [this]
      · rw [dif_neg h, dif_neg (by simp; omega)]

def resV (T : Tbl) (m : Mem) (t : List (Nat × V)) : ResultVar → Option V
  | .tmp i => some (tget t i)
  | .cell i ty =>
    match tget t i, T.get ty with
    | .bptr b off, some ti =>
      match m.get b with
      | some (.box _ cells) => ldC ti.k.ag ti.size off cells
      | _ => none
    | _, _ => none
def resAll (T : Tbl) (m : Mem) (t : List (Nat × V)) : List ResultVar → Option (List V)
  | [] => some []
  | r :: rs =>
    match resV T m t r, resAll T m t rs with
    | some x, some xs => some (x :: xs)
    | _, _ => none
def tupV : List V → V
  | [x] => x
  | xs => .tup xs

/-- What is handed back: a reckoning stops here. -/
inductive RetW (T : Tbl) (rs : List ResultVar) (s : St) (x : V) (mo : Mem) (nx' : Nat) : Prop
  | mk (vs : List V) (mv : List Nat) : resAll T s.m s.t rs = some vs → x = tupV (vs.map (mvA s.m mv)) → (∀ b blk, mo.get b = some blk → s.m.get b = some blk) → (∀ b ∈ mv, mo.has b = false) →
      (∀ b blk, mo.get b = some blk → BlkOk mo.has blk ∧ b < nx') → (∀ y ∈ vs, mvAOk s.m mo.has mv y) → RetW T rs s x mo nx'

def mvVA (A : Ar) (m : Mem) (mv : List Nat) : V → V
  | .msl sz b off n =>
    if b ∈ mv then
      match m.get b with
      | some (.arr _ _ es) => .row sz (A.seg es off n)
      | _ => .msl sz b off n
    else .msl sz b off n
  | x => x
def mvAA (A : Ar) (m : Mem) (mv : List Nat) : V → V
  | .agg cs => .agg (cs.map (mvVA A m mv))
  | .fn f a b => .fn f (a.map (mvVA A m mv)) (b.map (mvVA A m mv))
  | x => mvVA A m mv x
theorem mvVA_std {m : Mem} {mv : List Nat} : mvVA Ar.std m mv = mvV m mv := funext fun x => by cases x <;> rfl
theorem mvAA_std {m : Mem} {mv : List Nat} : mvAA Ar.std m mv = mvA m mv := funext fun x => by cases x <;> simp only [mvAA, mvA, mvVA_std]
/-- May it be handed back? -/
def okV (A : Ar) (m : Mem) (K : Nat → Bool) (mv : List Nat) : V → Prop
  | .msl sz b off n =>
    if b ∈ mv then
      match m.get b with
      | some (.arr _ s es) => if s = sz then A.fits off n (A.len es) ∧ ClE es else False
      | _ => False
    else if K b then True else False
  | .aptr _ b _ _ => if K b then True else False
  | .bptr b _ => if K b then True else False
  | .mp b => if K b then True else False
  | .yld b => if K b then True else False
  | x => if x.cl then True else False
def okVs (A : Ar) (m : Mem) (K : Nat → Bool) (mv : List Nat) : List V → Prop
  | [] => True
  | y :: r => okV A m K mv y ∧ okVs A m K mv r
def okA (A : Ar) (m : Mem) (K : Nat → Bool) (mv : List Nat) : V → Prop
  | .agg cs => okVs A m K mv cs
  | .fn _ a b => okVs A m K mv a ∧ okVs A m K mv b
  | x => okV A m K mv x
def allOk (A : Ar) (m : Mem) (K : Nat → Bool) (mv : List Nat) : List V → Prop
  | [] => True
  | y :: r => okA A m K mv y ∧ allOk A m K mv r
theorem okV_spec {m : Mem} {K : Nat → Bool} {mv : List Nat} {x : V} (h : okV Ar.std m K mv x) : mvOk m K mv x := by
  cases x <;> simp only [okV, mvOk] at h ⊢ <;> (try (split at h <;> first | assumption | exact h.elim))
  split at h
  · rename_i hb
    rw [if_pos hb]
    split at h
    · rename_i hg
      rw [hg]
      split at h
      · rename_i hs; exact ⟨hs, h.1, h.2⟩
      · exact h.elim
    · exact h.elim
  · rename_i hb
    rw [if_neg hb]
    split at h
    · assumption
    · exact h.elim
theorem okVs_spec {m : Mem} {K : Nat → Bool} {mv : List Nat} {xs : List V} (h : okVs Ar.std m K mv xs) : ∀ x ∈ xs, mvOk m K mv x := by
  induction xs with
  | nil => intro x hx; simp at hx
  | cons y r ih =>
    intro x hx
    rcases List.mem_cons.1 hx with rfl | hx
    · exact okV_spec h.1
    · exact ih h.2 x hx
theorem okA_spec {m : Mem} {K : Nat → Bool} {mv : List Nat} {x : V} (h : okA Ar.std m K mv x) : mvAOk m K mv x := by
  cases x with
  | agg cs => exact okVs_spec h
  | fn f a b => exact ⟨okVs_spec h.1, okVs_spec h.2⟩
  | _ => exact okV_spec (by simpa only [okA] using h)
def moEq (m : Mem) : Mem → Prop
  | [] => True
  | (b, blk) :: r => (match m.get b with | some k => k = blk | none => False) ∧ moEq m r
def refs (K : Nat → Bool) : List V → Prop
  | [] => True
  | y :: r => refOk K y ∧ refs K r
def refC (K : Nat → Bool) : V → Prop
  | .msl _ b _ _ => if K b then True else False
  | .aptr _ b _ _ => if K b then True else False
  | .bptr b _ => if K b then True else False
  | .mp b => if K b then True else False
  | .yld b => if K b then True else False
  | x => if x.cl then True else False
def refsC (K : Nat → Bool) : List V → Prop
  | [] => True
  | y :: r => refC K y ∧ refsC K r
def refAC (K : Nat → Bool) : V → Prop
  | .agg cs => refsC K cs
  | .tup _ => False
  | .fn _ a b => refsC K a ∧ refsC K b
  | x => refC K x
def refTC (K : Nat → Bool) : List (Nat × V) → Prop
  | [] => True
  | (_, x) :: r => refAC K x ∧ refTC K r
def allK (K : Nat → Bool) : List Nat → Prop
  | [] => True
  | b :: r => (if K b then True else False) ∧ allK K r
theorem allK_spec {K : Nat → Bool} {l : List Nat} (h : allK K l) : ∀ b ∈ l, K b = true := by
  induction l with
  | nil => intro b hb; simp at hb
  | cons q r ih =>
    intro b hb
    rcases List.mem_cons.1 hb with rfl | hb
    · have := h.1
      split at this
      · assumption
      · exact this.elim
    · exact ih h.2 b hb
def bOkC (K : Nat → Bool) : Blk → Prop
  | .box _ cells => refsC K cells
  | .arr _ _ es => ClE es
  | .map _ _ => True
  | .loop rf _ _ => allK K rf
theorem refC_spec {K : Nat → Bool} {x : V} (h : refC K x) : refOk K x := by
  cases x <;> simp only [refC, refOk] at h ⊢ <;> (split at h <;> first | assumption | exact h.elim)
theorem refsC_spec {K : Nat → Bool} {xs : List V} (h : refsC K xs) : ∀ x ∈ xs, refOk K x := by
  induction xs with
  | nil => intro x hx; simp at hx
  | cons y r ih =>
    intro x hx
    rcases List.mem_cons.1 hx with rfl | hx
    · exact refC_spec h.1
    · exact ih h.2 x hx
theorem refAC_spec {K : Nat → Bool} {x : V} (h : refAC K x) : refOkA K x := by
  cases x with
  | agg cs => exact refsC_spec h
  | tup cs => exact h
  | fn f a b => exact ⟨refsC_spec h.1, refsC_spec h.2⟩
  | _ => exact refC_spec (by simpa only [refAC] using h)
theorem refTC_spec {K : Nat → Bool} {l : List (Nat × V)} (h : refTC K l) : ∀ p ∈ l, refOkA K p.2 := by
  induction l with
  | nil => intro p hp; simp at hp
  | cons q r ih =>
    obtain ⟨i, x⟩ := q
    intro p hp
    rcases List.mem_cons.1 hp with rfl | hp
    · exact refAC_spec h.1
    · exact ih h.2 p hp
theorem bOkC_spec {K : Nat → Bool} {blk : Blk} (h : bOkC K blk) : BlkOk K blk := by
  cases blk with
  | box ty cells => exact refsC_spec h
  | arr ty sz es =>
    intro e he x hx
    have := h e he x hx
    cases x <;> simp_all [refOk, V.cl]
  | map => trivial
  | loop rf lc j => exact allK_spec h
def blkOks (K : Nat → Bool) (nx' : Nat) : Mem → Prop
  | [] => True
  | (b, blk) :: r => (b < nx' ∧ bOkC K blk) ∧ blkOks K nx' r
/-- What a function hands back, and what must be so of it: a reckoning stops here. -/
inductive RetE (y x : V) (ok : Prop) : Prop
  | mk : y = x → ok → RetE y x ok
def notIn (mo : Mem) : Mem → List Nat
  | [] => []
  | (b, _) :: r => if mo.has b then notIn mo r else b :: notIn mo r
def retW (A : Ar) (T : Tbl) (rs : List ResultVar) (s : St) (x : V) (mo : Mem) (nx' : Nat) : Prop :=
  match resAll T s.m s.t rs with
  | some vs => RetE (tupV (vs.map (mvAA A s.m (notIn mo s.m)))) x (moEq s.m mo ∧ allOk A s.m mo.has (notIn mo s.m) vs ∧ blkOks mo.has nx' mo)
  | none => False

theorem get_mem {m : Mem} {b : Nat} {blk : Blk} (h : m.get b = some blk) : (b, blk) ∈ m := by
  induction m with
  | nil => simp [Mem.get] at h
  | cons p r ih =>
    obtain ⟨j, y⟩ := p
    simp only [Mem.get] at h
    split at h
    · rename_i e; subst e; simp only [Option.some.injEq] at h; subst h; simp
    · exact List.mem_cons_of_mem _ (ih h)
theorem notIn_spec {mo : Mem} {m : Mem} {b : Nat} (h : b ∈ notIn mo m) : mo.has b = false := by
  induction m with
  | nil => simp [notIn] at h
  | cons p r ih =>
    obtain ⟨j, y⟩ := p
    simp only [notIn] at h
    split at h
    · exact ih h
    · rename_i e
      rcases List.mem_cons.1 h with h | h
      · subst h; simpa using e
      · exact ih h

theorem retW_spec {rs : List ResultVar} {s : St} {x : V} {mo : Mem} {nx' : Nat} (h : retW Ar.std T rs s x mo nx') : RetW T rs s x mo nx' := by
  unfold retW at h
  split at h
  case h_2 => exact h.elim
  rename_i vs hvs
  cases h with
  | mk hx hok =>
    obtain ⟨h1, h2, h3⟩ := hok
    refine .mk vs (notIn mo s.m) hvs (by rw [← hx, mvAA_std]) (fun b blk hb => ?_) (fun b hb => notIn_spec hb) (fun b blk hb => ?_) (fun y hy => ?_)
    · have : ∀ (l : Mem), moEq s.m l → ∀ b blk, (b, blk) ∈ l → s.m.get b = some blk := by
        intro l
        induction l with
        | nil => intro _ b blk hb; simp at hb
        | cons p r ih =>
          obtain ⟨j, y⟩ := p
          intro hl b blk hb
          rcases List.mem_cons.1 hb with hb | hb
          · obtain ⟨rfl, rfl⟩ := Prod.mk.inj hb
            have := hl.1
            split at this
            · rename_i hq; rw [hq, this]
            · exact this.elim
          · exact ih hl.2 b blk hb
      exact this mo h1 b blk (get_mem hb)
    · have : ∀ (l : Mem), blkOks mo.has nx' l → ∀ b blk, (b, blk) ∈ l → BlkOk mo.has blk ∧ b < nx' := by
        intro l
        induction l with
        | nil => intro _ b blk hb; simp at hb
        | cons p r ih =>
          obtain ⟨j, y⟩ := p
          intro hl b blk hb
          rcases List.mem_cons.1 hb with hb | hb
          · obtain ⟨rfl, rfl⟩ := Prod.mk.inj hb
            exact ⟨bOkC_spec hl.1.2, hl.1.1⟩
          · exact ih hl.2 b blk hb
      exact this mo h3 b blk (get_mem hb)
    · clear hvs hx
      induction vs with
      | nil => simp at hy
      | cons z r ih =>
        rcases List.mem_cons.1 hy with rfl | hy
        · exact okA_spec h2.1
        · exact ih h2.2 hy

/-- What a function's text comes to. -/
def retQ (A : Ar) (T : Tbl) (rs : List ResultVar) (x : V) (mo : Mem) (nx' : Nat) : SP := fun e s => match e with | .exit _ => False | .normal => retW A T rs s x mo nx' | .ret => retW A T rs s x mo nx'

theorem res_sound (hT : TblOk P T) (hm : MemRel c m) {t : List (Nat × V)} {tmps : Array Value} (ht : ∀ i, Rel c (tget t i) (tmps.getD i undef)) : ∀ (rs : List ResultVar) (vs : List V), resAll T m t rs = some vs →
    ∃ us : List Value, (rs.mapM (fun | .tmp i => pure (tmps.getD i undef) | .cell a ty => do loadVar ty (← asAddr (tmps.getD a undef)) : ResultVar → Sem Value)).run P c.w = .ok us c.w ∧ us.length = vs.length ∧
      ∀ i (h : i < vs.length) (h' : i < us.length), Rel c vs[i] us[i] := by
  intro rs
  induction rs with
  | nil =>
    intro vs h
    simp only [resAll, Option.some.injEq] at h
    subst h
    exact ⟨[], by simp, rfl, fun i h => by simp at h⟩
  | cons r rs ih =>
    intro vs h
    simp only [resAll] at h
    split at h
    case h_2 => simp at h
    rename_i x xs hx hxs
    obtain rfl := Option.some.inj h
    obtain ⟨us, h1, h2, h3⟩ := ih xs hxs
    have key : ∃ u, ((fun | .tmp i => pure (tmps.getD i undef) | .cell a ty => do loadVar ty (← asAddr (tmps.getD a undef)) : ResultVar → Sem Value) r).run P c.w = .ok u c.w ∧ Rel c x u := by
      cases r with
      | tmp i =>
        simp only [resV, Option.some.injEq] at hx
        subst hx
        exact ⟨_, rfl, ht i⟩
      | cell i ty =>
        simp only [resV] at hx
        split at hx
        case h_2 => simp at hx
        rename_i b off ti hb hti
        split at hx
        case h_2 => simp at hx
        rename_i ty' cells hg
        have hp := ht i
        rw [hb] at hp
        generalize hv : tmps.getD i undef = pv at hp
        cases hp with
        | bptr _ _ _ hus hok =>
          obtain ⟨k, hk, rfl⟩ := hok.box hm hg
          have hblk := hm.blk b
          rw [hg] at hblk
          obtain ⟨k', C, g1, g2, g3, g4, _⟩ := hblk
          rw [hk] at g1
          obtain rfl : k = k' := by simpa using g1
          have hcell : ∀ j (hj : j < cells.length), c.w.cell? ⟨k, 0 + j, none⟩ = some (C.getD j undef) := fun j hj => by
            simp [World.cell?, g2, Array.getElem?_eq_getElem (show j < C.size by omega), Array.getD, show j < C.size by omega]
          obtain ⟨v, hv', hr⟩ := loadVar_sound hT hti (w := c.w) (k := k) (o := 0) (us := fun j => C.getD j undef) hcell (fun j hj => by
            have := g4 j hj (by omega)
            simpa [Array.getD, show j < C.size by omega] using this) hx
          rw [Nat.zero_add] at hv'
          refine ⟨v, ?_, hr⟩
          simp only [hv, asAddr, Sem.run_bind, Sem.run_pure, Result.andThen_ok, hv']
    obtain ⟨u, hu1, hu2⟩ := key
    refine ⟨u :: us, by simp only [List.mapM_cons, Sem.run_bind, hu1, h1, Result.andThen_ok, Sem.run_pure], by simp [h2], fun i h h' => ?_⟩
    cases i with
    | zero => exact hu2
    | succ i => exact h3 i (by simpa using h) (by simpa using h')

theorem tup_rel {xs : List V} {us : List Value} (hl : us.length = xs.length) (hr : ∀ i (h : i < xs.length) (h' : i < us.length), Rel c xs[i] us[i]) :
    Rel c (tupV xs) (if h : us.toArray.size = 1 then us.toArray[0] else .tuple us.toArray) := by
  by_cases h1 : us.length = 1
  · match us, xs, h1, hl, hr with
    | [u], [x], _, _, hr => simpa [tupV] using hr 0 (by simp) (by simp)
  · rw [dif_neg (by simpa using h1)]
    have : tupV xs = .tup xs := by
      match xs, hl with
      | [], _ => rfl
      | [_], hl => exact absurd hl h1
      | _ :: _ :: _, _ => rfl
    rw [this]
    exact .tup _ _ (by simp [hl]) fun i h h' => by simpa using hr i h (by simpa using h')

/-- A mark's block is shut. -/
def Cx.shut (c : Cx) (r : Nat) : Cx := { c with w := { c.w with heap := c.w.heap.setIfInBounds r (.deferred none) } }
theorem shut_evo {c : Cx} {r : Nat} {o : Option (List Deferred)} {S : Nat → Prop} (hr : c.w.heap[r]? = some (.deferred o)) (hS : S r) : Evo S c (c.shut r) where
  os := rfl
  tape := rfl
  output := rfl
  size := by simp [Cx.shut]
  keep := fun k C ty fr h => ⟨C, by
    have : r ≠ k := fun e => by subst e; rw [hr] at h; cases h
    show (c.w.heap.setIfInBounds r _)[k]? = _
    rw [Array.getElem?_setIfInBounds_ne this]; exact h, rfl⟩
  same := fun k hk hn => by
    have : r ≠ k := fun e => by subst e; exact hn hS
    show (c.w.heap.setIfInBounds r _)[k]? = _
    rw [Array.getElem?_setIfInBounds_ne this]
  imm := fun k o' h => ⟨h, by
    show (World.cell? _ _) = _
    by_cases e : r = k
    · subst e
      have hlt : r < c.w.heap.size := (Array.getElem?_eq_some_iff.1 hr).1
      have h1 : (c.shut r).w.heap[r]? = some (.deferred none) := by
        show (c.w.heap.setIfInBounds r _)[r]? = _
        simp [hlt]
      simp only [World.cell?, h1, hr]
    · simp [World.cell?, Cx.shut, Array.getElem?_setIfInBounds_ne e]⟩
  imold := fun k o' h _ _ => h
  us := fun b h => h
  ρ := fun b _ => .inl rfl
theorem Cor.shut {c0 c : Cx} {N nx0 : Nat} {s : St} {a : Act} (h : Cor c0 N nx0 s c a) {r : Nat} {rs : List Nat} (hd : a.defers = (r :: rs).map markOf) (hnd : (r :: rs).Nodup)
    (hrs : ∀ q ∈ r :: rs, c.w.heap[q]? = some (.deferred (some [])) ∧ c0.w.heap.size ≤ q ∧ ∀ b, c.ρ b ≠ some (some q)) : Cor c0 N nx0 s (c.shut r) { a with defers := rs.map markOf } := by
  obtain ⟨g1, g2, g3⟩ := hrs r (by simp)
  have hlt : r < c.w.heap.size := (Array.getElem?_eq_some_iff.1 g1).1
  have he := shut_evo (S := fun _ => True) g1 trivial
  have hne : ∀ k, k ≠ r → (c.shut r).w.heap[k]? = c.w.heap[k]? := fun k hk => by
    show (c.w.heap.setIfInBounds r _)[k]? = _
    rw [Array.getElem?_setIfInBounds_ne (fun e => hk e.symm)]
  exact {
    size := h.size
    tmps := fun t => (h.tmps t).evo he
    defers := ⟨rs, rfl, (List.nodup_cons.1 hnd).2, fun q hq => by
      obtain ⟨q1, q2, q3⟩ := hrs q (by simp [hq])
      have : q ≠ r := fun e => (List.nodup_cons.1 hnd).1 (e ▸ hq)
      exact ⟨by rw [hne q this]; exact q1, q2, q3⟩⟩
    mem := ⟨fun b => (h.mem.blk b).evo he rfl (fun k hk => ⟨hne k (fun e => g3 b (e ▸ hk)), fun _ h => h⟩), h.mem.inj, h.mem.big, fun k o ho => by
      have := h.mem.imlt k o ho
      simpa [Cx.shut] using this⟩
    evo := h.evo.trans (shut_evo g1 (.inr g2))
    fresh := h.fresh
    nx := h.nx
    us := h.us
    nx0 := h.nx0 }
theorem leave_marks {c0 : Cx} {N nx0 : Nat} {s : St} {fn : Func} {R : Ending → World → Prop} {a : Act} {c : Cx} (h : Cor c0 N nx0 s c a)
    (hR : ∀ c2 a2, Cor c0 N nx0 s c2 a2 → a2.tmps = a.tmps → ∃ v, (results fn a.tmps).run P c2.w = .ok v c2.w ∧ R (.returned v) c2.w) : LeavesInM (FW none) 0 P fn a.tmps R a.defers .returning c.w := by
  obtain ⟨rs, h1, h2, h3⟩ := h.defers
  rw [h1]
  induction rs generalizing c a with
  | nil => exact hR c a h rfl
  | cons r rs ih =>
    obtain ⟨g1, g2, g3⟩ := h3 r (by simp)
    have hc := h.shut h1 h2 h3
    refine ⟨by simp, .inl ⟨r, (c.shut r).w, rfl, run_takeDeferred g1, ?_⟩⟩
    have := ih (a := { a with defers := rs.map markOf }) hc hR rfl (List.nodup_cons.1 h2).2 (fun q hq => by
      obtain ⟨q1, q2, q3⟩ := h3 q (by simp [hq])
      have : q ≠ r := fun e => (List.nodup_cons.1 h2).1 (e ▸ hq)
      refine ⟨?_, q2, q3⟩
      show (c.w.heap.setIfInBounds r _)[q]? = _
      rw [Array.getElem?_setIfInBounds_ne (fun e => this e.symm)]
      exact q1)
    exact this

/-- A FUNCTION's CONTRACT, OUT OF ITS TEXT WALKED. -/
theorem sound_fin (hT : TblOk P T) (hmix : P.follows .mixedOrders = true) {f : FuncId} {fn : Func} {body : Code} (hf : P.funcs[f]? = some fn) (hname : (fn.name == "runtime.NumGoroutine") = false) (hb : fn.body = some body) {xs : List V} {nx : Nat} {mi : Mem} {x : V} {mo : Mem} {nx' : Nat}
    (hN : xs.length ≤ fn.ntmps)
    {Q : SP} (hQ : ∀ e s, Q e s → match e with | .exit _ => False | _ => ∃ s2, (s2 = s ∨ Le nx s s2) ∧ retW Ar.std T fn.results.toList s2 x mo nx')
    (hw : wpC Ar.std T P fn.ntmps nx true body { t := argsT xs 0, m := mi, nx := nx } Q) :
    Sound P f xs nx mi x mo nx' := by
  refine ⟨⟨fn, hf, hname, by rw [hb]; rfl⟩, fun c vs hm hnx hrel => ?_⟩
  obtain ⟨hl, hr⟩ := hrel
  refine (callsIn_wide (n := 0)).1 (callsIn_of_wp_marks (F := FW none) hf hb trivial ?_)
  have hcor : Cor c fn.ntmps nx { t := argsT xs 0, m := mi, nx := nx } c { tmps := vs ++ Array.replicate (fn.ntmps - vs.size) undef, defers := [] } := {
    size := by simp; omega
    tmps := fun t => by
      rw [tget_args]
      by_cases h : 0 ≤ t ∧ t < 0 + xs.length
      · rw [dif_pos h]
        have h1 : t < vs.size := by omega
        have : (vs ++ Array.replicate (fn.ntmps - vs.size) undef).getD t undef = vs[t] := by
          rw [Array.getD_eq_getD_getElem?, Array.getElem?_append_left h1, Array.getElem?_eq_getElem h1]
          rfl
        simp only [this, Nat.sub_zero]
        exact hr t (by omega) h1
      · rw [dif_neg h]; exact .junk _
    defers := Marks.nil _ _
    mem := hm
    evo := Evo.refl _ _
    fresh := fun b k h => .inl ⟨b, h⟩
    nx := hnx
    us := fun b h => .inl h
    nx0 := Nat.le_refl _ }
  have := wpC_sound hT hmix hnx none true (fun _ => rfl) body _ _ c _ hcor hw
  refine Go.wpIn_mono this (fun e a' w' ⟨ax, s, c1, he, hq, hw', hc⟩ => ?_)
  subst he hw'
  have fin : ∀ (a' : Act) (s : St) (c1 : Cx), Cor c fn.ntmps nx s c1 a' → RetW T fn.results.toList s x mo nx' → ∃ v, (results fn a'.tmps).run P c1.w = .ok v c1.w ∧ ∃ v' c', Ending.returned v = .returned v' ∧ c'.w = c1.w ∧ Nxt c c' mo nx nx nx' ∧ (∀ b, c'.us b → c.us b ∨ (nx ≤ b ∧ b < nx')) ∧ Rel c' x v' := by
    intro a' s c1 hc hret
    cases hret with
    | mk xs' mv h1 h2 h3 h4 h5 h6 =>
      obtain ⟨us, g1, g2, g3⟩ := res_sound hT hc.mem hc.tmps _ _ h1
      have honly := only_mem (mi := mo) (mv := mv) hc.mem h3 h4 (fun b blk hb => (h5 b blk hb).1)
      have hus0 : ∀ b, mo.has b = true → c1.us b ∧ b < nx' := fun b hb => by
        obtain ⟨blk, hblk⟩ := has_iff.1 hb
        exact ⟨us_of_get hc.mem (h3 b blk hblk), (h5 b blk hblk).2⟩
      refine ⟨if h : us.toArray.size = 1 then us.toArray[0] else .tuple us.toArray, ?_, _, { c1.only mo.has (mvIm c1 mv) with us := fun b => mo.has b = true ∨ c.us b }, rfl, rfl, ?_, ?_, ?_⟩
      · simp only [results, Array.mapM_eq_mapM_toList, Sem.run_bind, Sem.run_map]
        erw [g1]
        rfl
      · refine ⟨?_, ⟨fun b => ?_, honly.inj, fun b hb => ?_, honly.imlt⟩, fun b k hb => ?_, fun b hb => ?_⟩
        · exact {
            os := hc.evo.os
            tape := hc.evo.tape
            output := hc.evo.output
            size := hc.evo.size
            keep := hc.evo.keep
            same := hc.evo.same
            imm := fun k o h => ⟨.inl (hc.evo.imm k o h).1, (hc.evo.imm k o h).2⟩
            imold := fun k o h hk hS => by
              rcases h with h | ⟨b, _, hb⟩
              · exact hc.evo.imold k o h hk hS
              · rcases hc.fresh b k hb with h1 | h1
                · exact absurd h1 hS
                · omega
            us := fun b hb => .inr hb
            ρ := fun b hb => by
              simp only [Cx.only]
              split
              · exact hc.evo.ρ b hb
              · exact .inr rfl }
        · refine BlkRel.evo (c := c1.only mo.has (mvIm c1 mv)) (h := honly.blk b) (c' := { c1.only mo.has (mvIm c1 mv) with us := fun b => mo.has b = true ∨ c.us b }) (S := fun _ => True) (e := ⟨rfl, rfl, rfl, Nat.le_refl _, fun _ C _ _ h => ⟨C, h, rfl⟩, fun _ _ h => absurd trivial h, fun _ _ h => ⟨h, rfl⟩, fun _ _ h _ _ => h, fun b h => .inl h.1, fun _ _ => .inl rfl⟩) rfl (fun k _ => ⟨rfl, fun _ h => h⟩)
        · have : mo.has b = false := by
            cases hq : mo.has b with
            | false => rfl
            | true => exact absurd (.inl hq) hb
          simp [Cx.only, this]
        · simp only [Cx.only] at hb
          split at hb
          · exact hc.fresh b k hb
          · simp at hb
        · rcases hb with hb | hb
          · obtain ⟨q1, q2⟩ := hus0 b hb
            rcases hc.us b q1 with q3 | q3
            · exact .inl q3
            · exact .inr (.inr ⟨q3, q2⟩)
          · exact .inl hb
      · intro b hb
        rcases hb with hb | hb
        · obtain ⟨q1, q2⟩ := hus0 b hb
          rcases hc.us b q1 with q3 | q3
          · exact .inl q3
          · exact .inr ⟨q3, q2⟩
        · exact .inl hb
      · subst h2
        have hr1 : Rel (c1.only mo.has (mvIm c1 mv)) (tupV (xs'.map (mvA s.m mv))) (if h : us.toArray.size = 1 then us.toArray[0] else .tuple us.toArray) :=
          tup_rel (by simp [g2]) fun i h h' => by
            simp only [List.getElem_map]
            exact mvA_rel hc.mem h4 (g3 i (by simpa using h) h') (h6 _ (List.getElem_mem _))
        exact hr1.evo (S := fun _ => True) ⟨rfl, rfl, rfl, Nat.le_refl _, fun _ C _ _ h => ⟨C, h, rfl⟩, fun _ _ h => absurd trivial h, fun _ _ h => ⟨h, rfl⟩, fun _ _ h _ _ => h, fun b h => .inl h.1, fun _ _ => .inl rfl⟩
  have fin2 : ∀ s2, (s2 = s ∨ Le nx s s2) → retW Ar.std T fn.results.toList s2 x mo nx' → LeavesInM (FW none) 0 P fn a'.tmps (fun e w' => ∃ v c', e = .returned v ∧ c'.w = w' ∧ Nxt c c' mo nx nx nx' ∧ (∀ b, c'.us b → c.us b ∨ (nx ≤ b ∧ b < nx')) ∧ Rel c' x v) a'.defers .returning c1.w := fun s2 h1 h2 => by
    have key : ∀ c2, Cor c fn.ntmps nx s2 c2 a' → LeavesInM (FW none) 0 P fn a'.tmps (fun e w' => ∃ v c', e = .returned v ∧ c'.w = w' ∧ Nxt c c' mo nx nx nx' ∧ (∀ b, c'.us b → c.us b ∨ (nx ≤ b ∧ b < nx')) ∧ Rel c' x v) a'.defers .returning c2.w := fun c2 hc2 => by
      refine leave_marks hc2 fun c3 a3 hc3 ht => ?_
      have := fin a3 s2 c3 hc3 (retW_spec h2)
      rw [ht] at this
      exact this
    rcases h1 with rfl | h1
    · exact key c1 hc
    · obtain ⟨c2, hw2, hc2⟩ := le_sound hc hnx h1
      rw [← hw2]
      exact key c2 hc2
  have hq2 := hQ _ _ hq
  cases ax with
  | normal => obtain ⟨s2, h1, h2⟩ := hq2; exact fin2 s2 h1 h2
  | ret => obtain ⟨s2, h1, h2⟩ := hq2; exact fin2 s2 h1 h2
  | exit id => exact hq2.elim


theorem sound_of (hT : TblOk P T) (hmix : P.follows .mixedOrders = true) {f : FuncId} {fn : Func} {body : Code} (hf : P.funcs[f]? = some fn) (hname : (fn.name == "runtime.NumGoroutine") = false) (hb : fn.body = some body) {xs : List V} {nx : Nat} {mi : Mem} {x : V} {mo : Mem} {nx' : Nat}
    (hN : xs.length ≤ fn.ntmps) (hw : wpC Ar.std T P fn.ntmps nx true body { t := argsT xs 0, m := mi, nx := nx } (retQ Ar.std T fn.results.toList x mo nx')) : Sound P f xs nx mi x mo nx' :=
  sound_fin hT hmix hf hname hb hN (fun e s h => by
    cases e with
    | exit _ => exact h
    | normal => exact ⟨s, .inl rfl, h⟩
    | ret => exact ⟨s, .inl rfl, h⟩) hw
/-- What is handed back, told with less ahead of it: a reckoning stops here. -/
inductive RetS (A : Ar) (T : Tbl) (nx0 : Nat) (rs : List ResultVar) (s : St) (x : V) (mo : Mem) (nx' : Nat) : Prop
  | mk (s2 : St) : Le nx0 s s2 → retW A T rs s2 x mo nx' → RetS A T nx0 rs s x mo nx'
def retL (A : Ar) (T : Tbl) (nx0 : Nat) (rs : List ResultVar) (x : V) (mo : Mem) (nx' : Nat) : SP := fun e s => match e with | .exit _ => False | .normal => RetS A T nx0 rs s x mo nx' | .ret => RetS A T nx0 rs s x mo nx'
theorem sound_ofL (hT : TblOk P T) (hmix : P.follows .mixedOrders = true) {f : FuncId} {fn : Func} {body : Code} (hf : P.funcs[f]? = some fn) (hname : (fn.name == "runtime.NumGoroutine") = false) (hb : fn.body = some body) {xs : List V} {nx : Nat} {mi : Mem} {x : V} {mo : Mem} {nx' : Nat}
    (hN : xs.length ≤ fn.ntmps) (hw : wpC Ar.std T P fn.ntmps nx true body { t := argsT xs 0, m := mi, nx := nx } (retL Ar.std T nx fn.results.toList x mo nx')) : Sound P f xs nx mi x mo nx' :=
  sound_fin hT hmix hf hname hb hN (fun e s h => by
    cases e with
    | exit _ => exact h
    | normal => cases h with | mk s2 h1 h2 => exact ⟨s2, .inr h1, h2⟩
    | ret => cases h with | mk s2 h1 h2 => exact ⟨s2, .inr h1, h2⟩) hw

end Go.Abs
namespace Go.Abs
variable {P : Program} {T : Tbl} {c : Cx} {m : Mem}

/-- What a round is handed, laid over the loop's temporaries. -/
def putP : List Tmp → List V → List (Nat × V) → List (Nat × V)
  | p :: ps, x :: xs, t => putP ps xs ((p, x) :: t)
  | _, _, t => t
def putsT : List Tmp → List Value → Array Value → Array Value
  | p :: ps, v :: vs, t => putsT ps vs (t.setIfInBounds p v)
  | _, _, t => t
theorem puts_eq (ps : Array Tmp) (vs t : Array Value) : (ps.zip vs).foldl (fun tmps (x : Tmp × Value) => tmps.setIfInBounds x.1 x.2) t = putsT ps.toList vs.toList t := by
  rw [← Array.foldl_toList, Array.toList_zip]
  generalize ps.toList = l
  generalize vs.toList = k
  induction l generalizing k t with
  | nil => simp [putsT]
  | cons p l ih =>
    cases k with
    | nil => simp [putsT]
    | cons v k => simp [putsT, ih]
theorem puts_rel {N : Nat} : ∀ (ps : List Tmp) (xs : List V) (vs : List Value) (t : List (Nat × V)) (u : Array Value), (∀ p ∈ ps, p < N) → u.size = N → xs.length = vs.length → (∀ i (h : i < xs.length) (h' : i < vs.length), Rel c xs[i] vs[i]) →
    (∀ i, Rel c (tget t i) (u.getD i undef)) → (putsT ps vs u).size = N ∧ ∀ i, Rel c (tget (putP ps xs t) i) ((putsT ps vs u).getD i undef) := by
  intro ps
  induction ps with
  | nil => exact fun xs vs t u _ hN _ _ h => ⟨hN, h⟩
  | cons p ps ih =>
    intro xs vs t u hp hN hl hr h
    cases xs with
    | nil =>
      cases vs with
      | nil => exact ⟨hN, h⟩
      | cons => simp at hl
    | cons x xs =>
      cases vs with
      | nil => simp at hl
      | cons v vs =>
        refine ih xs vs _ _ (fun q hq => hp q (by simp [hq])) (by simpa using hN) (by simpa using hl) (fun i h1 h2 => hr (i + 1) (by simpa using h1) (by simpa using h2)) fun i => ?_
        have hpN := hp p (by simp)
        simp only [tget, Array.getD_eq_getD_getElem?, Array.getElem?_setIfInBounds]
        by_cases e : i = p
        · subst e
          simp only [if_true]
          rw [if_pos (by rw [hN]; exact hpN)]
          exact hr 0 (by simp) (by simp)
        · rw [if_neg e, if_neg (fun e' => e e'.symm)]
          have := h i
          rwa [Array.getD_eq_getD_getElem?] at this

/-- The way in which a round's body is left. -/
def AX.jump : AX → Option Code
  | .normal => none
  | .exit i => some (.exit i)
  | .ret => some .ret
/-- What must be so behind a round. -/
structure RoundOk (b : Nat) (rf : List Nat) (lc : LoopC) (ax : AX) (m : Mem) (mo : Mem) (nx' : Nat) : Prop where
  rc : mo.get b = some (.loop rf lc ax.jump)
  sub : ∀ b' blk, b' ≠ b → mo.get b' = some blk → m.get b' = some blk
  ok : ∀ b' blk, b' ≠ b → mo.get b' = some blk → BlkOk (mo.del b).has blk ∧ b' < nx'
  lc : ∀ b' ∈ rf, (mo.del b).has b' = true

theorem has_del {mo : Mem} {b b' : Nat} : (mo.del b).has b' = true ↔ b' ≠ b ∧ mo.has b' = true := by
  unfold Mem.has
  rw [Mem.get_del]
  by_cases e : b' = b <;> simp [e]

/-- A YIELD's CONTRACT, OUT OF THE LOOP's BODY WALKED. -/
theorem soundY_fin (hT : TblOk P T) (hmix : P.follows .mixedOrders = true) {rf : List Nat} {lc : LoopC} {b nx nx' : Nat} {xs : List V} {mi mo : Mem} {r : Bool} (hb : mi.get b = some (.loop rf lc none)) (hlen : lc.ps.size = xs.length) (hps : ∀ p ∈ lc.ps.toList, p < lc.N)
    {Q : SP} (hQ : ∀ ax s, Q ax s → ∃ s2, (s2 = s ∨ Le nx s s2) ∧ r = ax.jump.isNone ∧ RoundOk b rf lc ax s2.m mo nx') (hbn : b < nx)
    (hw : wpC Ar.std T P lc.N nx false lc.asg { t := putP lc.ps.toList xs lc.t, m := mi.del b, nx := nx } fun e s => match e with | .normal => wpC Ar.std T P lc.N nx false lc.body s Q | _ => False) :
    SoundY P b xs nx mi (.at (.bool r)) mo nx' := by
  refine ⟨by rw [hb]; rfl, fun c vs hm hnx hrel => ?_⟩
  have hblk := hm.blk b
  rw [hb] at hblk
  obtain ⟨k, rc, h1, h2, ⟨h3, h4, h5, h6, h7, h8⟩, h9, hrf, h10⟩ := hblk
  obtain ⟨hl, hr⟩ := hrel
  have hsz : vs.size = rc.params.size := by rw [h5, hlen, hl]
  refine ⟨k, rc.fn, _, rc.assign, rc.body, h1, run_yield h2 hsz, roundIn_of_wpIn (F := FW none) trivial ?_⟩
  rw [puts_eq, h5, h6, h7]
  have hbus : c.us b := us_of_get hm hb
  have hready : rc.state = .ready := by rw [h3]; rfl
  -- the temporaries
  have htm : ∀ (c' : Cx), Evo (fun _ => True) c c' → (putsT lc.ps.toList vs.toList rc.tmps).size = lc.N ∧ ∀ i, Rel c' (tget (putP lc.ps.toList xs lc.t) i) ((putsT lc.ps.toList vs.toList rc.tmps).getD i undef) := fun c' he =>
    puts_rel _ _ _ _ _ hps h8 (by simpa using hl) (fun i g1 g2 => by simpa using (hr i g1 (by simpa using g2)).evo he) (fun i => (h9 i).evo he)
  -- ahead of the assignment the record's block has no name already
  let cA : Cx := { c with ρ := fun b' => if b' = b then none else c.ρ b' }
  have heA : Evo (fun _ => False) c cA := ⟨rfl, rfl, rfl, Nat.le_refl _, fun _ C _ _ h => ⟨C, h, rfl⟩, fun _ _ _ => rfl, fun _ _ h => ⟨h, rfl⟩, fun _ _ h _ _ => h, fun _ h => h, fun b' _ => by
    by_cases e : b' = b
    · exact .inr (by simp [cA, e])
    · exact .inl (by simp [cA, e])⟩
  have hmA : MemRel cA (mi.del b) := {
    blk := fun b' => by
      rw [Mem.get_del]
      by_cases e : b' = b
      · simp [e, BlkRel, cA]
      · rw [if_neg e]
        exact (hm.blk b').evo heA (by simp [cA, e]) (fun _ _ => ⟨rfl, fun _ h => h⟩)
    inj := fun x y k' g1 g2 => by
      simp only [cA] at g1 g2
      split at g1
      · simp at g1
      · split at g2
        · simp at g2
        · exact hm.inj x y k' g1 g2
    big := fun b' h => by
      simp only [cA]
      split
      · rfl
      · exact hm.big b' h
    imlt := hm.imlt }
  have hkA : ∀ b', cA.ρ b' ≠ some (some k) := fun b' h => by
    simp only [cA] at h
    split at h
    · simp at h
    · rename_i e; exact e (hm.inj b' b k h h1)
  have hcA : Cor cA lc.N nx { t := putP lc.ps.toList xs lc.t, m := mi.del b, nx := nx } cA { tmps := putsT lc.ps.toList vs.toList rc.tmps, defers := [] } := {
    size := (htm cA (heA.mono fun _ h => h.elim)).1
    tmps := (htm cA (heA.mono fun _ h => h.elim)).2
    defers := Marks.nil _ _
    mem := hmA
    evo := Evo.refl _ _
    fresh := fun b' k' h => .inl ⟨b', h⟩
    nx := hnx
    us := fun _ h => .inl h
    nx0 := Nat.le_refl _ }
  refine Go.wpIn_mono (wpC_sound hT hmix (c0 := cA) hnx (some k) false (fun h => by cases h) lc.asg _ _ cA _ hcA hw) fun e a1 w1 ⟨ax, s1, c1, he, hq, hw1, hc1⟩ => ?_
  subst he hw1
  cases ax with
  | exit i => exact hq.elim
  | ret => exact hq.elim
  | normal =>
  -- the record has stayed as it was
  have stay : ∀ {s : St} {c' : Cx} {a : Act}, Cor cA lc.N nx s c' a → c'.w.heap[k]? = some (.loop rc) ∧ ∀ b', c'.ρ b' ≠ some (some k) := fun {s c' a} h => by
    have hlt : k < cA.w.heap.size := (Array.getElem?_eq_some_iff.1 h2).1
    refine ⟨by rw [h.evo.same k hlt (fun ⟨b', hb'⟩ => hkA b' hb')]; exact h2, fun b' hb' => ?_⟩
    rcases h.fresh b' k hb' with ⟨b'', hb''⟩ | hk
    · exact hkA b'' hb''
    · omega
  obtain ⟨g1, g2⟩ := stay hc1
  refine ⟨_, run_beginRound g1 hready, ?_⟩
  -- the record is busy
  let rb : Loop := { rc with state := .busy }
  let cB0 : Cx := { cA with w := c.w.putObj k (.loop rb) }
  let cB : Cx := { c1 with w := c1.w.putObj k (.loop rb) }
  have hlt : k < c.w.heap.size := (Array.getElem?_eq_some_iff.1 h2).1
  have imk : ∀ q, ¬ c1.im k q := fun q hq => h10 q (hc1.evo.imold k q hq hlt (fun ⟨b', hb'⟩ => hkA b' hb'))
  have cell_ne : ∀ (w : World) (o : Obj) (k' q : Nat), k' ≠ k → (w.putObj k o).cell? ⟨k', q, none⟩ = w.cell? ⟨k', q, none⟩ := fun w o k' q h => by
    simp only [World.cell?, World.putObj_heap_other h]
  have heB : Evo (fun k' => k' = k) c1 cB := {
    os := rfl
    tape := rfl
    output := rfl
    size := by simp [cB]
    keep := fun k' C ty fr h => ⟨C, by
      have : k' ≠ k := fun e => by subst e; rw [g1] at h; cases h
      show (c1.w.putObj k _).heap[k']? = _
      rw [World.putObj_heap_other this]; exact h, rfl⟩
    same := fun k' _ hn => World.putObj_heap_other hn
    imm := fun k' q h => ⟨h, cell_ne _ _ _ _ fun e => by rw [e] at h; exact imk q h⟩
    imold := fun _ _ h _ _ => h
    us := fun _ h => h
    ρ := fun _ _ => .inl rfl }
  have hmB : MemRel cB s1.m := ⟨fun b' => (hc1.mem.blk b').evo heB rfl (fun k' hk' => ⟨World.putObj_heap_other (fun e => g2 b' (e ▸ hk')), fun _ h => h⟩), hc1.mem.inj, hc1.mem.big, fun k' o ho => by
    have := hc1.mem.imlt k' o ho
    simpa [cB] using this⟩
  have heB0 : Evo (fun k' => ∃ b', cB0.ρ b' = some (some k')) cB0 cB := {
    os := hc1.evo.os
    tape := hc1.evo.tape
    output := hc1.evo.output
    size := by
      have := hc1.evo.size
      simpa [cB0, cB] using this
    keep := fun k' C ty fr h => by
      have hne : k' ≠ k := fun e => by
        rw [e] at h
        have : (c.w.putObj k (.loop rb)).heap[k]? = some (.loop rb) := World.putObj_heap_same hlt
        rw [show cB0.w.heap[k]? = some (.loop rb) from this] at h
        cases h
      have h' : cA.w.heap[k']? = some (.cells C ty fr) := by
        rw [← h]; exact (World.putObj_heap_other hne).symm
      obtain ⟨C', q1, q2⟩ := hc1.evo.keep k' C ty fr h'
      exact ⟨C', by rw [← q1]; exact World.putObj_heap_other hne, q2⟩
    same := fun k' hk' hn => by
      have hk'' : k' < cA.w.heap.size := by simpa [cB0] using hk'
      by_cases e : k' = k
      · rw [e]
        rw [show cB0.w.heap[k]? = some (.loop rb) from World.putObj_heap_same hlt]
        exact World.putObj_heap_same (Array.getElem?_eq_some_iff.1 g1).1
      · rw [show cB0.w.heap[k']? = cA.w.heap[k']? from World.putObj_heap_other e, ← hc1.evo.same k' hk'' hn]
        exact World.putObj_heap_other e
    imm := fun k' q h => by
      obtain ⟨q1, q2⟩ := hc1.evo.imm k' q h
      have hne : k' ≠ k := fun e => by rw [e] at h; exact h10 q h
      exact ⟨q1, by rw [show cB0.w.cell? ⟨k', q, none⟩ = cA.w.cell? ⟨k', q, none⟩ from cell_ne _ _ _ _ hne, ← q2]; exact cell_ne _ _ _ _ hne⟩
    imold := fun k' q h hk' hn => hc1.evo.imold k' q h (by simpa [cB0] using hk') hn
    us := hc1.evo.us
    ρ := hc1.evo.ρ }
  have hsz0 : cB0.w.heap.size = cA.w.heap.size := by simp [cB0, cA]
  have hcB : Cor cB0 lc.N nx s1 cB a1 := {
    size := hc1.size
    tmps := fun t => (hc1.tmps t).evo heB
    defers := by
      obtain ⟨rs, q1, q2, q3⟩ := hc1.defers
      refine ⟨rs, q1, q2, fun r hr => ?_⟩
      obtain ⟨p1, p2, p3⟩ := q3 r hr
      have hne : r ≠ k := fun e => by rw [e, g1] at p1; cases p1
      exact ⟨by rw [← p1]; exact World.putObj_heap_other hne, by rw [hsz0]; exact p2, p3⟩
    mem := hmB
    evo := heB0
    fresh := fun b' k' h => by rw [hsz0]; exact hc1.fresh b' k' h
    nx := hc1.nx
    us := hc1.us
    nx0 := hc1.nx0 }
  refine Go.wpIn_mono (wpC_sound hT hmix (c0 := cB0) hnx (some k) false (fun h => by cases h) lc.body _ _ cB _ hcB hq) fun e a2 w2 ⟨ax, s2, c2, he, hq2, hw2, hc2⟩ => ?_
  subst he hw2
  obtain ⟨s3, hs3, hrr, hok⟩ := hQ ax s2 hq2
  obtain ⟨c3, hw3, hc3⟩ : ∃ c3, c3.w = c2.w ∧ Cor cB0 lc.N nx s3 c3 a2 := by
    rcases hs3 with rfl | hle
    · exact ⟨c2, rfl, hc2⟩
    · exact le_sound hc2 hnx hle
  rw [← hw3]
  have hkB : ∀ b', cB0.ρ b' ≠ some (some k) := hkA
  have stay3 : c3.w.heap[k]? = some (.loop rb) ∧ ∀ b', c3.ρ b' ≠ some (some k) := by
    have hltB : k < cB0.w.heap.size := by rw [hsz0]; exact hlt
    refine ⟨by rw [hc3.evo.same k hltB (fun ⟨b', hb'⟩ => hkB b' hb')]; exact World.putObj_heap_same hlt, fun b' hb' => ?_⟩
    rcases hc3.fresh b' k hb' with ⟨b'', hb''⟩ | hk
    · exact hkB b'' hb''
    · omega
  obtain ⟨t1, t2⟩ := stay3
  have imk3 : ∀ q, ¬ c3.im k q := fun q hq => h10 q (hc3.evo.imold k q hq (by rw [hsz0]; exact hlt) (fun ⟨b', hb'⟩ => hkB b' hb'))
  -- what the round leaves
  let rf : Loop := { rb with state := if ax.jump.isNone then .ready else .done, pending := ax.jump }
  let cO : Cx := c3.only (mo.del b).has (mvIm c3 [])
  let cF : Cx := { w := c3.w.putObj k (.loop rf), im := cO.im, ρ := fun b' => if b' = b then some (some k) else cO.ρ b', us := fun b' => (mo.del b).has b' = true ∨ c.us b' }
  have hKb : ∀ b', (mo.del b).has b' = true → b' ≠ b := fun b' h => (has_del.1 h).1
  have honly : MemRel cO (mo.del b) := only_mem (mv := []) hc3.mem (fun b' blk h => by
    have hne : b' ≠ b := hKb b' (has_iff.2 ⟨blk, h⟩)
    rw [Mem.get_del, if_neg hne] at h
    exact hok.sub b' blk hne h) (fun _ h => by simp at h) (fun b' blk h => by
    have hne : b' ≠ b := hKb b' (has_iff.2 ⟨blk, h⟩)
    rw [Mem.get_del, if_neg hne] at h
    exact (hok.ok b' blk hne h).1)
  have imO : ∀ k' q, cO.im k' q → c3.im k' q := fun k' q h => by
    rcases h with h | ⟨_, h, _⟩
    · exact h
    · simp at h
  have heF : Evo (fun _ => True) cO cF := {
    os := rfl
    tape := rfl
    output := rfl
    size := by simp [cF, cO, Cx.only]
    keep := fun k' C ty fr h => ⟨C, by
      have : k' ≠ k := fun e => by rw [e] at h; rw [show cO.w.heap[k]? = some (.loop rb) from t1] at h; cases h
      show (c3.w.putObj k _).heap[k']? = _
      rw [World.putObj_heap_other this]; exact h, rfl⟩
    same := fun _ _ h => absurd trivial h
    imm := fun k' q h => ⟨h, cell_ne _ _ _ _ fun e => by rw [e] at h; exact imk3 q (imO _ _ h)⟩
    imold := fun _ _ _ _ h => absurd trivial h
    us := fun b' h => .inl h.1
    ρ := fun b' h => .inl (by simp [cF, hKb b' h.1]) }
  have heC3 : Evo (fun _ => True) c c3 := by
    have e1 : Evo (fun _ => True) c cB0 := {
      os := rfl
      tape := rfl
      output := rfl
      size := by simp [cB0]
      keep := fun k' C ty fr h => ⟨C, by
        have : k' ≠ k := fun e => by rw [e, h2] at h; cases h
        rw [← h]; exact World.putObj_heap_other this, rfl⟩
      same := fun _ _ h => absurd trivial h
      imm := fun k' q h => ⟨h, cell_ne _ _ _ _ fun e => by rw [e] at h; exact h10 q h⟩
      imold := fun _ _ _ _ h => absurd trivial h
      us := fun _ h => h
      ρ := heA.ρ }
    exact e1.trans (hc3.evo.mono fun _ _ => .inl trivial)
  have hρF : ∀ b' k', cF.ρ b' = some (some k') → (b' = b ∧ k' = k) ∨ (b' ≠ b ∧ (mo.del b).has b' = true ∧ c3.ρ b' = some (some k')) := fun b' k' h => by
    simp only [cF] at h
    split at h
    · rename_i e
      exact .inl ⟨e, by simpa using h.symm⟩
    · rename_i e
      simp only [cO, Cx.only] at h
      split at h
      · rename_i hK; exact .inr ⟨e, hK, h⟩
      · simp at h
  have hmF : MemRel cF mo := {
    blk := fun b' => by
      by_cases e : b' = b
      · subst e
        rw [hok.rc]
        refine ⟨k, rf, by simp [cF], World.putObj_heap_same (Array.getElem?_eq_some_iff.1 t1).1, ⟨rfl, rfl, h5, h6, h7, h8⟩, fun t => ?_, hrf, fun q hq => imk3 q (imO _ _ hq)⟩
        have := (h9 t).evo heC3
        rcases tget_mem lc.t t with e | ⟨p, hp, _, e⟩
        · rw [e]; exact .junk _
        · rw [e] at this ⊢
          exact (refA_rel (J := mvIm c3 []) this (refOkA_mono (fun b hb => hok.lc b (by simpa using hb)) (hrf p hp))).evo heF
      · have := honly.blk b'
        rw [Mem.get_del, if_neg e] at this
        refine this.evo heF (by simp [cF, e]) (fun k' hk' => ⟨?_, fun _ h => h⟩)
        have hk'' : c3.ρ b' = some (some k') := by
          simp only [cO, Cx.only] at hk'
          split at hk'
          · exact hk'
          · simp at hk'
        exact World.putObj_heap_other (fun e' => t2 b' (e' ▸ hk''))
    inj := fun x y k' h1' h2' => by
      rcases hρF x k' h1' with ⟨e1, e2⟩ | ⟨e1, _, e2⟩ <;> rcases hρF y k' h2' with ⟨e3, e4⟩ | ⟨e3, _, e4⟩
      · rw [e1, e3]
      · rw [e2] at e4; exact absurd e4 (t2 y)
      · rw [e4] at e2; exact absurd e2 (t2 x)
      · exact hc3.mem.inj x y k' e2 e4
    big := fun b' h => by
      have e1 : b' ≠ b := fun e => h (.inr (e ▸ hbus))
      have e2 : (mo.del b).has b' = false := by
        cases hq : (mo.del b).has b' with
        | false => rfl
        | true => exact absurd (.inl hq) h
      simp [cF, e1, cO, Cx.only, e2]
    imlt := fun k' q h => by
      have := hc3.mem.imlt k' q (imO _ _ h)
      simpa [cF] using this }
  have hnF : Nxt c cF mo nx nx nx' := {
    evo := {
      os := hc3.evo.os
      tape := hc3.evo.tape
      output := hc3.evo.output
      size := by
        have := hc3.evo.size
        rw [hsz0] at this
        simpa [cF] using this
      keep := fun k' C ty fr h => by
        have hne : k' ≠ k := fun e => by rw [e, h2] at h; cases h
        obtain ⟨C', q1, q2⟩ := hc3.evo.keep k' C ty fr (by rw [← h]; exact World.putObj_heap_other hne)
        exact ⟨C', by rw [← q1]; exact World.putObj_heap_other hne, q2⟩
      same := fun k' hk' hn => by
        have hne : k' ≠ k := fun e => hn ⟨b, e ▸ h1⟩
        have hnB : ¬ ∃ b', cB0.ρ b' = some (some k') := fun ⟨b', hb'⟩ => by
          simp only [cB0, cA] at hb'
          split at hb'
          · simp at hb'
          · exact hn ⟨b', hb'⟩
        have q1 := hc3.evo.same k' (by rw [hsz0]; exact hk') hnB
        rw [show cB0.w.heap[k']? = c.w.heap[k']? from World.putObj_heap_other hne] at q1
        rw [← q1]
        exact World.putObj_heap_other hne
      imm := fun k' q h => by
        have hne : k' ≠ k := fun e => by rw [e] at h; exact h10 q h
        obtain ⟨q1, q2⟩ := hc3.evo.imm k' q h
        exact ⟨.inl q1, by
          rw [show cB0.w.cell? ⟨k', q, none⟩ = c.w.cell? ⟨k', q, none⟩ from cell_ne _ _ _ _ hne] at q2
          rw [← q2]; exact cell_ne _ _ _ _ hne⟩
      imold := fun k' q h hk' hn => by
        have hnB : ¬ ∃ b', cB0.ρ b' = some (some k') := fun ⟨b', hb'⟩ => by
          simp only [cB0, cA] at hb'
          split at hb'
          · simp at hb'
          · exact hn ⟨b', hb'⟩
        exact hc3.evo.imold k' q (imO _ _ h) (by rw [hsz0]; exact hk') hnB
      us := fun b' h => .inr h
      ρ := fun b' h => by
        by_cases e : b' = b
        · exact .inl (by simp [cF, e, h1])
        · cases hK : (mo.del b).has b' with
          | false => exact .inr (by simp [cF, e, cO, Cx.only, hK])
          | true =>
            rcases hc3.evo.ρ b' h with q1 | q1
            · exact .inl (by simp [cF, e, cO, Cx.only, hK, q1, cB0, cA])
            · exact .inr (by simp [cF, e, cO, Cx.only, hK, q1]) }
    mem := hmF
    fresh := fun b' k' h => by
      rcases hρF b' k' h with ⟨_, e2⟩ | ⟨_, _, e2⟩
      · exact .inl ⟨b, e2 ▸ h1⟩
      · rcases hc3.fresh b' k' e2 with ⟨b'', hb''⟩ | hk
        · refine .inl ⟨b'', ?_⟩
          simp only [cB0, cA] at hb''
          split at hb''
          · simp at hb''
          · exact hb''
        · rw [hsz0] at hk; exact .inr hk
    us := fun b' h => by
      rcases h with h | h
      · obtain ⟨blk, hblk⟩ := has_iff.1 h
        have hne := hKb b' h
        rw [Mem.get_del, if_neg hne] at hblk
        rcases hc3.us b' (us_of_get hc3.mem (hok.sub b' blk hne hblk)) with q1 | q1
        · exact .inl q1
        · exact .inr (.inr ⟨q1, (hok.ok b' blk hne hblk).2⟩)
      · exact .inl h }
  have husF : ∀ b', cF.us b' → c.us b' ∨ (nx ≤ b' ∧ b' < nx') := fun b' h => by
    rcases h with h | h
    · obtain ⟨blk, hblk⟩ := has_iff.1 h
      have hne := hKb b' h
      rw [Mem.get_del, if_neg hne] at hblk
      rcases hc3.us b' (us_of_get hc3.mem (hok.sub b' blk hne hblk)) with q1 | q1
      · exact .inl q1
      · exact .inr ⟨q1, (hok.ok b' blk hne hblk).2⟩
    · exact .inl h
  have hend : (Instr.endRound k ax.jump).run P c3.w = .ok (.bool ax.jump.isNone) cF.w := run_endRound ax.jump t1
  cases ax with
  | normal => exact ⟨_, _, hend, _, cF, rfl, rfl, hnF, husF, by rw [hrr]; exact .at _⟩
  | exit i => exact ⟨_, _, hend, _, cF, rfl, rfl, hnF, husF, by rw [hrr]; exact .at _⟩
  | ret => exact ⟨_, _, hend, _, cF, rfl, rfl, hnF, husF, by rw [hrr]; exact .at _⟩
end Go.Abs
namespace Go.Abs
theorem all_one {l : List Value} (h : l.all Value.oneCell' = true) : ∀ v ∈ l, v.oneCell' = true := fun v hv => List.all_eq_true.1 h v hv
def TblAll (P : Program) : Tbl → Prop
  | [] => True
  | (t, ti) :: r => TiOk P t ti ∧ TblAll P r
theorem tblOk_all {P : Program} {T : Tbl} (h : TblAll P T) : TblOk P T := by
  induction T with
  | nil => intro t ti h; simp [Tbl.get] at h
  | cons p r ih =>
    obtain ⟨j, x⟩ := p
    intro t ti ht
    simp only [Tbl.get] at ht
    split at ht
    · rename_i e
      subst e
      obtain rfl := Option.some.inj ht
      exact h.1
    · exact ih h.2 t ti ht
end Go.Abs
namespace Go.Abs
variable {P : Program} {T : Tbl}

def V.clA : V → Bool
  | .agg xs => xs.all V.cl
  | .fn _ a b => a.all V.cl && b.all V.cl
  | x => x.cl
def V.clT : V → Bool
  | .tup xs => xs.all V.clA
  | x => x.clA

theorem clA_rel {c c' : Cx} (e : Evo (fun _ => True) c.cl c'.cl) {x : V} {v : Value} (h : Rel c x v) (hc : x.clA = true) : Rel c' x v := by
  have one : ∀ {x : V} {v : Value}, Rel c x v → x.cl = true → Rel c' x v := fun h hc => ((h.close hc).evo e).open
  cases x with
  | agg xs =>
    cases h with
    | agg _ vs hl hr =>
      simp only [V.clA, List.all_eq_true] at hc
      exact .agg _ _ hl fun i h1 h2 => one (hr i h1 h2) (hc _ (List.getElem_mem _))
  | fn f as bs =>
    cases h with
    | fn _ _ _ fs cs hl1 hl2 hr1 hr2 =>
      simp only [V.clA, Bool.and_eq_true, List.all_eq_true] at hc
      exact .fn f _ _ _ _ hl1 hl2 (fun i h1 h2 => one (hr1 i h1 h2) (hc.1 _ (List.getElem_mem _))) (fun i h1 h2 => one (hr2 i h1 h2) (hc.2 _ (List.getElem_mem _)))
  | _ => exact one h (by simpa [V.clA] using hc)
theorem clT_rel {c c' : Cx} (e : Evo (fun _ => True) c.cl c'.cl) {x : V} {v : Value} (h : Rel c x v) (hc : x.clT = true) : Rel c' x v := by
  cases x with
  | tup xs =>
    cases h with
    | tup _ vs hl hr =>
      simp only [V.clT, List.all_eq_true] at hc
      exact .tup _ _ hl fun i h1 h2 => clA_rel e (hr i h1 h2) (hc _ (List.getElem_mem _))
  | _ => exact clA_rel e h (by simpa [V.clT] using hc)

/-- A contract over no blocks holds ahead of whatever number. -/
theorem Sound.at {f : FuncId} {xs : List V} {n0 n : Nat} {x : V} (h : Sound P f xs n0 [] x [] n) (hxs : xs.all V.clA = true) (hx : x.clT = true) (nx nx' : Nat) : Sound P f xs nx [] x [] nx' := by
  obtain ⟨h0, h1⟩ := h
  refine ⟨h0, fun c vs hm hnx hrel => ?_⟩
  have hev : Evo (fun _ => True) c.cl ({ c with ρ := fun _ => none, us := fun _ => False } : Cx).cl :=
    ⟨rfl, rfl, rfl, Nat.le_refl _, fun _ C _ _ h => ⟨C, h, rfl⟩, fun _ _ _ => rfl, fun _ _ h => ⟨h, rfl⟩, fun _ _ h _ _ => h, fun _ h => h, fun _ h => h.elim⟩
  have hm0 : MemRel { c with ρ := fun _ => none, us := fun _ => False } [] := ⟨fun b => rfl, fun b b' k h => by simp at h, fun _ _ => rfl, hm.imlt⟩
  refine Calls.mono (h1 { c with ρ := fun _ => none, us := fun _ => False } vs hm0 (fun _ h => h.elim) ⟨hrel.1, fun i h1 h2 => clA_rel hev (hrel.2 i h1 h2) (by simp only [List.all_eq_true] at hxs; exact hxs _ (List.getElem_mem _))⟩) fun e w' hp => ?_
  obtain ⟨v, c', rfl, rfl, hn, hus, hr⟩ := hp
  refine ⟨v, { c' with ρ := fun _ => none, us := c.us }, rfl, rfl, ⟨⟨hn.evo.os, hn.evo.tape, hn.evo.output, hn.evo.size, hn.evo.keep, ?_, hn.evo.imm, ?_, fun _ h => h, fun b _ => .inr rfl⟩, ⟨fun b => rfl, fun b b' k h => by simp at h, fun _ _ => rfl, hn.mem.imlt⟩, fun b k h => by simp at h, fun b h => .inl h⟩, fun b h => .inl h, ?_⟩
  · exact fun k hk _ => hn.evo.same k hk (fun ⟨b, hb⟩ => by simp at hb)
  · exact fun k o h hk _ => hn.evo.imold k o h hk (fun ⟨b, hb⟩ => by simp at hb)
  · exact clT_rel (c := c') (c' := { c' with ρ := fun _ => none, us := c.us }) ⟨rfl, rfl, rfl, Nat.le_refl _, fun _ C _ _ h => ⟨C, h, rfl⟩, fun _ _ _ => rfl, fun _ _ h => ⟨h, rfl⟩, fun _ _ h _ _ => h, fun _ h => h, fun _ h => h.elim⟩ hr hx

end Go.Abs
namespace Go.Abs
variable {P : Program} {T : Tbl}
theorem no_get {b : Nat} {blk : Blk} {p : Prop} (h : Mem.get [] b = some blk) : p := by simp [Mem.get] at h
theorem no_has {b : Nat} {p : Prop} (h : Mem.has [] b = true) : p := by simp [Mem.has, Mem.get] at h
theorem cl_mvOk {m : Mem} {K : Nat → Bool} {mv : List Nat} {x : V} (h : x.cl = true) : mvOk m K mv x := by
  cases x <;> simp_all [mvOk, V.cl]
theorem clA_mvAOk {m : Mem} {K : Nat → Bool} {mv : List Nat} {x : V} (h : x.clA = true) : mvAOk m K mv x := by
  cases x with
  | agg cs =>
    simp only [V.clA, List.all_eq_true] at h
    exact fun y hy => cl_mvOk (h y hy)
  | fn f a b =>
    simp only [V.clA, Bool.and_eq_true, List.all_eq_true] at h
    exact ⟨fun y hy => cl_mvOk (h.1 y hy), fun y hy => cl_mvOk (h.2 y hy)⟩
  | _ => exact cl_mvOk (m := m) (K := K) (mv := mv) (by simpa [V.clA] using h)
theorem mvA_nil {m : Mem} (y : V) : mvA m [] y = y := by
  have h1 : mvV m [] = id := funext fun y => by cases y <;> simp [mvV]
  cases y <;> simp [mvA, h1]
/-- A call that is lent no blocks, and handed none. -/
theorem call0 {f : FuncId} {xs : List V} {m : Mem} {nx : Nat} {K : KT} {x : V} {n0 n : Nat} (hs : Sound P f xs n0 [] x [] n) (hxs : xs.all V.clA = true) (hx : x.clT = true) (hK : K x [] [] nx) : CallW P (.f f) xs m nx K := by
  refine .mk [] [] [] x nx (fun _ _ h => no_get h) (fun _ h => by simp at h) (fun _ _ h => no_get h) (fun _ h => no_has h) (fun y hy => ?_) ?_ hK
  · simp only [List.all_eq_true] at hxs
    exact clA_mvAOk (hxs y hy)
  · rw [show mvA m [] = id from funext mvA_nil, List.map_id]
    exact hs.at hxs hx _ _
end Go.Abs
namespace Go.Abs
variable {P : Program} {T : Tbl}

/-- A contract that is lent blocks, and hands back just these, holds ahead of whatever greater number. -/
theorem Sound.up {f : FuncId} {xs : List V} {n0 n : Nat} {mi mo : Mem} {x : V} (h : Sound P f xs n0 mi x mo n) (hmi : ∀ b blk, mi.get b = some blk → BlkOk mi.has blk ∧ b < n0) (hmo : ∀ b, mo.has b = mi.has b)
    (hmob : ∀ b blk, mo.get b = some blk → BlkOk mo.has blk) (hxs : ∀ y ∈ xs, mvAOk mi mi.has [] y) (hx : x.clT = true) {nx : Nat} (hle : n0 ≤ nx) (nx' : Nat) : Sound P f xs nx mi x mo nx' := by
  obtain ⟨h0, h1⟩ := h
  refine ⟨h0, fun c vs hm hnx hrel => ?_⟩
  have honly := only_mem (mi := mi) (mv := []) hm (fun _ _ h => h) (fun _ h => by simp at h) (fun b blk hb => (hmi b blk hb).1)
  refine Calls.mono (h1 (c.only mi.has (mvIm c [])) vs honly (fun b hb => by obtain ⟨blk, h⟩ := has_iff.1 hb.1; exact (hmi b blk h).2) ⟨hrel.1, fun i h1 h2 => ?_⟩) fun e w' hp => ?_
  · have := mvA_rel (mv := []) (K := mi.has) hm (fun _ h => by simp at h) (hrel.2 i h1 h2) (hxs _ (List.getElem_mem _))
    rwa [mvA_nil] at this
  · obtain ⟨v, c1, rfl, rfl, hn, hus, hr⟩ := hp
    have honly2 := only_mem (mi := mo) (mv := []) hn.mem (fun _ _ h => h) (fun _ h => by simp at h) hmob
    have hn2 : Nxt (c.only mi.has (mvIm c [])) (c1.only mo.has (mvIm c1 [])) mo nx nx nx' := {
      evo := {
        os := hn.evo.os
        tape := hn.evo.tape
        output := hn.evo.output
        size := hn.evo.size
        keep := hn.evo.keep
        same := hn.evo.same
        imm := fun k o h => ⟨.inl (hn.evo.imm k o h).1, (hn.evo.imm k o h).2⟩
        imold := fun k o h hk hS => by
          rcases h with h | ⟨b, hb, _⟩
          · exact hn.evo.imold k o h hk hS
          · simp at hb
        us := fun b hb => ⟨by rw [hmo]; exact hb.1, hn.evo.us b hb⟩
        ρ := fun b hb => by
          simp only [Cx.only, hmo, hb.1, if_true]
          simpa [Cx.only, hb.1] using hn.evo.ρ b hb }
      mem := honly2
      fresh := fun b k hb => by
        simp only [Cx.only] at hb
        split at hb
        · exact hn.fresh b k hb
        · simp at hb
      us := fun b hb => by
        have h1 : mi.has b = true := by rw [← hmo]; exact hb.1
        obtain ⟨blk, h2⟩ := has_iff.1 h1
        exact .inl ⟨h1, us_of_get hm h2⟩ }
    have hmc : ∀ b, mo.get b = callMem mi mi [] nx nx' mo b := fun b => by
      unfold callMem
      split
      · cases hb : mi.has b with
        | true => simp
        | false =>
          have h1 : mo.has b = false := by rw [hmo]; exact hb
          have h2 : mo.get b = none := by simpa [Mem.has] using h1
          have h3 : mi.get b = none := by simpa [Mem.has] using hb
          simp [h2, h3]
      · rfl
    obtain ⟨g1, g2⟩ := back_nxt (id := nx) hm (fun b hb => .inl (hnx b hb)) (fun _ _ h => h) hn2 (fun b hb => by
      rcases hn2.us b hb with h1 | h1 | h1
      · exact .inl h1
      · exfalso
        have h2 : mi.has b = true := by rw [← hmo]; exact hb.1
        obtain ⟨blk, h3⟩ := has_iff.1 h2
        have := (hmi b blk h3).2
        omega
      · exfalso
        have h2 : mi.has b = true := by rw [← hmo]; exact hb.1
        obtain ⟨blk, h3⟩ := has_iff.1 h2
        have := (hmi b blk h3).2
        omega) hmc
    refine ⟨v, c.back (c1.only mo.has (mvIm c1 [])) mi.has [] nx nx', rfl, rfl, g1, fun b hb => ?_, ?_⟩
    · rcases hb with hb | hb
      · exact .inl hb
      · have h2 : mi.has b = true := by rw [← hmo]; exact hb.1
        obtain ⟨blk, h3⟩ := has_iff.1 h2
        exact .inl (us_of_get hm h3)
    · refine clT_rel (c := c1) (c' := c.back (c1.only mo.has (mvIm c1 [])) mi.has [] nx nx') ⟨rfl, rfl, rfl, Nat.le_refl _, fun _ C _ _ h => ⟨C, h, rfl⟩, fun _ _ _ => rfl, fun _ _ h => ⟨.inl h, rfl⟩, fun _ _ _ _ hS => absurd trivial hS, fun _ h => h, fun _ h => h.elim⟩ hr hx

def mvFresh (mi : Mem) (nx : Nat) : List Nat → Prop
  | [] => True
  | b :: r => (if mi.has b then False else b < nx) ∧ mvFresh mi nx r
def moNew (mi : Mem) (nx nx' : Nat) : Mem → Prop
  | [] => True
  | (b, _) :: r => (if mi.has b then True else nx ≤ b ∧ b < nx') ∧ moNew mi nx nx' r
/-- What must be so of a call, reckoned. -/
def callOk (A : Ar) (m : Mem) (mi : Mem) (mv : List Nat) (mo : Mem) (nx nx' : Nat) (xs : List V) : Prop :=
  moEq m mi ∧ mvFresh mi nx mv ∧ blkOks mi.has nx mi ∧ moNew mi nx nx' mo ∧ allOk A m mi.has mv xs

theorem moEq_spec {m : Mem} : ∀ (l : Mem), moEq m l → ∀ b blk, l.get b = some blk → m.get b = some blk := by
  intro l
  induction l with
  | nil => intro _ b blk hb; simp [Mem.get] at hb
  | cons p r ih =>
    obtain ⟨j, y⟩ := p
    intro hl b blk hb
    simp only [Mem.get] at hb
    split at hb
    · rename_i e
      subst e
      simp only [Option.some.injEq] at hb
      subst hb
      have := hl.1
      split at this
      · rename_i hq; rw [hq, this]
      · exact this.elim
    · exact ih hl.2 b blk hb
theorem blkOks_spec {K : Nat → Bool} {nx : Nat} : ∀ (l : Mem), blkOks K nx l → ∀ b blk, l.get b = some blk → BlkOk K blk ∧ b < nx := by
  intro l
  induction l with
  | nil => intro _ b blk hb; simp [Mem.get] at hb
  | cons p r ih =>
    obtain ⟨j, y⟩ := p
    intro hl b blk hb
    simp only [Mem.get] at hb
    split at hb
    · rename_i e
      subst e
      simp only [Option.some.injEq] at hb
      subst hb
      exact ⟨bOkC_spec hl.1.2, hl.1.1⟩
    · exact ih hl.2 b blk hb
theorem allOk_spec {m : Mem} {K : Nat → Bool} {mv : List Nat} : ∀ (xs : List V), allOk Ar.std m K mv xs → ∀ y ∈ xs, mvAOk m K mv y := by
  intro xs
  induction xs with
  | nil => intro _ y hy; simp at hy
  | cons z r ih =>
    intro h y hy
    rcases List.mem_cons.1 hy with rfl | hy
    · exact okA_spec h.1
    · exact ih h.2 y hy

/-- A call that is lent the blocks 'mi', and handed the blocks 'mv' for good. -/
theorem callC {A : Ar} (hA : Ar.std = A) {f : FuncId} {xs : List V} {m : Mem} {nx : Nat} {K : KT} {mi mo : Mem} {mv : List Nat} {x : V} {nx' : Nat} {xs' : List V} (hok : callOk A m mi mv mo nx nx' xs)
    (hxs : xs.map (mvAA A m mv) = xs') (hs : Sound P f xs' nx mi x mo nx') (hK : K x (callδ mi mv nx mo) (mi.map (·.1) ++ mv) nx') : CallW P (.f f) xs m nx K := by
  subst hA
  obtain ⟨h1, h2, h3, h4, h5⟩ := hok
  refine .mk mi mo mv x nx' (moEq_spec mi h1) ?_ (blkOks_spec mi h3) ?_ (allOk_spec xs h5) (by rw [← mvAA_std, hxs]; exact hs) hK
  · clear h5 hxs hK hs
    induction mv with
    | nil => intro b hb; simp at hb
    | cons q r ih =>
      intro b hb
      rcases List.mem_cons.1 hb with rfl | hb
      · have := h2.1
        split at this
        · exact this.elim
        · rename_i hq
          exact ⟨by simpa using hq, this⟩
      · exact ih h2.2 b hb
  · have : ∀ (l : Mem), moNew mi nx nx' l → ∀ b, l.has b = true → mi.has b = true ∨ (nx ≤ b ∧ b < nx') := by
      intro l
      induction l with
      | nil => intro _ b hb; exact no_has hb
      | cons p r ih =>
        obtain ⟨j, y⟩ := p
        intro hl b hb
        by_cases e : b = j
        · subst e
          have := hl.1
          split at this
          · rename_i hq; exact .inl hq
          · exact .inr this
        · exact ih hl.2 b (by simpa [Mem.has, Mem.get, e] using hb)
    exact this mo h4

def sameIds : Mem → Mem → Prop
  | [], [] => True
  | (b, _) :: r, (b', _) :: r' => b' = b ∧ sameIds r r'
  | _, _ => False
theorem sameIds_spec : ∀ {m m' : Mem}, sameIds m m' → ∀ b, m'.has b = m.has b := by
  intro m
  induction m with
  | nil => intro m' h b; cases m' with | nil => rfl | cons => exact h.elim
  | cons p r ih =>
    obtain ⟨j, y⟩ := p
    intro m' h b
    cases m' with
    | nil => exact h.elim
    | cons q r' =>
      obtain ⟨j', y'⟩ := q
      obtain ⟨rfl, h2⟩ := h
      have := ih h2 b
      simp only [Mem.has, Mem.get] at this ⊢
      split
      · rfl
      · exact this
theorem allOk_nil {A : Ar} {m m' : Mem} {K : Nat → Bool} {xs : List V} (h : allOk A m K [] xs) : allOk A m' K [] xs := by
  have h1 : okV A m K [] = okV A m' K [] := funext fun x => by cases x <;> simp [okV]
  have h2 : okVs A m K [] = okVs A m' K [] := funext fun xs => by
    induction xs with
    | nil => rfl
    | cons x r ih => simp only [okVs, h1, ih]
  have h3 : okA A m K [] = okA A m' K [] := funext fun x => by cases x <;> simp only [okA, h1, h2]
  induction xs with
  | nil => trivial
  | cons x r ih => exact ⟨by rw [← h3]; exact h.1, ih h.2⟩
/-- What must be so of what is lent, reckoned. -/
def upOk (A : Ar) (m mi mo : Mem) (n0 nx : Nat) (xs : List V) : Prop :=
  (moEq m mi ∧ n0 ≤ nx) ∧ blkOks mi.has n0 mi ∧ blkOks mo.has n0 mo ∧ sameIds mi mo ∧ allOk A m mi.has [] xs
/-- A call that is lent the blocks 'mi' and hands them back, by a contract whose numbers are these. -/
theorem callU {A : Ar} (hA : Ar.std = A) {f : FuncId} {xs : List V} {m : Mem} {n0 n nx : Nat} {K : KT} {mi mo : Mem} {x : V} (hs : Sound P f xs n0 mi x mo n) (hok : upOk A m mi mo n0 nx xs) (hx : x.clT = true)
    (hK : K x (callδ mi [] nx mo) (mi.map (·.1)) nx) : CallW P (.f f) xs m nx K := by
  obtain ⟨⟨h1, h2⟩, h3, h4, h5, h6⟩ := hok
  have hb := blkOks_spec mi h3
  have hb' := blkOks_spec mo h4
  have hsame := sameIds_spec h5
  have hs' := hs.up hb hsame (fun b blk h => (hb' b blk h).1) (by subst hA; exact allOk_spec xs (allOk_nil h6)) hx h2 nx
  refine .mk mi mo [] x nx (moEq_spec mi h1) (fun b hb => by simp at hb) (fun b blk h => ⟨(hb b blk h).1, Nat.lt_of_lt_of_le (hb b blk h).2 h2⟩) (fun b h => .inl (by rw [← hsame]; exact h)) (by subst hA; exact allOk_spec xs h6) ?_ (by simpa using hK)
  rw [show mvA m [] = id from funext mvA_nil, List.map_id]
  exact hs'
/-- A call that is handed the blocks 'mv' for good, and lent none. -/
theorem callV {A : Ar} (hA : Ar.std = A) {f : FuncId} {xs xs' : List V} {m : Mem} {n0 n nx : Nat} {K : KT} (mv : List Nat) {x : V} (hs : Sound P f xs' n0 [] x [] n) (hok : callOk A m [] mv [] nx nx xs) (hxs : xs.map (mvAA A m mv) = xs')
    (hcl : xs'.all V.clA = true) (hx : x.clT = true) (hK : K x (callδ [] mv nx []) mv nx) : CallW P (.f f) xs m nx K :=
  callC hA hok hxs (hs.at hcl hx _ _) hK
end Go.Abs
namespace Go.Abs
theorem ElW.at {es : List (List V)} {y z : Int} {el : List V} {K : List V → Prop} (hz : y = z) (h0 : 0 ≤ z) (h : es[z.toNat]? = some el) (hK : K el) : ElW es y K := by
  subst hz
  exact .mk el h0 h hK
end Go.Abs
namespace Go.Abs
variable {P : Program} {T : Tbl}

/-- A yield's contract holds ahead of whatever greater number. -/
theorem SoundY.up {f : Nat} {xs : List V} {n0 n : Nat} {mi mo : Mem} {x : V} (h : SoundY P f xs n0 mi x mo n) (hmi : ∀ b blk, mi.get b = some blk → BlkOk mi.has blk ∧ b < n0) (hmo : ∀ b, mo.has b = mi.has b)
    (hmob : ∀ b blk, mo.get b = some blk → BlkOk mo.has blk) (hxs : ∀ y ∈ xs, mvAOk mi mi.has [] y) (hx : x.clT = true) {nx : Nat} (hle : n0 ≤ nx) (nx' : Nat) : SoundY P f xs nx mi x mo nx' := by
  obtain ⟨h0, h1⟩ := h
  refine ⟨h0, fun c vs hm hnx hrel => ?_⟩
  have honly := only_mem (mi := mi) (mv := []) hm (fun _ _ h => h) (fun _ h => by simp at h) (fun b blk hb => (hmi b blk hb).1)
  obtain ⟨k, fn, tmps, asg, body, g1, g2, g3⟩ := h1 (c.only mi.has (mvIm c [])) vs honly (fun b hb => by obtain ⟨blk, h⟩ := has_iff.1 hb.1; exact (hmi b blk h).2) ⟨hrel.1, fun i h1 h2 => by
    have := mvA_rel (mv := []) (K := mi.has) hm (fun _ h => by simp at h) (hrel.2 i h1 h2) (hxs _ (List.getElem_mem _))
    rwa [mvA_nil] at this⟩
  have g1' : c.ρ f = some (some k) := by
    have : mi.has f = true := h0
    simpa [Cx.only, this] using g1
  refine ⟨k, fn, tmps, asg, body, g1', g2, RoundIn.mono g3 fun e w' hp => ?_⟩
  obtain ⟨v, c1, rfl, rfl, hn, hus, hr⟩ := hp
  have honly2 := only_mem (mi := mo) (mv := []) hn.mem (fun _ _ h => h) (fun _ h => by simp at h) hmob
  have hn2 : Nxt (c.only mi.has (mvIm c [])) (c1.only mo.has (mvIm c1 [])) mo nx nx nx' := {
    evo := {
      os := hn.evo.os
      tape := hn.evo.tape
      output := hn.evo.output
      size := hn.evo.size
      keep := hn.evo.keep
      same := hn.evo.same
      imm := fun k o h => ⟨.inl (hn.evo.imm k o h).1, (hn.evo.imm k o h).2⟩
      imold := fun k o h hk hS => by
        rcases h with h | ⟨b, hb, _⟩
        · exact hn.evo.imold k o h hk hS
        · simp at hb
      us := fun b hb => ⟨by rw [hmo]; exact hb.1, hn.evo.us b hb⟩
      ρ := fun b hb => by
        simp only [Cx.only, hmo, hb.1, if_true]
        simpa [Cx.only, hb.1] using hn.evo.ρ b hb }
    mem := honly2
    fresh := fun b k hb => by
      simp only [Cx.only] at hb
      split at hb
      · exact hn.fresh b k hb
      · simp at hb
    us := fun b hb => by
      have h1 : mi.has b = true := by rw [← hmo]; exact hb.1
      obtain ⟨blk, h2⟩ := has_iff.1 h1
      exact .inl ⟨h1, us_of_get hm h2⟩ }
  have hmc : ∀ b, mo.get b = callMem mi mi [] nx nx' mo b := fun b => by
    unfold callMem
    split
    · cases hb : mi.has b with
      | true => simp
      | false =>
        have h1 : mo.has b = false := by rw [hmo]; exact hb
        have h2 : mo.get b = none := by simpa [Mem.has] using h1
        have h3 : mi.get b = none := by simpa [Mem.has] using hb
        simp [h2, h3]
    · rfl
  have out : ∀ b, mo.has b = true → b < n0 ∧ c.us b := fun b hb => by
    have h2 : mi.has b = true := by rw [← hmo]; exact hb
    obtain ⟨blk, h3⟩ := has_iff.1 h2
    exact ⟨(hmi b blk h3).2, us_of_get hm h3⟩
  obtain ⟨q1, q2⟩ := back_nxt (id := nx) hm (fun b hb => .inl (hnx b hb)) (fun _ _ h => h) hn2 (fun b hb => by
    rcases hn2.us b hb with h1 | h1 | h1
    · exact .inl h1
    · have := (out b hb.1).1; omega
    · have := (out b hb.1).1; omega) hmc
  refine ⟨v, c.back (c1.only mo.has (mvIm c1 [])) mi.has [] nx nx', rfl, rfl, q1, fun b hb => ?_, ?_⟩
  · rcases hb with hb | hb
    · exact .inl hb
    · exact .inl (out b hb.1).2
  · refine clT_rel (c := c1) (c' := c.back (c1.only mo.has (mvIm c1 [])) mi.has [] nx nx') ⟨rfl, rfl, rfl, Nat.le_refl _, fun _ C _ _ h => ⟨C, h, rfl⟩, fun _ _ _ => rfl, fun _ _ h => ⟨.inl h, rfl⟩, fun _ _ _ _ hS => absurd trivial hS, fun _ h => h, fun _ h => h.elim⟩ hr hx

/-- A yield that is lent the blocks 'mi' and hands them back, by a contract whose numbers are these. -/
theorem callY {A : Ar} (hA : Ar.std = A) {f : Nat} {xs : List V} {m : Mem} {n0 n nx : Nat} {K : KT} {mi mo : Mem} {x : V} (hs : SoundY P f xs n0 mi x mo n) (hok : upOk A m mi mo n0 nx xs) (hx : x.clT = true)
    (hK : K x (callδ mi [] nx mo) (mi.map (·.1)) nx) : CallW P (.y f) xs m nx K := by
  obtain ⟨⟨h1, h2⟩, h3, h4, h5, h6⟩ := hok
  have hb := blkOks_spec mi h3
  have hb' := blkOks_spec mo h4
  have hsame := sameIds_spec h5
  have hs' := hs.up hb hsame (fun b blk h => (hb' b blk h).1) (by subst hA; exact allOk_spec xs (allOk_nil h6)) hx h2 nx
  refine .mk mi mo [] x nx (moEq_spec mi h1) (fun b hb => by simp at hb) (fun b blk h => ⟨(hb b blk h).1, Nat.lt_of_lt_of_le (hb b blk h).2 h2⟩) (fun b h => .inl (by rw [← hsame]; exact h)) (by subst hA; exact allOk_spec xs h6) ?_ (by simpa using hK)
  rw [show mvA m [] = id from funext mvA_nil, List.map_id]
  exact hs'

/-- A range over a function, reckoned. 'lc': its record, a thing not looked into. -/
theorem rangeC {A : Ar} (hA : Ar.std = A) {N nx0 : Nat} {f : Operand} {ps : Array Tmp} {asg body : Code} {s : St} {Q : SP} (mv : List Nat) (τ : List (Nat × Option Nat)) (s0 : St) (k : FuncId) (cap : List V) (hle : leC A mv τ nx0 s s0) (hev : s0.ev f = .fn (.func k) [] cap)
    (rf : List Nat) (hrf : refTC (fun b => rf.contains b) s0.t) (h : ∀ lc, lc = ⟨N, s0.t, ps, asg, body⟩ → ∃ (mi mo : Mem) (x : V) (nx' : Nat) (j : Option Code), Sound P k (V.yld s0.nx :: cap) (s0.nx + 1) mi x mo nx' ∧
      (callOk A (s0.m.set s0.nx (.loop rf lc none)) mi [] mo (s0.nx + 1) nx' (V.yld s0.nx :: cap) ∧ mi.has s0.nx = true ∧ s0.nx + 1 ≤ nx' ∧ (match mo.get s0.nx with | some (.loop rf' lc' j') => rf' = rf ∧ lc' = lc ∧ j' = j | _ => False)) ∧
      (match j with
       | none => Q .normal { t := s0.t, m := ((s0.m.set s0.nx (.loop rf lc none)).app (callδ mi [] (s0.nx + 1) mo)).del s0.nx, nx := nx' }
       | some .ret => Q .ret { t := s0.t, m := ((s0.m.set s0.nx (.loop rf lc none)).app (callδ mi [] (s0.nx + 1) mo)).del s0.nx, nx := nx' }
       | some (.exit i) => Q (.exit i) { t := s0.t, m := ((s0.m.set s0.nx (.loop rf lc none)).app (callδ mi [] (s0.nx + 1) mo)).del s0.nx, nx := nx' }
       | _ => False)) : RangeW P N nx0 f ps asg body s Q := by
  obtain ⟨mi, mo, x, nx', j, hs, ⟨⟨h1, h2, h3, h4, h5⟩, g1, g2, g3⟩, hQ⟩ := h _ rfl
  have hmo : ∀ b, mo.has b = true → mi.has b = true ∨ (s0.nx + 1 ≤ b ∧ b < nx') := by
    have : ∀ (l : Mem), moNew mi (s0.nx + 1) nx' l → ∀ b, l.has b = true → mi.has b = true ∨ (s0.nx + 1 ≤ b ∧ b < nx') := by
      intro l
      induction l with
      | nil => intro _ b hb; exact no_has hb
      | cons p r ih =>
        obtain ⟨j, y⟩ := p
        intro hl b hb
        by_cases e : b = j
        · subst e
          have := hl.1
          split at this
          · rename_i hq; exact .inl hq
          · exact .inr this
        · exact ih hl.2 b (by simpa [Mem.has, Mem.get, e] using hb)
    exact this mo h4
  refine .mk s0 k cap rf mi mo x nx' j (le_of hA hle) (refTC_spec hrf) hev (moEq_spec mi h1) g1 (blkOks_spec mi h3) hmo (by subst hA; exact allOk_spec _ h5) hs ?_ g2 hQ
  split at g3
  · rename_i hq
    rw [hq, g3.1, g3.2.1, g3.2.2]
  · exact g3.elim

/-- What must be so behind a round, reckoned. -/
def roundC (b : Nat) (rf : List Nat) (lc : LoopC) (ax : AX) (m mo : Mem) (nx' : Nat) : Prop :=
  ((match mo.get b with | some (.loop rf' lc' j') => rf' = rf ∧ lc' = lc ∧ j' = ax.jump | _ => False) ∧ moEq m (mo.del b)) ∧ blkOks (mo.del b).has nx' (mo.del b)
/-- A round's end: a reckoning stops here. -/
inductive RoundS (nx0 b : Nat) (rf : List Nat) (lc : LoopC) (ax : AX) (s : St) (r : Bool) (mo : Mem) (nx' : Nat) : Prop
  | mk (s2 : St) : Le nx0 s s2 → r = ax.jump.isNone → roundC b rf lc ax s2.m mo nx' → RoundS nx0 b rf lc ax s r mo nx'
def roundQ (nx0 b : Nat) (rf : List Nat) (lc : LoopC) (r : Bool) (mo : Mem) (nx' : Nat) : SP := fun e s => RoundS nx0 b rf lc e s r mo nx'

theorem soundY_of {A : Ar} (hA : Ar.std = A) (hT : TblOk P T) (hmix : P.follows .mixedOrders = true) {lc : LoopC} {N : Nat} {t : List (Nat × V)} {ps : Array Tmp} {asg body : Code} (hlc : lc = ⟨N, t, ps, asg, body⟩) {b nx nx' : Nat} {rf : List Nat} {xs : List V} {mi mo : Mem} {r : Bool}
    (hb : mi.get b = some (.loop rf lc none)) (hok : (ps.size = xs.length ∧ ps.toList.all (fun p => decide (p < N)) = true ∧ b < nx) ∧ allK (mo.del b).has rf)
    (hw : wpC A T P N nx false asg { t := putP ps.toList xs t, m := mi.del b, nx := nx } fun e s => match e with | .normal => wpC A T P N nx false body s (roundQ nx b rf lc r mo nx') | _ => False) :
    SoundY P b xs nx mi (.at (.bool r)) mo nx' := by
  subst hlc
  subst hA
  obtain ⟨⟨h1, h2, h3⟩, h4⟩ := hok
  refine soundY_fin hT hmix hb h1 (fun p hp => by simpa using List.all_eq_true.1 h2 p hp) (Q := roundQ nx b rf _ r mo nx') (fun ax s hq => ?_) h3 hw
  cases hq with
  | mk s2 hle hr hc =>
    obtain ⟨⟨g1, g2⟩, g3⟩ := hc
    have hdel : ∀ b', b' ≠ b → (mo.del b).get b' = mo.get b' := fun b' h => by rw [Mem.get_del, if_neg h]
    refine ⟨s2, .inr hle, hr, ?_, fun b' blk hne hb' => moEq_spec _ g2 b' blk (by rw [hdel b' hne]; exact hb'), fun b' blk hne hb' => blkOks_spec _ g3 b' blk (by rw [hdel b' hne]; exact hb'), allK_spec h4⟩
    split at g1
    · rename_i hq; rw [hq, g1.1, g1.2.1, g1.2.2]
    · exact g1.elim
end Go.Abs
namespace Go.Abs
variable {P : Program} {T : Tbl}

/-- Blocks by other numbers. -/
def renV (σ : Nat → Nat) : V → V
  | .msl sz b off n => .msl sz (σ b) off n
  | .aptr sz b i off => .aptr sz (σ b) i off
  | .bptr b off => .bptr (σ b) off
  | .mp b => .mp (σ b)
  | .yld b => .yld (σ b)
  | x => x
def renA (σ : Nat → Nat) : V → V
  | .agg cs => .agg (cs.map (renV σ))
  | .fn f a b => .fn f (a.map (renV σ)) (b.map (renV σ))
  | x => renV σ x
def renT (σ : Nat → Nat) : V → V
  | .tup cs => .tup (cs.map (renA σ))
  | x => renA σ x
def renB (σ : Nat → Nat) : Blk → Blk
  | .box ty cells => .box ty (cells.map (renV σ))
  | b => b
def renM (σ : Nat → Nat) : Mem → Mem
  | [] => []
  | (b, blk) :: r => (σ b, renB σ blk) :: renM σ r
/-- What a block must be, so that it may be told by other numbers. -/
def RenOk (σ : Nat → Nat) (K : Nat → Bool) : Blk → Prop
  | .box _ cells => ∀ x ∈ cells, refOk K x
  | .arr _ _ es => ClE es
  | .map _ _ => True
  | .loop rf _ _ => ∀ b ∈ rf, K b = true ∧ σ b = b
def refOkT (K : Nat → Bool) : V → Prop
  | .tup cs => ∀ x ∈ cs, refOkA K x
  | x => refOkA K x

section
variable {σ : Nat → Nat} {K : Nat → Bool} {c c' : Cx}
theorem renV_cl {x : V} (h : x.cl = true) : renV σ x = x := by cases x <;> simp_all [renV, V.cl]
/-- Values told of two contexts whose numbers part. -/
structure Twin (σ : Nat → Nat) (K : Nat → Bool) (c c' : Cx) : Prop where
  w : c'.w = c.w
  im : c'.im = c.im
  ρ : ∀ b, K b = true → c.ρ b = c'.ρ (σ b)
  us : ∀ b, K b = true → (c.us b ↔ c'.us (σ b))
theorem Twin.cl_evo (h : Twin σ K c c') : Evo (fun _ => True) c.cl c'.cl ∧ Evo (fun _ => True) c'.cl c.cl := by
  obtain ⟨w, im, ρ, us⟩ := c
  obtain ⟨w', im', ρ', us'⟩ := c'
  obtain ⟨h1, h2, _, _⟩ := h
  simp only at h1 h2
  subst h1 h2
  exact ⟨⟨rfl, rfl, rfl, Nat.le_refl _, fun _ C _ _ h => ⟨C, h, rfl⟩, fun _ _ h => absurd trivial h, fun _ _ h => ⟨h, rfl⟩, fun _ _ _ _ h => absurd trivial h, fun _ h => h, fun _ h => h.elim⟩,
    ⟨rfl, rfl, rfl, Nat.le_refl _, fun _ C _ _ h => ⟨C, h, rfl⟩, fun _ _ h => absurd trivial h, fun _ _ h => ⟨h, rfl⟩, fun _ _ _ _ h => absurd trivial h, fun _ h => h, fun _ h => h.elim⟩⟩
theorem Twin.msl (h : Twin σ K c c') {b : Nat} (hb : K b = true) {sz off n : Nat} {v : Value} : MslOk c sz b off n v ↔ MslOk c' sz (σ b) off n v := by
  unfold MslOk; rw [h.ρ b hb, h.w]
theorem Twin.ptr (h : Twin σ K c c') {b : Nat} (hb : K b = true) {o : Nat} {v : Value} : PtrOk c b o v ↔ PtrOk c' (σ b) o v := by
  unfold PtrOk; rw [h.ρ b hb]
theorem Twin.map (h : Twin σ K c c') {b : Nat} (hb : K b = true) {v : Value} : MapOk c b v ↔ MapOk c' (σ b) v := by
  unfold MapOk; rw [h.ρ b hb]
theorem Twin.yld (h : Twin σ K c c') {b : Nat} (hb : K b = true) {v : Value} : YldOk c b v ↔ YldOk c' (σ b) v := by
  unfold YldOk; rw [h.ρ b hb]
theorem Twin.rel (h : Twin σ K c c') {x : V} {v : Value} (hx : refOk K x) : Rel c x v ↔ Rel c' (renV σ x) v := by
  have closed : x.cl = true → (Rel c x v ↔ Rel c' (renV σ x) v) := fun hc => by
    rw [renV_cl hc]
    exact ⟨fun g => ((g.close hc).evo h.cl_evo.1).open, fun g => ((g.close hc).evo h.cl_evo.2).open⟩
  cases x with
  | msl sz b off n =>
    constructor
    · intro g; cases g with | msl _ _ _ _ _ h1 h2 => exact .msl _ _ _ _ _ ((h.us b hx).1 h1) ((h.msl hx).1 h2)
    · intro g; cases g with | msl _ _ _ _ _ h1 h2 => exact .msl _ _ _ _ _ ((h.us b hx).2 h1) ((h.msl hx).2 h2)
  | aptr sz b i off =>
    constructor
    · intro g; cases g with | aptr _ _ _ _ _ h1 h2 => exact .aptr _ _ _ _ _ ((h.us b hx).1 h1) ((h.ptr hx).1 h2)
    · intro g; cases g with | aptr _ _ _ _ _ h1 h2 => exact .aptr _ _ _ _ _ ((h.us b hx).2 h1) ((h.ptr hx).2 h2)
  | bptr b off =>
    constructor
    · intro g; cases g with | bptr _ _ _ h1 h2 => exact .bptr _ _ _ ((h.us b hx).1 h1) ((h.ptr hx).1 h2)
    · intro g; cases g with | bptr _ _ _ h1 h2 => exact .bptr _ _ _ ((h.us b hx).2 h1) ((h.ptr hx).2 h2)
  | mp b =>
    constructor
    · intro g; cases g with | mp _ _ h1 h2 => exact .mp _ _ ((h.us b hx).1 h1) ((h.map hx).1 h2)
    · intro g; cases g with | mp _ _ h1 h2 => exact .mp _ _ ((h.us b hx).2 h1) ((h.map hx).2 h2)
  | yld b =>
    constructor
    · intro g; cases g with | yld _ _ h1 h2 => exact .yld _ _ ((h.us b hx).1 h1) ((h.yld hx).1 h2)
    · intro g; cases g with | yld _ _ h1 h2 => exact .yld _ _ ((h.us b hx).2 h1) ((h.yld hx).2 h2)
  | _ => exact closed hx
theorem Twin.relA (h : Twin σ K c c') {x : V} {v : Value} (hx : refOkA K x) : Rel c x v ↔ Rel c' (renA σ x) v := by
  cases x with
  | agg cs =>
    constructor
    · intro g
      cases g with
      | agg _ vs h1 h2 =>
        exact .agg _ _ (by simpa using h1) fun i g1 g2 => by
          simp only [List.getElem_map]
          exact (h.rel (hx _ (List.getElem_mem _))).1 (h2 i (by simpa using g1) g2)
    · intro g
      generalize hz : renA σ (.agg cs) = z at g
      cases g with
      | agg ds vs h1 h2 =>
        simp only [renA, V.agg.injEq] at hz
        subst hz
        exact .agg _ _ (by simpa using h1) fun i g1 g2 => (h.rel (hx _ (List.getElem_mem _))).2 (by have := h2 i (by simpa using g1) g2; rwa [List.getElem_map] at this)
      | _ => simp [renA] at hz
  | fn f a b =>
    constructor
    · intro g
      cases g with
      | fn _ _ _ fs cs h1 h2 h3 h4 =>
        exact .fn f _ _ _ _ (by simpa using h1) (by simpa using h2) (fun i g1 g2 => by
          simp only [List.getElem_map]
          exact (h.rel (hx.1 _ (List.getElem_mem _))).1 (h3 i (by simpa using g1) g2)) (fun i g1 g2 => by
          simp only [List.getElem_map]
          exact (h.rel (hx.2 _ (List.getElem_mem _))).1 (h4 i (by simpa using g1) g2))
    · intro g
      generalize hz : renA σ (.fn f a b) = z at g
      cases g with
      | fn f' a' b' fs cs h1 h2 h3 h4 =>
        simp only [renA, V.fn.injEq] at hz
        obtain ⟨rfl, rfl, rfl⟩ := hz
        exact .fn f _ _ _ _ (by simpa using h1) (by simpa using h2) (fun i g1 g2 => (h.rel (hx.1 _ (List.getElem_mem _))).2 (by have := h3 i (by simpa using g1) g2; rwa [List.getElem_map] at this)) (fun i g1 g2 => (h.rel (hx.2 _ (List.getElem_mem _))).2 (by have := h4 i (by simpa using g1) g2; rwa [List.getElem_map] at this))
      | _ => simp [renA] at hz
  | tup cs => exact hx.elim
  | _ => simp only [refOkA] at hx; exact h.rel hx
theorem Twin.relT (h : Twin σ K c c') {x : V} {v : Value} (hx : refOkT K x) (g : Rel c x v) : Rel c' (renT σ x) v := by
  cases x with
  | tup cs =>
    cases g with
    | tup _ vs h1 h2 =>
      exact .tup _ _ (by simpa using h1) fun i g1 g2 => by
        simp only [List.getElem_map]
        exact (h.relA (hx _ (List.getElem_mem _))).1 (h2 i (by simpa using g1) g2)
  | _ => simp only [refOkT] at hx; exact (h.relA hx).1 g
theorem Twin.blk (h : Twin σ K c c') {b : Nat} (hb : K b = true) {blk : Blk} (hk : RenOk σ K blk) : BlkRel c b (some blk) ↔ BlkRel c' (σ b) (some (renB σ blk)) := by
  have hρ := h.ρ b hb
  obtain ⟨w, im, ρ, us⟩ := c
  obtain ⟨w', im', ρ', us'⟩ := c'
  obtain ⟨h1, h2, _, _⟩ := id h
  simp only at h1 h2 hρ
  subst h1 h2
  cases blk with
  | box ty cells =>
    simp only [BlkRel, renB, hρ, List.length_map, List.getElem_map]
    constructor
    · rintro ⟨k, C, g1, g2, g3, g4, g5⟩
      exact ⟨k, C, g1, g2, g3, fun j q q' => (h.rel (hk _ (List.getElem_mem _))).1 (g4 j q q'), g5⟩
    · rintro ⟨k, C, g1, g2, g3, g4, g5⟩
      exact ⟨k, C, g1, g2, g3, fun j q q' => (h.rel (hk _ (List.getElem_mem _))).2 (g4 j q q'), g5⟩
  | arr ty sz es =>
    have key : ∀ {i j : Nat} {hi : i < es.length} {hj : j < es[i].length} {u : Value}, Rel { w := w', im := im', ρ := ρ, us := us } es[i][j] u ↔ Rel { w := w', im := im', ρ := ρ', us := us' } es[i][j] u := fun {i j hi hj u} => by
      have hc := hk _ (List.getElem_mem hi) _ (List.getElem_mem hj)
      exact ⟨fun g => ((g.close hc).evo h.cl_evo.1).open, fun g => ((g.close hc).evo h.cl_evo.2).open⟩
    simp only [BlkRel, renB, hρ]
    constructor
    · rintro (g | ⟨k, C, cap, g1, g2, g3, g4, g5, g6, g7, g8⟩)
      · exact .inl g
      · exact .inr ⟨k, C, cap, g1, g2, g3, g4, g5, g6, fun i hi j hj => let ⟨u, q1, q2⟩ := g7 i hi j hj; ⟨u, q1, key.1 q2⟩, g8⟩
    · rintro (g | ⟨k, C, cap, g1, g2, g3, g4, g5, g6, g7, g8⟩)
      · exact .inl g
      · exact .inr ⟨k, C, cap, g1, g2, g3, g4, g5, g6, fun i hi j hj => let ⟨u, q1, q2⟩ := g7 i hi j hj; ⟨u, q1, key.2 q2⟩, g8⟩
  | map kk kvs => simp only [BlkRel, renB, hρ]
  | loop rf lc j =>
    have hx : ∀ {x : V} {u : Value}, refOkA (fun b => rf.contains b) x → (Rel { w := w', im := im', ρ := ρ, us := us } x u ↔ Rel { w := w', im := im', ρ := ρ', us := us' } x u) := fun {x u} hr => by
      have hr' : refOkA K x := refOkA_mono (fun b hb => (hk b (by simpa using hb)).1) hr
      have e1 : ∀ y, refOk (fun b => rf.contains b) y → renV σ y = y := fun y hy => by
        cases y <;> simp only [refOk, renV] at hy ⊢ <;> rw [(hk _ (by simpa using hy)).2]
      have e2 : renA σ x = x := by
        cases x with
        | agg cs =>
          simp only [renA]
          rw [(List.map_congr_left fun y hy => e1 y (hr y hy)).trans (List.map_id' _)]
        | fn f a b =>
          simp only [renA]
          rw [(List.map_congr_left fun y hy => e1 y (hr.1 y hy)).trans (List.map_id' _), (List.map_congr_left fun y hy => e1 y (hr.2 y hy)).trans (List.map_id' _)]
        | tup cs => exact hr.elim
        | _ => simp only [refOkA] at hr; exact e1 _ hr
      have := h.relA (v := u) hr'
      rwa [e2] at this
    simp only [BlkRel, renB, hρ]
    constructor
    · rintro ⟨k, r, g1, g2, g3, g4, g5, g6⟩
      refine ⟨k, r, g1, g2, g3, fun t => ?_, g5, g6⟩
      have := g4 t
      rcases tget_mem lc.t t with e | ⟨p, hp, _, e⟩
      · rw [e]; exact .junk _
      · rw [e] at this ⊢; exact (hx (g5 p hp)).1 this
    · rintro ⟨k, r, g1, g2, g3, g4, g5, g6⟩
      refine ⟨k, r, g1, g2, g3, fun t => ?_, g5, g6⟩
      have := g4 t
      rcases tget_mem lc.t t with e | ⟨p, hp, _, e⟩
      · rw [e]; exact .junk _
      · rw [e] at this ⊢; exact (hx (g5 p hp)).2 this
end

theorem get_ren {σ : Nat → Nat} : ∀ {m : Mem}, (∀ p ∈ m, ∀ b, σ p.1 = σ b → m.has b = true ∨ b = p.1 → p.1 = b) → ∀ {b : Nat}, m.has b = true → (renM σ m).get (σ b) = (m.get b).map (renB σ) := by
  intro m
  induction m with
  | nil => intro _ b h; simp [Mem.has, Mem.get] at h
  | cons p r ih =>
    obtain ⟨j, y⟩ := p
    intro hinj b h
    simp only [renM, Mem.get]
    by_cases e : b = j
    · subst e; simp
    · have hne : ¬ σ b = σ j := fun e' => e (hinj (j, y) (by simp) b e'.symm (.inl h)).symm
      rw [if_neg hne, if_neg e]
      have hr : Mem.has r b = true := by simpa [Mem.has, Mem.get, e] using h
      refine ih (fun q hq b' hb' h' => hinj q (by simp [hq]) b' hb' ?_) hr
      rcases h' with h' | h'
      · by_cases e2 : b' = j
        · subst e2
          left; simp [Mem.has, Mem.get]
        · left; simpa [Mem.has, Mem.get, e2] using h'
      · exact .inr h'
theorem ren_mem {σ : Nat → Nat} : ∀ {m : Mem} {b' : Nat}, (renM σ m).has b' = true → ∃ b, m.has b = true ∧ σ b = b' := by
  intro m
  induction m with
  | nil => intro b' h; simp [renM, Mem.has, Mem.get] at h
  | cons p r ih =>
    obtain ⟨j, y⟩ := p
    intro b' h
    by_cases e : b' = σ j
    · exact ⟨j, by simp [Mem.has, Mem.get], e.symm⟩
    · have : (renM σ r).has b' = true := by simpa [renM, Mem.has, Mem.get, e] using h
      obtain ⟨b, h1, h2⟩ := ih this
      refine ⟨b, ?_, h2⟩
      simp only [Mem.has, Mem.get] at h1 ⊢
      split
      · rfl
      · exact h1

/-- How numbers part: 'σ' is one to one on what the contract names. -/
structure RenC (σ : Nat → Nat) (mi mo : Mem) (n0 n1 nx nx' : Nat) : Prop where
  inj : ∀ b b', (mi.has b = true ∨ mo.has b = true) → (mi.has b' = true ∨ mo.has b' = true) → σ b = σ b' → b = b'
  old : ∀ b, mi.has b = true → b < n0 ∧ σ b < nx
  new : ∀ b, mo.has b = true → mi.has b = true ∨ (n0 ≤ b ∧ b < n1 ∧ nx ≤ σ b ∧ σ b < nx')
  mi : ∀ b blk, mi.get b = some blk → RenOk σ mi.has blk
  mo : ∀ b blk, mo.get b = some blk → RenOk σ mo.has blk

/-- What is known of a call, by the contract's numbers. -/
def Cx.pull (c : Cx) (σ : Nat → Nat) (K : Nat → Bool) : Cx := { w := c.w, im := c.im, ρ := fun b => if K b then c.ρ (σ b) else none, us := fun b => K b = true ∧ c.us (σ b) }
theorem pull_twin (c : Cx) (σ : Nat → Nat) (K : Nat → Bool) : Twin σ K (c.pull σ K) c := ⟨rfl, rfl, fun b hb => by simp [Cx.pull, hb], fun b hb => by simp [Cx.pull, hb]⟩
theorem pull_mem {c : Cx} {σ : Nat → Nat} {mi mo : Mem} {n0 n1 nx nx' : Nat} (h : RenC σ mi mo n0 n1 nx nx') (hm : MemRel c (renM σ mi)) : MemRel (c.pull σ mi.has) mi := by
  have hg : ∀ b, mi.has b = true → (renM σ mi).get (σ b) = (mi.get b).map (renB σ) := fun b hb => get_ren (fun p hp b' he hb' => h.inj _ _ (.inl (by
    obtain ⟨j, y⟩ := p
    clear hm h hb hb' he
    induction mi with
    | nil => simp at hp
    | cons q r ih =>
      simp only [Mem.has, Mem.get]
      split
      · rfl
      · rename_i hne
        rcases List.mem_cons.1 hp with e | hp
        · exact absurd (by rw [← e]) hne
        · exact ih hp)) (.inl (by
    rcases hb' with hb' | hb'
    · exact hb'
    · rw [hb']
      obtain ⟨j, y⟩ := p
      clear hm h hb hb' he
      induction mi with
      | nil => simp at hp
      | cons q r ih =>
        simp only [Mem.has, Mem.get]
        split
        · rfl
        · rename_i hne
          rcases List.mem_cons.1 hp with e | hp
          · exact absurd (by rw [← e]) hne
          · exact ih hp)) he) hb
  refine ⟨fun b => ?_, fun b b' k h1 h2 => ?_, fun b hb => ?_, hm.imlt⟩
  · cases hb : mi.get b with
    | none =>
      have : mi.has b = false := by simp [Mem.has, hb]
      simp [BlkRel, Cx.pull, this]
    | some blk =>
      have hK : mi.has b = true := has_iff.2 ⟨blk, hb⟩
      refine ((pull_twin c σ mi.has).blk hK (h.mi b blk hb)).2 ?_
      have := hm.blk (σ b)
      rw [hg b hK, hb] at this
      exact this
  · simp only [Cx.pull] at h1 h2
    split at h1
    · rename_i k1
      split at h2
      · rename_i k2
        exact h.inj b b' (.inl k1) (.inl k2) (hm.inj _ _ k h1 h2)
      · simp at h2
    · simp at h1
  · cases hK : mi.has b with
    | false => simp [Cx.pull, hK]
    | true =>
      have : ¬ c.us (σ b) := fun e => hb ⟨hK, e⟩
      simp [Cx.pull, hK, hm.big _ this]
theorem has_of_mem {m : Mem} {p : Nat × Blk} (hp : p ∈ m) : m.has p.1 = true := by
  induction m with
  | nil => simp at hp
  | cons q r ih =>
    simp only [Mem.has, Mem.get]
    split
    · rfl
    · rename_i hne
      rcases List.mem_cons.1 hp with e | hp
      · exact absurd (by rw [← e]) hne
      · exact ih hp

/-- What is known behind the call, by the caller's numbers. -/
theorem push_nxt {c c' : Cx} {σ : Nat → Nat} {mi mo : Mem} {n0 n1 nx nx' : Nat} (h : RenC σ mi mo n0 n1 nx nx') (hm : MemRel c (renM σ mi)) (hcn : ∀ b, c.us b → b < nx)
    (hn : Nxt (c.pull σ mi.has) c' mo n0 n0 n1) (hus : ∀ b, c'.us b → (c.pull σ mi.has).us b ∨ (n0 ≤ b ∧ b < n1)) {x : V} {v : Value} (hx : refOkT mo.has x) (hr : Rel c' x v) :
    ∃ c2, c2.w = c'.w ∧ Nxt c c2 (renM σ mo) nx nx nx' ∧ (∀ b, c2.us b → c.us b ∨ (nx ≤ b ∧ b < nx')) ∧ Rel c2 (renT σ x) v := by
  classical
  let inv : Nat → Option Nat := fun b' => if hb : ∃ b, mo.has b = true ∧ σ b = b' then some (Classical.choose hb) else none
  have hinv : ∀ b, mo.has b = true → inv (σ b) = some b := fun b hb => by
    have hex : ∃ q, mo.has q = true ∧ σ q = σ b := ⟨b, hb, rfl⟩
    simp only [inv, dif_pos hex]
    have := Classical.choose_spec hex
    rw [h.inj _ _ (.inr this.1) (.inr hb) this.2]
  have hinv2 : ∀ b' b, inv b' = some b → mo.has b = true ∧ σ b = b' := fun b' b hb => by
    simp only [inv] at hb
    split at hb
    · rename_i hex
      have := Classical.choose_spec hex
      simp only [Option.some.injEq] at hb
      rw [hb] at this
      exact this
    · simp at hb
  let c2 : Cx := { w := c'.w, im := c'.im, ρ := fun b' => match inv b' with | some b => c'.ρ b | none => none, us := fun b' => c.us b' ∨ ∃ b, inv b' = some b }
  have hcus : ∀ b, mo.has b = true → c'.us b := fun b hb => by
    obtain ⟨blk, hblk⟩ := has_iff.1 hb
    exact us_of_get hn.mem hblk
  have htw : Twin σ mo.has c' c2 := ⟨rfl, rfl, fun b hb => by simp only [c2, hinv b hb], fun b hb => ⟨fun _ => .inr ⟨b, hinv b hb⟩, fun _ => hcus b hb⟩⟩
  have hρ2 : ∀ b' k, c2.ρ b' = some (some k) → ∃ b, mo.has b = true ∧ σ b = b' ∧ c'.ρ b = some (some k) := fun b' k hb => by
    simp only [c2] at hb
    split at hb
    · rename_i b hb2
      obtain ⟨g1, g2⟩ := hinv2 _ _ hb2
      exact ⟨b, g1, g2, hb⟩
    · simp at hb
  have hρc : ∀ b k, (c.pull σ mi.has).ρ b = some (some k) → mi.has b = true ∧ c.ρ (σ b) = some (some k) := fun b k hb => by
    simp only [Cx.pull] at hb
    split at hb
    · rename_i hK; exact ⟨hK, hb⟩
    · simp at hb
  have hS : ∀ k, (¬ ∃ b, c.ρ b = some (some k)) → ¬ ∃ b, (c.pull σ mi.has).ρ b = some (some k) := fun k hk ⟨b, hb⟩ => hk ⟨_, (hρc b k hb).2⟩
  have hgo : ∀ b, mo.has b = true → (renM σ mo).get (σ b) = (mo.get b).map (renB σ) := fun b hb => get_ren (fun p hp b' he hb' => h.inj _ _ (.inr (has_of_mem hp)) (.inr (by
    rcases hb' with hb' | hb'
    · exact hb'
    · rw [hb']; exact has_of_mem hp)) he) hb
  refine ⟨c2, rfl, ⟨⟨hn.evo.os, hn.evo.tape, hn.evo.output, hn.evo.size, hn.evo.keep, fun k hk hkS => hn.evo.same k hk (hS k hkS), hn.evo.imm, fun k o ho hk hkS => hn.evo.imold k o ho hk (hS k hkS), fun b hb => .inl hb, fun b' hb' => ?_⟩,
    ⟨fun b' => ?_, fun x y k h1 h2 => ?_, fun b' hb' => ?_, hn.mem.imlt⟩, fun b' k hb => ?_, fun b' hb' => ?_⟩, fun b' hb' => ?_, htw.relT hx hr⟩
  · cases hi : inv b' with
    | none => exact .inr (by simp [c2, hi])
    | some b =>
      obtain ⟨g1, g2⟩ := hinv2 _ _ hi
      rcases h.new b g1 with h1 | ⟨_, _, h1, _⟩
      · rcases hn.evo.ρ b ⟨h1, by rw [g2]; exact hb'⟩ with q | q
        · refine .inl ?_
          simp only [c2, hi, q, Cx.pull, h1, if_true, g2]
        · exact .inr (by simp [c2, hi, q])
      · have := hcn b' hb'
        omega
  · by_cases hb : (renM σ mo).has b' = true
    · obtain ⟨b, h1, h2⟩ := ren_mem hb
      subst h2
      rw [hgo b h1]
      obtain ⟨blk, hblk⟩ := has_iff.1 h1
      rw [hblk]
      have := hn.mem.blk b
      rw [hblk] at this
      exact (htw.blk h1 (h.mo b blk hblk)).1 this
    · have h1 : (renM σ mo).get b' = none := by simpa [Mem.has] using hb
      rw [h1]
      have h2 : inv b' = none := by
        cases hi : inv b' with
        | none => rfl
        | some b =>
          obtain ⟨g1, g2⟩ := hinv2 _ _ hi
          rw [← g2, hgo b g1] at h1
          obtain ⟨blk, hblk⟩ := has_iff.1 g1
          rw [hblk] at h1
          simp at h1
      simp [BlkRel, c2, h2]
  · obtain ⟨b1, _, g1, q1⟩ := hρ2 x k h1
    obtain ⟨b2, _, g2, q2⟩ := hρ2 y k h2
    rw [← g1, ← g2, hn.mem.inj b1 b2 k q1 q2]
  · have : inv b' = none := by
      cases hi : inv b' with
      | none => rfl
      | some b => exact absurd (.inr ⟨b, hi⟩) hb'
    simp [c2, this]
  · obtain ⟨b, _, _, q⟩ := hρ2 b' k hb
    rcases hn.fresh b k q with ⟨b'', hb''⟩ | hk
    · exact .inl ⟨_, (hρc b'' k hb'').2⟩
    · exact .inr hk
  · rcases hb' with hb' | ⟨b, hb⟩
    · exact .inl hb'
    · obtain ⟨g1, g2⟩ := hinv2 _ _ hb
      rcases hus b (hcus b g1) with ⟨_, q⟩ | q
      · exact .inl (g2 ▸ q)
      · rcases h.new b g1 with h1 | ⟨_, _, h1, h2⟩
        · have := (h.old b h1).1
          omega
        · exact .inr (.inr ⟨g2 ▸ h1, g2 ▸ h2⟩)
  · rcases hb' with hb' | ⟨b, hb⟩
    · exact .inl hb'
    · obtain ⟨g1, g2⟩ := hinv2 _ _ hb
      rcases hus b (hcus b g1) with ⟨_, q⟩ | q
      · exact .inl (g2 ▸ q)
      · rcases h.new b g1 with h1 | ⟨_, _, h1, h2⟩
        · have := (h.old b h1).1
          omega
        · exact .inr ⟨g2 ▸ h1, g2 ▸ h2⟩

theorem relL_pull {c : Cx} {σ : Nat → Nat} {K : Nat → Bool} {xs : List V} {vs : Array Value} (hxs : ∀ x ∈ xs, refOkA K x) (h : RelL c (xs.map (renA σ)) vs) : RelL (c.pull σ K) xs vs :=
  ⟨by simpa using h.1, fun i h1 h2 => by
    have := h.2 i (by simpa using h1) h2
    rw [List.getElem_map] at this
    exact ((pull_twin c σ K).relA (hxs _ (List.getElem_mem _))).2 this⟩

/-- A CONTRACT BY OTHER NUMBERS. -/
theorem Sound.ren {f : FuncId} {xs : List V} {n0 n1 nx nx' : Nat} {mi mo : Mem} {x : V} {σ : Nat → Nat} (hs : Sound P f xs n0 mi x mo n1) (h : RenC σ mi mo n0 n1 nx nx') (hxs : ∀ y ∈ xs, refOkA mi.has y) (hx : refOkT mo.has x) :
    Sound P f (xs.map (renA σ)) nx (renM σ mi) (renT σ x) (renM σ mo) nx' := by
  obtain ⟨h0, h1⟩ := hs
  refine ⟨h0, fun c vs hm hnx hrel => ?_⟩
  refine Calls.mono (h1 (c.pull σ mi.has) vs (pull_mem h hm) (fun b hb => (h.old b hb.1).1) (relL_pull hxs hrel)) fun e w' hp => ?_
  obtain ⟨v, c', rfl, rfl, hn, hus, hr⟩ := hp
  obtain ⟨c2, g1, g2, g3, g4⟩ := push_nxt h hm hnx hn hus hx hr
  exact ⟨v, c2, rfl, g1, g2, g3, g4⟩
theorem SoundY.ren {f : Nat} {xs : List V} {n0 n1 nx nx' : Nat} {mi mo : Mem} {x : V} {σ : Nat → Nat} (hs : SoundY P f xs n0 mi x mo n1) (h : RenC σ mi mo n0 n1 nx nx') (hxs : ∀ y ∈ xs, refOkA mi.has y) (hx : refOkT mo.has x) :
    SoundY P (σ f) (xs.map (renA σ)) nx (renM σ mi) (renT σ x) (renM σ mo) nx' := by
  obtain ⟨h0, h1⟩ := hs
  refine ⟨?_, fun c vs hm hnx hrel => ?_⟩
  · rw [get_ren (fun p hp b' he hb' => h.inj _ _ (.inl (has_of_mem hp)) (.inl (by
      rcases hb' with hb' | hb'
      · exact hb'
      · rw [hb']; exact has_of_mem hp)) he) h0]
    obtain ⟨blk, hblk⟩ := has_iff.1 h0
    rw [hblk]; rfl
  obtain ⟨k, fn, tmps, asg, body, g1, g2, g3⟩ := h1 (c.pull σ mi.has) vs (pull_mem h hm) (fun b hb => (h.old b hb.1).1) (relL_pull hxs hrel)
  have hK : mi.has f = true := h0
  refine ⟨k, fn, tmps, asg, body, by simpa [Cx.pull, hK] using g1, g2, RoundIn.mono g3 fun e w' hp => ?_⟩
  obtain ⟨v, c', rfl, rfl, hn, hus, hr⟩ := hp
  obtain ⟨c2, q1, q2, q3, q4⟩ := push_nxt h hm hnx hn hus hx hr
  exact ⟨v, c2, rfl, q1, q2, q3, q4⟩
end Go.Abs
namespace Go.Abs
variable {P : Program} {T : Tbl}
def assoc : List (Nat × Nat) → Nat → Option Nat
  | [], _ => none
  | (j, k) :: r, i => if i = j then some k else assoc r i
/-- Numbers by others: those of the list, and new ones behind nx. -/
def sig (r : List (Nat × Nat)) (n0 nx b : Nat) : Nat := match assoc r b with | some k => k | none => nx + (b - n0)
def ids : Mem → List Nat
  | [] => []
  | (b, _) :: r => b :: ids r
def blkRen (σ : Nat → Nat) (K : Nat → Bool) : Blk → Prop
  | .box _ cells => refsC K cells
  | .arr _ _ es => ClE es
  | .map _ _ => True
  | .loop rf _ _ => if rf.all (fun b => K b && σ b == b) then True else False
def blksRen (σ : Nat → Nat) (K : Nat → Bool) : Mem → Prop
  | [] => True
  | (_, blk) :: r => blkRen σ K blk ∧ blksRen σ K r
def refsAC (K : Nat → Bool) : List V → Prop
  | [] => True
  | x :: r => refAC K x ∧ refsAC K r
def refT (K : Nat → Bool) : V → Prop
  | .tup cs => refsAC K cs
  | x => refAC K x
/-- What must be so of numbers that part, reckoned. -/
def renOk (r : List (Nat × Nat)) (mi mo : Mem) (n0 n1 nx nx' : Nat) (xs : List V) (x : V) : Prop :=
  if ((ids mi ++ ids mo).all fun b => (ids mi ++ ids mo).all fun b' => b == b' || !(sig r n0 nx b == sig r n0 nx b')) &&
     ((ids mi).all fun b => decide (b < n0) && decide (sig r n0 nx b < nx)) &&
     ((ids mo).all fun b => mi.has b || (decide (n0 ≤ b) && decide (b < n1) && decide (nx ≤ sig r n0 nx b) && decide (sig r n0 nx b < nx')))
  then (blksRen (sig r n0 nx) mi.has mi ∧ blksRen (sig r n0 nx) mo.has mo) ∧ refsAC mi.has xs ∧ refT mo.has x else False

theorem mem_ids {m : Mem} {b : Nat} (h : m.has b = true) : b ∈ ids m := by
  induction m with
  | nil => simp [Mem.has, Mem.get] at h
  | cons p r ih =>
    obtain ⟨j, y⟩ := p
    by_cases e : b = j
    · simp [ids, e]
    · have : Mem.has r b = true := by simpa [Mem.has, Mem.get, e] using h
      simp [ids, ih this]
theorem blksRen_spec {σ : Nat → Nat} {K : Nat → Bool} : ∀ {m : Mem}, blksRen σ K m → ∀ b blk, m.get b = some blk → RenOk σ K blk := by
  intro m
  induction m with
  | nil => intro _ b blk h; simp [Mem.get] at h
  | cons p r ih =>
    obtain ⟨j, y⟩ := p
    intro hl b blk h
    simp only [Mem.get] at h
    split at h
    · simp only [Option.some.injEq] at h
      subst h
      have := hl.1
      cases y with
      | box ty cells => exact refsC_spec this
      | arr => exact this
      | map => trivial
      | loop rf lc j =>
        simp only [blkRen] at this
        split at this
        · rename_i hq
          intro b hb
          have := List.all_eq_true.1 hq b hb
          simpa using this
        · exact this.elim
    · exact ih hl.2 b blk h
theorem refsAC_spec {K : Nat → Bool} {xs : List V} (h : refsAC K xs) : ∀ x ∈ xs, refOkA K x := by
  induction xs with
  | nil => intro x hx; simp at hx
  | cons y r ih =>
    intro x hx
    rcases List.mem_cons.1 hx with rfl | hx
    · exact refAC_spec h.1
    · exact ih h.2 x hx
theorem refT_spec {K : Nat → Bool} {x : V} (h : refT K x) : refOkT K x := by
  cases x with
  | tup cs => exact refsAC_spec h
  | _ => exact refAC_spec (by simpa only [refT] using h)
theorem renOk_spec {r : List (Nat × Nat)} {mi mo : Mem} {n0 n1 nx nx' : Nat} {xs : List V} {x : V} (h : renOk r mi mo n0 n1 nx nx' xs x) :
    RenC (sig r n0 nx) mi mo n0 n1 nx nx' ∧ (∀ y ∈ xs, refOkA mi.has y) ∧ refOkT mo.has x := by
  unfold renOk at h
  split at h
  case isFalse => exact h.elim
  rename_i hc
  simp only [Bool.and_eq_true] at hc
  obtain ⟨⟨h1, h2⟩, h3⟩ := hc
  obtain ⟨⟨g1, g2⟩, g3, g4⟩ := h
  have mem : ∀ b, (mi.has b = true ∨ mo.has b = true) → b ∈ ids mi ++ ids mo := fun b hb => by
    rcases hb with hb | hb
    · exact List.mem_append_left _ (mem_ids hb)
    · exact List.mem_append_right _ (mem_ids hb)
  refine ⟨⟨fun b b' hb hb' he => ?_, fun b hb => ?_, fun b hb => ?_, blksRen_spec g1, blksRen_spec g2⟩, refsAC_spec g3, refT_spec g4⟩
  · have := List.all_eq_true.1 (List.all_eq_true.1 h1 b (mem b hb)) b' (mem b' hb')
    simp only [Bool.or_eq_true, beq_iff_eq, Bool.not_eq_true', beq_eq_false_iff_ne] at this
    rcases this with q | q
    · exact q
    · exact absurd he q
  · have := List.all_eq_true.1 h2 b (mem_ids hb)
    simpa using this
  · have := List.all_eq_true.1 h3 b (mem_ids hb)
    simp only [Bool.or_eq_true, Bool.and_eq_true, decide_eq_true_eq] at this
    rcases this with q | ⟨⟨⟨q1, q2⟩, q3⟩, q4⟩
    · exact .inl q
    · exact .inr ⟨q1, q2, q3, q4⟩

/-- A call that is lent blocks, by a contract of other numbers: 'r' tells the contract's numbers by the caller's. -/
theorem callR {A : Ar} (hA : Ar.std = A) {f : FuncId} {xs xs' : List V} {m : Mem} {n0 n1 nx : Nat} (nx' : Nat) {K : KT} {mi mo : Mem} {x : V} (r : List (Nat × Nat)) (hs : Sound P f xs n0 mi x mo n1) (hr : renOk r mi mo n0 n1 nx nx' xs x)
    (hxs : xs.map (renA (sig r n0 nx)) = xs') (hok : callOk A m (renM (sig r n0 nx) mi) [] (renM (sig r n0 nx) mo) nx nx' xs')
    (hK : K (renT (sig r n0 nx) x) (callδ (renM (sig r n0 nx) mi) [] nx (renM (sig r n0 nx) mo)) ((renM (sig r n0 nx) mi).map (·.1) ++ []) nx') : CallW P (.f f) xs' m nx K := by
  obtain ⟨h1, h2, h3⟩ := renOk_spec hr
  have := hs.ren h1 h2 h3
  rw [hxs] at this
  refine callC (mv := []) hA hok ?_ this hK
  subst hA
  rw [mvAA_std, show mvA m [] = id from funext mvA_nil, List.map_id]
theorem callC' {A : Ar} (hA : Ar.std = A) {f : FT} {xs : List V} {m : Mem} {nx : Nat} {K : KT} {mi mo : Mem} {x : V} {nx' : Nat} (hok : callOk A m mi [] mo nx nx' xs)
    (hs : SoundT P f xs nx mi x mo nx') (hK : K x (callδ mi [] nx mo) (mi.map (·.1) ++ []) nx') : CallW P f xs m nx K := by
  subst hA
  obtain ⟨h1, h2, h3, h4, h5⟩ := hok
  refine .mk mi mo [] x nx' (moEq_spec mi h1) (fun b hb => by simp at hb) (blkOks_spec mi h3) ?_ (allOk_spec xs h5) (by rw [show mvA m [] = id from funext mvA_nil, List.map_id]; exact hs) hK
  have : ∀ (l : Mem), moNew mi nx nx' l → ∀ b, l.has b = true → mi.has b = true ∨ (nx ≤ b ∧ b < nx') := by
    intro l
    induction l with
    | nil => intro _ b hb; exact no_has hb
    | cons p r ih =>
      obtain ⟨j, y⟩ := p
      intro hl b hb
      by_cases e : b = j
      · subst e
        have := hl.1
        split at this
        · rename_i hq; exact .inl hq
        · exact .inr this
      · exact ih hl.2 b (by simpa [Mem.has, Mem.get, e] using hb)
  exact this mo h4
/-- A yield, by a contract of other numbers. -/
theorem callYR {A : Ar} (hA : Ar.std = A) {f f' : Nat} {xs xs' : List V} {m : Mem} {n0 n1 nx : Nat} (nx' : Nat) {K : KT} {mi mo : Mem} {x : V} (r : List (Nat × Nat)) (hs : SoundY P f xs n0 mi x mo n1) (hr : renOk r mi mo n0 n1 nx nx' xs x)
    (hf : sig r n0 nx f = f') (hxs : xs.map (renA (sig r n0 nx)) = xs') (hok : callOk A m (renM (sig r n0 nx) mi) [] (renM (sig r n0 nx) mo) nx nx' xs')
    (hK : K (renT (sig r n0 nx) x) (callδ (renM (sig r n0 nx) mi) [] nx (renM (sig r n0 nx) mo)) ((renM (sig r n0 nx) mi).map (·.1) ++ []) nx') : CallW P (.y f') xs' m nx K := by
  obtain ⟨h1, h2, h3⟩ := renOk_spec hr
  have := hs.ren h1 h2 h3
  rw [hxs, hf] at this
  exact callC' hA hok this hK
end Go.Abs
namespace Go.Abs
variable {P : Program} {T : Tbl}
/-- A call that is lent blocks and given rows that nobody changes any more, by a contract of other numbers. -/
theorem callRM {A : Ar} (hA : Ar.std = A) {f : FuncId} {xs xs' xs'' : List V} {m : Mem} {n0 n1 nx : Nat} (nx' : Nat) {K : KT} {mi mo : Mem} {mv : List Nat} {x : V} (r : List (Nat × Nat)) (hs : Sound P f xs n0 mi x mo n1) (hr : renOk r mi mo n0 n1 nx nx' xs x)
    (hok : callOk A m (renM (sig r n0 nx) mi) mv (renM (sig r n0 nx) mo) nx nx' xs') (hmv : xs'.map (mvAA A m mv) = xs'') (hxs : xs.map (renA (sig r n0 nx)) = xs'')
    (hK : K (renT (sig r n0 nx) x) (callδ (renM (sig r n0 nx) mi) mv nx (renM (sig r n0 nx) mo)) ((renM (sig r n0 nx) mi).map (·.1) ++ mv) nx') : CallW P (.f f) xs' m nx K := by
  obtain ⟨h1, h2, h3⟩ := renOk_spec hr
  have := hs.ren h1 h2 h3
  rw [hxs] at this
  exact callC hA hok hmv this hK
/-- A contract over rows that nobody changes, of what is lent: the rows of a block are handed over for good, and the block is told anew. -/
theorem Sound.frz {f : FuncId} {xs : List V} {nx nx' : Nat} {x : V} {ty : TypeId} {cells : List V} {arrs : Mem} {mv : List Nat}
    (hs : Sound P f (xs.map (mvA ((0, .box ty cells) :: arrs) mv)) nx [] x [] nx') (h0 : 0 ∉ mv) (hp : 0 < nx) (harr : ∀ b, Mem.has arrs b = true → b ∈ mv) (hlt : ∀ b ∈ mv, b < nx) (hle : nx ≤ nx')
    (hargs : ∀ y ∈ xs, mvAOk ((0, .box ty cells) :: arrs) (Mem.has []) mv y) (hcells : ∀ y ∈ cells, mvOk ((0, .box ty cells) :: arrs) (Mem.has []) mv y) :
    Sound P f xs nx ((0, .box ty cells) :: arrs) x [(0, .box ty (cells.map (mvV ((0, .box ty cells) :: arrs) mv)))] nx' := by
  refine ⟨hs.1, fun c vs hm hnx hrel => ?_⟩
  have hmv : ∀ b ∈ mv, Mem.has [] b = false := fun b _ => rfl
  have h := hs.2 (c.only (Mem.has []) (mvIm c mv)) vs (only_mem hm (fun b blk h => by simp [Mem.get] at h) hmv (fun b blk h => by simp [Mem.get] at h)) (fun b hb => by simp [Cx.only, Mem.has, Mem.get] at hb)
    ⟨by simpa using hrel.1, fun i hi hi' => by
      simp only [List.getElem_map]
      exact mvA_rel hm hmv (hrel.2 i (by simpa using hi) hi') (hargs _ (List.getElem_mem _))⟩
  refine Calls.mono h fun e w' hpost => ?_
  obtain ⟨v, c', rfl, rfl, hn, hus, hr⟩ := hpost
  have hget : ∀ b, b ≠ 0 → b ∉ mv → Mem.get ((0, .box ty cells) :: arrs) b = none := fun b hb hb' => by
    simp only [Mem.get, if_neg hb]
    cases hq : Mem.get arrs b with
    | none => rfl
    | some blk => exact absurd (harr b (has_iff.2 ⟨blk, hq⟩)) hb'
  obtain ⟨h1, h2⟩ := back_nxt (id := nx) (mi := []) (mo := []) (m' := [(0, .box ty cells)]) (nx := nx) (nx' := nx') hm (fun b hb => .inl (hnx b hb)) (fun b blk h => by simp [Mem.get] at h) hn hus (fun b => by
    unfold callMem
    by_cases hb : b = 0
    · subst hb; simp [Mem.get, Mem.has, hp, h0]
    · by_cases hlt' : b < nx ∨ nx' ≤ b
      · rw [if_pos hlt', if_neg (by simp [Mem.has, Mem.get])]
        by_cases hb' : b ∈ mv
        · rw [if_pos hb']; simp [Mem.get, hb]
        · rw [if_neg hb', hget b hb hb']; simp [Mem.get, hb]
      · rw [if_neg hlt']; simp [Mem.get, hb])
  refine ⟨v, c.back c' (Mem.has []) mv nx nx', rfl, rfl, ⟨h1.evo, ⟨fun b => ?_, h1.mem.inj, h1.mem.big, h1.mem.imlt⟩, h1.fresh, h1.us⟩, fun b hb => ?_, hr.evo h2⟩
  · by_cases hb : b = 0
    · subst hb
      have p := hm.blk 0
      have q := h1.mem.blk 0
      simp only [Mem.get, if_true] at p q ⊢
      obtain ⟨k, C, p1, p2, p3, p4, p5⟩ := p
      obtain ⟨k', C', q1, q2, q3, q4, q5⟩ := q
      have e : (c.back c' (Mem.has []) mv nx nx').ρ 0 = c.ρ 0 := by simp [Cx.back, hp, Mem.has, Mem.get, h0]
      rw [e, p1] at q1
      obtain rfl : k = k' := by simpa using q1
      have hk : k < c.w.heap.size := (Array.getElem?_eq_some_iff.1 p2).1
      have hsame := hn.evo.same k hk (fun ⟨b, hb⟩ => by simp [Cx.only, Mem.has, Mem.get] at hb)
      have e2 : c'.w.heap[k]? = some (.cells C' ty (0, 0)) := q2
      rw [hsame] at e2
      have e3 : c.w.heap[k]? = some (.cells C' ty (0, 0)) := e2
      rw [p2] at e3
      obtain rfl : C = C' := by simpa using e3
      refine ⟨k, C, by rw [e]; exact p1, q2, by simpa using q3, fun j hj hj' => ?_, q5⟩
      simp only [List.getElem_map]
      have := mvV_rel hm hmv (p4 j (by simpa using hj) hj') (hcells _ (List.getElem_mem _))
      exact (this.evo hn.evo).evo h2
    · have q := h1.mem.blk b
      simp only [Mem.get, if_neg hb] at q ⊢
      exact q
  · rcases h1.us b hb with g | g | g
    · exact .inl g
    · rcases hb with hb | hb
      · exact .inl hb
      · rcases hus b hb with ⟨_, h3⟩ | h3
        · exact .inl h3
        · exact .inr h3
    · exact .inr g
end Go.Abs
namespace Go.Abs
variable {P : Program}
/-- No row is a row of nothing. -/
theorem Rel.nil_row {c : Cx} {sz : Nat} {v : Value} (h : Rel c (.at (.slice none 0 0)) v) : Rel c (.row sz []) v := by
  cases h
  exact Rel.row (c := c) sz [] none 0 0 0 (fun _ _ => undef) (by simp) (by simp) (by simp) (by simp) (by simp)
theorem Sound.nil1 {f : FuncId} {a : V} {sz nx nx' : Nat} {mi mo : Mem} {x : V} (h : Sound P f [a, .row sz []] nx mi x mo nx') : Sound P f [a, .at (.slice none 0 0)] nx mi x mo nx' := by
  refine ⟨h.1, fun c vs hm hnx hrel => h.2 c vs hm hnx ⟨hrel.1, fun i hi hi' => ?_⟩⟩
  have := hrel.2 i (by simpa using hi) hi'
  rcases i with _ | _ | i
  · exact this
  · exact Rel.nil_row this
  · exact absurd hi (by simp)
end Go.Abs
