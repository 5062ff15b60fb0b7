/- The abstract machine: straight lines, regions whose order is open, code and loops. No condition. -/
import Derived.Test.YtfkjiiopmogniaaAb2
import Derived.Tactics
import Derived.WalkSpells
import Derived.Orders
import Derived.RangeFuncNested
import Derived.RangeFuncLeaves
namespace Go.Abs
variable {P : Program} {T : Tbl} {c : Cx} {m : Mem}

/-- A state: what the temporaries are, the memory, the first number that no block has had. -/
structure St where
  t : List (Nat × V)
  m : Mem
  nx : Nat
def St.ev (s : St) : Operand → V
  | .tmp t => tget s.t t
  | .const v => constV v
  | .global _ => .junk
  | .func f => .fn (.func f) [] []
def tput (t : List (Nat × V)) : Option Nat → V → List (Nat × V)
  | some d, x => (d, x) :: t
  | none, _ => t

/-- The mark that a range over a function leaves among the deferred calls. -/
def markOf (r : Nat) : Deferred := { target := .collected r, args := #[] }
/-- The deferred calls are such marks; their blocks have no name. -/
def Marks (n : Nat) (c : Cx) (ds : List Deferred) : Prop :=
  ∃ rs : List Nat, ds = rs.map markOf ∧ rs.Nodup ∧ ∀ r ∈ rs, c.w.heap[r]? = some (.deferred (some [])) ∧ n ≤ r ∧ ∀ b, c.ρ b ≠ some (some r)
theorem Marks.nil (n : Nat) (c : Cx) : Marks n c [] := ⟨[], rfl, List.nodup_nil, fun _ h => by simp at h⟩
theorem Marks.evo {n : Nat} {c c' : Cx} {ds : List Deferred} (h : Marks n c ds) (he : Evo (fun k => ∃ b, c.ρ b = some (some k)) c c') (hf : ∀ b k, c'.ρ b = some (some k) → (∃ b', c.ρ b' = some (some k)) ∨ c.w.heap.size ≤ k) : Marks n c' ds := by
  obtain ⟨rs, h1, h2, h3⟩ := h
  refine ⟨rs, h1, h2, fun r hr => ?_⟩
  obtain ⟨g1, g2, g3⟩ := h3 r hr
  have hlt : r < c.w.heap.size := (Array.getElem?_eq_some_iff.1 g1).1
  refine ⟨by rw [he.same r hlt (fun ⟨b, hb⟩ => g3 b hb)]; exact g1, g2, fun b hb => ?_⟩
  rcases hf b r hb with ⟨b', hb'⟩ | hk
  · exact g3 b' hb'
  · omega
theorem Marks.sub {n : Nat} {c c' : Cx} {ds : List Deferred} (h : Marks n c ds) (hw : c'.w = c.w) (hf : ∀ b k, c'.ρ b = some (some k) → ∃ b', c.ρ b' = some (some k)) : Marks n c' ds := by
  obtain ⟨rs, h1, h2, h3⟩ := h
  refine ⟨rs, h1, h2, fun r hr => ?_⟩
  obtain ⟨g1, g2, g3⟩ := h3 r hr
  exact ⟨by rw [hw]; exact g1, g2, fun b hb => by obtain ⟨b', hb'⟩ := hf b r hb; exact g3 b' hb'⟩

/-- The state tells the machine's. -/
structure Cor (c0 : Cx) (N nx0 : Nat) (s : St) (c : Cx) (a : Act) : Prop where
  size : a.tmps.size = N
  tmps : ∀ t, Rel c (tget s.t t) (a.tmps.getD t undef)
  defers : Marks c0.w.heap.size c a.defers
  mem : MemRel c s.m
  evo : Evo (fun k => ∃ b, c0.ρ b = some (some k)) c0 c
  fresh : ∀ b k, c.ρ b = some (some k) → (∃ b', c0.ρ b' = some (some k)) ∨ c0.w.heap.size ≤ k
  nx : ∀ b, c.us b → b < s.nx
  us : ∀ b, c.us b → c0.us b ∨ nx0 ≤ b
  nx0 : nx0 ≤ s.nx

theorem constV_rel (c : Cx) (v : Value) : Rel c (constV v) v := by
  cases v with
  | agg vs => exact .agg _ _ (by simp) (fun i h h' => by simpa using Rel.at _)
  | func f a b => exact .fn f _ _ _ _ (by simp) (by simp) (fun i h h' => by simpa using Rel.at _) (fun i h h' => by simpa using Rel.at _)
  | _ => exact .at _

theorem Cor.ev {c0 : Cx} {N nx0 : Nat} {s : St} {a : Act} (h : Cor c0 N nx0 s c a) (x : Operand) : Rel c (s.ev x) (a.eval x) := by
  cases x with
  | tmp t => exact h.tmps t
  | const v => exact constV_rel c v
  | global g => exact .junk _
  | func f => exact .fn _ [] [] #[] #[] rfl rfl (fun i h => by simp at h) (fun i h => by simp at h)

def St.next (s : St) (dst : Option Nat) (x : V) (δ : List (Nat × Option Blk)) (nx' : Nat) : St := { t := tput s.t dst x, m := s.m.app δ, nx := nx' }

theorem put_getD (a : Act) (d t : Nat) (v : Value) (h : d < a.tmps.size) : (a.put (some d) v).tmps.getD t undef = if t = d then v else a.tmps.getD t undef := by
  simp only [Act.put, Array.getD_eq_getD_getElem?, Array.getElem?_setIfInBounds]
  by_cases e : d = t
  · subst e; simp [h]
  · have : ¬ t = d := fun e' => e e'.symm
    simp [e, this]

theorem Cor.next {c0 : Cx} {N nx0 : Nat} {s : St} {a : Act} (h : Cor c0 N nx0 s c a) {dst : Option Nat} (hd : ∀ d, dst = some d → d < N) {x : V} {v : Value} {δ : List (Nat × Option Blk)} {nx' : Nat} {c' : Cx}
    (hn : Nxt c c' (s.m.app δ) s.nx s.nx nx') (hle : s.nx ≤ nx') (hid : c'.us s.nx → ¬ c.us s.nx → s.nx < nx') (hr : Rel c' x v) : Cor c0 N nx0 (s.next dst x δ nx') c' (a.put dst v) where
  size := by cases dst <;> simp [Act.put, h.size]
  tmps := fun t => by
    cases dst with
    | none => exact (h.tmps t).evo hn.evo
    | some d =>
      rw [put_getD a d t v (by rw [h.size]; exact hd d rfl)]
      simp only [St.next, tput, tget]
      by_cases e : t = d
      · simp [e]; exact hr
      · simp only [e, if_false]
        exact (h.tmps t).evo hn.evo
  defers := by cases dst <;> exact h.defers.evo hn.evo hn.fresh
  mem := hn.mem
  evo := h.evo.trans (hn.evo.mono fun k ⟨b, hb⟩ => h.fresh b k hb)
  fresh := fun b k hb => by
    rcases hn.fresh b k hb with ⟨b', hb'⟩ | hk
    · exact h.fresh b' k hb'
    · exact .inr (Nat.le_trans h.evo.size hk)
  nx := fun b hb => by
    rcases Classical.em (c.us b) with h1 | h1
    · exact Nat.lt_of_lt_of_le (h.nx b h1) hle
    · rcases hn.us b hb with h2 | h2 | h2
      · exact absurd h2 h1
      · subst h2
        exact hid hb h1
      · exact h2.2
  us := fun b hb => by
    rcases hn.us b hb with h2 | h2 | h2
    · exact h.us b h2
    · subst h2; exact .inr h.nx0
    · exact .inr (Nat.le_trans h.nx0 h2.1)
  nx0 := Nat.le_trans h.nx0 hle

/-- The guard of an operation. -/
def guardW (t : List (Nat × V)) (all : List Oper) (g : Option (Nat × Bool)) (K1 K2 : List (Nat × V) → Prop) : Prop :=
  match g with
  | none => K1 t
  | some (j, want) =>
    match all[j]? with
    | some { dst := some d, .. } =>
      match tget t d with
      | .at (.bool b) => if b = want then K1 ((d, .at (.bool want)) :: t) else K2 ((d, .at (.bool (not want))) :: t)
      | .at (.tuple _) => K2 t
      | _ => False
    | _ => False
def dstOk (N : Nat) : Option Nat → Bool
  | some d => decide (d < N)
  | none => true
/-- Is a row nil? Its elements don't tell: a reckoning stops here, and goes on both ways. -/
inductive NilW (p : Prop) (K : Bool → Prop) : Prop
  | mk : (∀ b, (b = true → p) → K b) → NilW p K
def nilOf : Op → Option (Bool × Operand × TypeId)
  | .binOp .eql ty x (.const (.slice none 0 0)) _ => some (true, x, ty)
  | .binOp .neq ty x (.const (.slice none 0 0)) _ => some (false, x, ty)
  | _ => none
/-- An operation in a straight line. -/
def stepK (A : Ar) (T : Tbl) (P : Program) (s : St) (op : Op) (K : KT) : Prop :=
  match nilOf op with
  | some (pos, x, ty) =>
    match (T.get ty).map TI.k, s.ev x with
    | some (.slice _), .row _ es => NilW (es = []) fun b => K (.at (.bool (A.beq b pos))) [] [] s.nx
    | some (.slice _), .msl _ b _ n =>
      match s.m.get b with
      | some (.arr _ _ _) => NilW (n = 0) fun b => K (.at (.bool (A.beq b pos))) [] [] s.nx
      | _ => False
    | some (.slice _), .at (.slice none 0 0) => K (.at (.bool pos)) [] [] s.nx
    | _, _ => False
  | none => opK A T P s.ev s.m s.nx s.nx op K
/-- What comes behind an operation. -/
def behind (s : St) (dst : Option Nat) (K : St → Prop) : KT := fun x δ _ nx' => K (s.next dst x δ (nx' + (s.nx - nx') + 1))
def stepW (A : Ar) (T : Tbl) (P : Program) (N : Nat) (all : List Oper) (o : Oper) (s : St) (K : St → Prop) : Prop :=
  if dstOk N o.dst then
    guardW s.t all o.guard (fun t => stepK A T P { s with t := t } o.op (behind { s with t := t } o.dst K)) (fun t => K { s with t := tput t o.dst (.at undef) })
  else False
def wpL (A : Ar) (T : Tbl) (P : Program) (N : Nat) (all : List Oper) : List Oper → St → (St → Prop) → Prop
  | [], s, K => K s
  | o :: r, s, K => stepW A T P N all o s fun s' => wpL A T P N all r s' K

theorem Cor.skipd {c0 : Cx} {N nx0 : Nat} {s : St} {a : Act} (h : Cor c0 N nx0 s c a) {dst : Option Nat} (hd : ∀ d, dst = some d → d < N) :
    Cor c0 N nx0 { s with t := tput s.t dst (.at undef) } c (a.put dst undef) where
  size := by cases dst <;> simp [Act.put, h.size]
  tmps := fun t => by
    cases dst with
    | none => exact h.tmps t
    | some d =>
      rw [put_getD a d t undef (by rw [h.size]; exact hd d rfl)]
      simp only [tput, tget]
      by_cases e : t = d
      · simp [e]; exact .at _
      · simp only [e, if_false]; exact h.tmps t
  defers := by cases dst <;> exact h.defers
  mem := h.mem
  evo := h.evo
  fresh := h.fresh
  nx := h.nx
  us := h.us
  nx0 := h.nx0

theorem Cor.same {c0 : Cx} {N nx0 : Nat} {s : St} {a : Act} (h : Cor c0 N nx0 s c a) {d : Nat} {x : V} (hx : Rel c x (a.tmps.getD d undef)) : Cor c0 N nx0 { s with t := (d, x) :: s.t } c a := by
  refine ⟨h.size, fun t => ?_, h.defers, h.mem, h.evo, h.fresh, h.nx, h.us, h.nx0⟩
  simp only [tget]
  by_cases e : t = d
  · subst e; simpa using hx
  · simp only [e, if_false]; exact h.tmps t

theorem guard_sound {c0 : Cx} {N nx0 : Nat} {s : St} {a : Act} (h : Cor c0 N nx0 s c a) {all : List Oper} {o : Oper} {K1 K2 : List (Nat × V) → Prop} (hg : guardW s.t all o.guard K1 K2) :
    ∃ t, Cor c0 N nx0 { s with t := t } c a ∧ ((Region.wanted o (yielded all.toArray a.tmps) = true ∧ K1 t) ∨ (Region.wanted o (yielded all.toArray a.tmps) = false ∧ K2 t)) := by
  unfold guardW at hg
  split at hg
  · rename_i heq
    exact ⟨s.t, h, .inl ⟨by simp [Region.wanted, heq], hg⟩⟩
  · rename_i j want heq
    split at hg
    · rename_i d op ty pos after guard hj
      split at hg
      · rename_i b hb
        have hv := h.tmps d
        rw [hb] at hv
        have hv' := hv.at_inv
        have hy : yielded all.toArray a.tmps j = some b := by
          have hd : a.tmps[d]? = some (.bool b) := by
            rw [Array.getD_eq_getD_getElem?] at hv'
            cases hq : a.tmps[d]? with
            | none => rw [hq] at hv'; simp [undef] at hv'
            | some u => rw [hq] at hv'; simpa using hv'
          simp [yielded, hj, hd]
        split at hg
        · rename_i hbw
          exact ⟨_, h.same (by rw [hv', hbw]; exact .at _), .inl ⟨by simp [Region.wanted, heq, hy, hbw], hg⟩⟩
        · rename_i hbw
          have : b = !want := by cases b <;> cases want <;> simp_all
          exact ⟨_, h.same (by rw [hv', this]; exact .at _), .inr ⟨by simp [Region.wanted, heq, hy, hbw], hg⟩⟩
      · rename_i us hb
        have hv := h.tmps d
        rw [hb] at hv
        have hv' := hv.at_inv
        have hy : yielded all.toArray a.tmps j = none := by
          rw [Array.getD_eq_getD_getElem?] at hv'
          cases hq : a.tmps[d]? with
          | none => simp [yielded, hj, hq]
          | some u =>
            rw [hq] at hv'
            have : u = .tuple us := by simpa using hv'
            simp [yielded, hj, hq, this]
        exact ⟨s.t, h, .inr ⟨by simp [Region.wanted, heq, hy], hg⟩⟩
      · exact hg.elim
    · exact hg.elim

theorem stepK_good (hT : TblOk P T) {c0 : Cx} {N nx0 : Nat} {s : St} {a : Act} (h : Cor c0 N nx0 s c a) {o : Oper} {K : KT} (hk : stepK Ar.std T P s o.op K) : ∃ x δ rd nx', K x δ rd nx' ∧ Good P o a c (s.m.app δ) s.nx s.nx nx' x := by
  have hidn : ¬ c.us s.nx := fun e => Nat.lt_irrefl _ (h.nx _ e)
  unfold stepK at hk
  split at hk
  · rename_i pos x ty hnil
    have hop : ∃ yt, (pos = true ∧ o.op = .binOp .eql ty x (.const (.slice none 0 0)) yt) ∨ (pos = false ∧ o.op = .binOp .neq ty x (.const (.slice none 0 0)) yt) := by
      unfold nilOf at hnil
      split at hnil
      · rename_i heq
        simp only [Option.some.injEq, Prod.mk.injEq] at hnil
        obtain ⟨rfl, rfl, rfl⟩ := hnil
        exact ⟨_, .inl ⟨rfl, heq⟩⟩
      · rename_i heq
        simp only [Option.some.injEq, Prod.mk.injEq] at hnil
        obtain ⟨rfl, rfl, rfl⟩ := hnil
        exact ⟨_, .inr ⟨rfl, heq⟩⟩
      · simp at hnil
    obtain ⟨yt, hop⟩ := hop
    have run : ∀ (e n cap : Nat) (q : Option Addr), P.underlying ty = some (.slice e) → a.eval x = .slice q n cap → (execOp a.eval o).run P c.w = .ok (.value (.bool (q.isNone == pos))) c.w := fun e n cap q hu hv => by
      rcases hop with ⟨rfl, hop⟩ | ⟨rfl, hop⟩
      · have he : a.eval (.const (.slice none 0 0)) = .slice none 0 0 := rfl
        simp only [execOp, hop, hv, he]
        have := Lib.run_eql_slice_nil c.w ty e q n cap 0 0 hu
        simp [eqGuard, this]
      · have he : a.eval (.const (.slice none 0 0)) = .slice none 0 0 := rfl
        simp only [execOp, hop, hv, he]
        have := run_neq_slice_nil_any c.w ty e q n cap 0 0 hu
        simp [eqGuard, this]
    have good : ∀ (e n cap : Nat) (q : Option Addr) (nx' : Nat), P.underlying ty = some (.slice e) → a.eval x = .slice q n cap → Good P o a c (s.m.app []) s.nx s.nx nx' (.at (.bool (q.isNone == pos))) := fun e n cap q nx' hu hv =>
      Good.value (run e n cap q hu hv) (Nxt.refl h.mem) (.at _)
    have und : ∀ e, (T.get ty).map TI.k = some (.slice e) → P.underlying ty = some (.slice e) := fun e ht => by
      obtain ⟨ti, hti, hk⟩ := Option.map_eq_some_iff.1 ht
      have hu := (hT ty ti hti).k
      rw [hk] at hu
      exact hu
    split at hk
    · rename_i e sz es ht hx
      have hv := h.ev x
      rw [hx] at hv
      generalize hvv : a.eval x = vv at hv
      cases hk with
      | mk hk =>
        cases hv with
        | row _ _ q cap k ofs us g0 g1 _ _ _ =>
          refine ⟨_, _, _, _, hk q.isNone (fun hq => ?_), good e _ cap q _ (und e ht) hvv⟩
          rcases Nat.eq_zero_or_pos es.length with h0 | h0
          · exact List.eq_nil_of_length_eq_zero h0
          · have := g1 h0
            rw [this] at hq
            simp at hq
    · rename_i e sz b off n ht hx
      split at hk
      · rename_i ty' s' es hb
        have hv := h.ev x
        rw [hx] at hv
        generalize hvv : a.eval x = vv at hv
        cases hk with
        | mk hk =>
          cases hv with
          | msl _ _ _ _ _ hus hms =>
            unfold MslOk at hms
            have hblk := h.mem.blk b
            rw [hb] at hblk
            rcases hblk with ⟨_, g2⟩ | ⟨k, C, cap, g1, _⟩
            · rw [g2] at hms
              obtain ⟨rfl, rfl, q, rfl⟩ := hms
              exact ⟨_, _, _, _, hk q.isNone (fun _ => rfl), good e _ _ q _ (und e ht) hvv⟩
            · rw [g1] at hms
              obtain ⟨cap', C', ty'', _, _, _, q, rfl, _⟩ := hms
              exact ⟨_, _, _, _, hk false (fun hq => by simp at hq), good e _ _ (some q) _ (und e ht) hvv⟩
      · exact hk.elim
    · rename_i e ht hx
      have hv := h.ev x
      rw [hx] at hv
      have hvv := hv.at_inv
      have := good e 0 0 none s.nx (und e ht) hvv
      refine ⟨_, _, _, _, hk, ?_⟩
      simpa using this
    · exact hk.elim
  · exact opK_good hT h.mem hidn h.ev (fun _ _ _ _ _ b hb => .inl (h.nx b hb)) hk

theorem step_sound (hT : TblOk P T) {c0 : Cx} {N nx0 : Nat} {s : St} {a : Act} (h : Cor c0 N nx0 s c a) {all : List Oper} {o : Oper} {K : St → Prop} (hs : stepW Ar.std T P N all o s K)
    {next : Act → World → Prop} {Q : Exit → Act → World → Prop} (hn : ∀ s' c' a', K s' → Cor c0 N nx0 s' c' a' → next a' c'.w) :
    ∀ ro, if Region.wanted o (yielded all.toArray a.tmps) then o.wpIn (FW ro) 0 P a c.w next Q else (∀ f, o.about P c.w a.eval = some f → (FW ro).fn f) ∧ next (a.put o.dst undef) c.w := by
  intro ro
  unfold stepW at hs
  split at hs
  case isFalse => exact hs.elim
  rename_i hdst
  have hd : ∀ d, o.dst = some d → d < N := fun d e => by rw [e] at hdst; simpa [dstOk] using hdst
  obtain ⟨t, h, hk⟩ := guard_sound h hs
  rcases hk with ⟨hw, hk⟩ | ⟨hw, hk⟩
  · rw [if_pos hw]
    obtain ⟨x, δ, rd, nx', hK, hgood⟩ := stepK_good hT h hk
    refine hgood ro next Q (fun v c' hnx hr => hn _ _ _ hK (h.next (nx' := nx' + (s.nx - nx') + 1) hd ⟨hnx.evo, hnx.mem, hnx.fresh, fun b hb => ?_⟩ (by simp only; omega) (fun _ _ => by simp only; omega) hr))
    rcases hnx.us b hb with h1 | h1 | h1
    · exact .inl h1
    · exact .inr (.inl h1)
    · exact .inr (.inr ⟨h1.1, by omega⟩)
  · rw [if_neg (by simp [hw])]
    exact ⟨fun _ _ => trivial, hn _ _ _ hk (h.skipd hd)⟩

theorem list_sound (hT : TblOk P T) {c0 : Cx} {N nx0 : Nat} {all : List Oper} {Q : Exit → Act → World → Prop} {K : St → Prop} (hK : ∀ s c a, K s → Cor c0 N nx0 s c a → Q .normal a c.w) :
    ∀ (l : List Oper) (s : St) (c : Cx) (a : Act), Cor c0 N nx0 s c a → wpL Ar.std T P N all l s K → ∀ ro, wpListIn (FW ro) 0 P all.toArray Q l a c.w := by
  intro l
  induction l with
  | nil => exact fun s c a h hw ro => wpListIn_nil (hK s c a hw h)
  | cons o r ih =>
    intro s c a h hw ro
    unfold wpListIn
    have := step_sound hT h hw (next := wpListIn (FW ro) 0 P all.toArray Q r) (Q := Q) (fun s' c' a' hs' hc' => ih s' c' a' hc' hs' ro) ro
    exact this

end Go.Abs
namespace Go.Abs
variable {P : Program} {T : Tbl}

section ov
variable {κ ω : Type}
/-- What the listed ones put, each behind those ahead of it in the text. -/
def ov (L : Nat → Bool) : List (κ → Option ω) → (κ → ω) → κ → ω
  | [], f => f
  | u :: r, f => ov (fun j => L (j + 1)) r (if L 0 then fun k => (u k).getD (f k) else f)
theorem ov_agree {k : κ} : ∀ (us : List (κ → Option ω)) (L L' : Nat → Bool) (f f' : κ → ω), (∀ j (h : j < us.length), L j ≠ L' j → us[j] k = none) → f k = f' k → ov L us f k = ov L' us f' k := by
  intro us
  induction us with
  | nil => intro L L' f f' _ h; exact h
  | cons u r ih =>
    intro L L' f f' h hf
    simp only [ov]
    refine ih _ _ _ _ (fun j hj => h (j + 1) (by simp; omega)) ?_
    have h0 := h 0 (by simp)
    simp only [List.getElem_cons_zero] at h0
    cases h1 : L 0 <;> cases h2 : L' 0 <;> simp only [h1, h2, if_true, Bool.false_eq_true, if_false]
    · exact hf
    · rw [h0 (by simp [h1, h2])]; simpa using hf
    · rw [h0 (by simp [h1, h2])]; simpa using hf
    · rw [hf]
theorem ov_none {k : κ} : ∀ (us : List (κ → Option ω)) (L : Nat → Bool) (f : κ → ω), (∀ j (h : j < us.length), L j = true → us[j] k = none) → ov L us f k = f k := by
  intro us
  induction us with
  | nil => intro L f _; rfl
  | cons u r ih =>
    intro L f h
    simp only [ov]
    rw [ih _ _ fun j hj => h (j + 1) (by simp; omega)]
    have h0 := h 0 (by simp)
    simp only [List.getElem_cons_zero] at h0
    cases h1 : L 0
    · simp
    · simp [h0 h1]
theorem ov_get {k : κ} {v : ω} : ∀ (us : List (κ → Option ω)) (L : Nat → Bool) (f : κ → ω) (j : Nat) (hj : j < us.length), L j = true → us[j] k = some v → (∀ j' (h' : j' < us.length), j < j' → L j' = true → us[j'] k = none) → ov L us f k = v := by
  intro us
  induction us with
  | nil => intro L f j hj; simp at hj
  | cons u r ih =>
    intro L f j hj hL hu hn
    simp only [ov]
    cases j with
    | zero =>
      rw [ov_none _ _ _ fun j' h' hL' => hn (j' + 1) (by simp; omega) (by omega) hL']
      simp only [List.getElem_cons_zero] at hu
      simp [hL, hu]
    | succ j =>
      exact ih _ _ j (by simpa using hj) hL (by simpa using hu) fun j' h' hlt hL' => hn (j' + 1) (by simp; omega) (by omega) hL'
end ov

def evF (f : Nat → V) : Operand → V
  | .tmp t => f t
  | .const v => constV v
  | .global _ => .junk
  | .func f => .fn (.func f) [] []
theorem St.ev_eq (s : St) : s.ev = evF (tget s.t) := by
  funext x
  cases x <;> rfl

/-- What an operation has come to, in the text's order. -/
structure Ent where
  x : V
  δ : List (Nat × Option Blk)
  rd : List Nat
  lo : Nat
  hi : Nat
def updT (dst : Option Nat) (x : V) : Nat → Option V := fun t => match dst with | some d => if t = d then some x else none | none => none
theorem tget_tput (t : List (Nat × V)) (dst : Option Nat) (x : V) (k : Nat) : tget (tput t dst x) k = (updT dst x k).getD (tget t k) := by
  cases dst with
  | none => rfl
  | some d =>
    simp only [tput, tget, updT]
    by_cases h : k = d <;> simp [h]

/-- The guard says so. -/
def GuardIs (all : List Oper) (g : Option (Nat × Bool)) (f : Nat → V) (b : Bool) : Prop :=
  match g with
  | none => b = true
  | some (j, want) => ∃ (o : Oper) (d : Nat), all[j]? = some o ∧ o.dst = some d ∧ ((∃ r : Bool, f d = .at (.bool r) ∧ b = (r == want)) ∨ ((∃ us, f d = .at (.tuple us)) ∧ b = false))
def EntOk (A : Ar) (T : Tbl) (P : Program) (all : List Oper) (o : Oper) (e : Ent) (f : Nat → V) (g : Nat → Option Blk) : Prop :=
  (GuardIs all o.guard f true ∧ e.lo < e.hi ∧ ∃ nx', nx' < e.hi ∧ ∀ ev' (m' : Mem), (∀ X ∈ o.op.operands, ev' X = evF f X) → (∀ b ∈ e.rd, m'.get b = g b) → opK A T P ev' m' e.lo e.lo o.op (EqK e.x e.δ e.rd nx')) ∨
  (GuardIs all o.guard f false ∧ e.lo = e.hi ∧ e.x = .at undef ∧ e.δ = [] ∧ e.rd = [])
def EntsOk (A : Ar) (T : Tbl) (P : Program) (N : Nat) (all : List Oper) : List Oper → List Ent → (Nat → V) → (Nat → Option Blk) → Nat → (Nat → V) → (Nat → Option Blk) → Nat → Prop
  | [], [], f, g, nx, f', g', nx' => f' = f ∧ g' = g ∧ nx' = nx
  | o :: os, e :: es, f, g, nx, f', g', nx' => (∀ d, o.dst = some d → d < N) ∧ e.lo = nx ∧ EntOk A T P all o e f g ∧
      EntsOk A T P N all os es (fun t => (updT o.dst e.x t).getD (f t)) (fun b => (dget e.δ b).getD (g b)) e.hi f' g' nx'
  | _, _, _, _, _, _, _, _ => False

/-- A region whose order is open, in the text's order; and the blocks that each operation changes, and reads. -/
def drawL (A : Ar) (T : Tbl) (P : Program) (N : Nat) (all : List Oper) : List Oper → St → List (List Nat × List Nat) → (St → List (List Nat × List Nat) → Prop) → Prop
  | [], s, log, K => K s log
  | o :: r, s, log, K =>
    if dstOk N o.dst then
      guardW s.t all o.guard (fun t => opK A T P (St.ev { s with t := t }) s.m s.nx s.nx o.op fun x δ rd nx' => drawL A T P N all r (St.next { s with t := t } o.dst x δ (nx' + (s.nx - nx') + 1)) (log ++ [(δ.map (·.1), rd)]) K)
        (fun t => drawL A T P N all r { s with t := tput t o.dst (.at undef) } (log ++ [([], [])]) K)
    else False

theorem guard_is {t : List (Nat × V)} {all : List Oper} {g : Option (Nat × Bool)} {K1 K2 : List (Nat × V) → Prop} (h : guardW t all g K1 K2) :
    ∃ t', (∀ k, tget t' k = tget t k) ∧ ((GuardIs all g (tget t) true ∧ K1 t') ∨ (GuardIs all g (tget t) false ∧ K2 t')) := by
  unfold guardW at h
  split at h
  · exact ⟨t, fun _ => rfl, .inl ⟨rfl, h⟩⟩
  · rename_i j want
    split at h
    · rename_i d op ty pos after guard hj
      split at h
      · rename_i b hb
        split at h
        · rename_i hbw
          subst hbw
          refine ⟨_, fun k => ?_, .inl ⟨⟨_, d, hj, rfl, .inl ⟨b, hb, by simp⟩⟩, h⟩⟩
          simp only [tget]
          by_cases e : k = d
          · simp [e, hb]
          · simp [e]
        · rename_i hbw
          have hn : b = !want := by cases b <;> cases want <;> simp_all
          subst hn
          refine ⟨_, fun k => ?_, .inr ⟨⟨_, d, hj, rfl, .inl ⟨_, hb, by cases want <;> rfl⟩⟩, h⟩⟩
          simp only [tget]
          by_cases e : k = d
          · simp [e, hb]
          · simp [e]
      · rename_i us hb
        exact ⟨t, fun _ => rfl, .inr ⟨⟨_, d, hj, rfl, .inr ⟨⟨us, hb⟩, rfl⟩⟩, h⟩⟩
      · exact h.elim
    · exact h.elim

theorem drawL_ents {A : Ar} {N : Nat} {all : List Oper} {K : St → List (List Nat × List Nat) → Prop} : ∀ (ops : List Oper) (s : St) (log : List (List Nat × List Nat)), drawL A T P N all ops s log K →
    ∃ (es : List Ent) (s' : St), K s' (log ++ es.map fun e => (e.δ.map (·.1), e.rd)) ∧ EntsOk A T P N all ops es (tget s.t) s.m.get s.nx (tget s'.t) s'.m.get s'.nx := by
  intro ops
  induction ops with
  | nil => exact fun s log h => ⟨[], s, by simp only [List.map_nil, List.append_nil]; exact h, rfl, rfl, rfl⟩
  | cons o r ih =>
    intro s log h
    unfold drawL at h
    split at h
    case isFalse => exact h.elim
    rename_i hdst
    have hd : ∀ d, o.dst = some d → d < N := fun d e => by rw [e] at hdst; simpa [dstOk] using hdst
    obtain ⟨t', ht, h | h⟩ := guard_is h
    · obtain ⟨hg, h⟩ := h
      obtain ⟨x, δ, rd, nx', hK, hloc⟩ := opK_loc h
      obtain ⟨es, s', h1, h2⟩ := ih _ _ hK
      refine ⟨⟨x, δ, rd, s.nx, nx' + (s.nx - nx') + 1⟩ :: es, s', by simpa using h1, hd, rfl, .inl ⟨hg, by simp only; omega, nx', by simp only; omega, fun ev' m' he hm => ?_⟩, ?_⟩
      · refine hloc ev' m' (fun X hX => ?_) hm
        rw [he X hX, St.ev_eq]
        simp only
        rw [show tget t' = tget s.t from funext ht]
      · have e1 : (fun t => (updT o.dst x t).getD (tget s.t t)) = tget (St.next { s with t := t' } o.dst x δ (nx' + (s.nx - nx') + 1)).t := funext fun k => by
          simp only [St.next]
          rw [tget_tput, ht]
        have e2 : (fun b => (dget δ b).getD (s.m.get b)) = (St.next { s with t := t' } o.dst x δ (nx' + (s.nx - nx') + 1)).m.get := funext fun b => by
          simp only [St.next]
          rw [Mem.get_app]
        simp only
        rw [e1, e2]
        exact h2
    · obtain ⟨hg, h⟩ := h
      obtain ⟨es, s', h1, h2⟩ := ih _ _ h
      refine ⟨⟨.at undef, [], [], s.nx, s.nx⟩ :: es, s', by simpa using h1, hd, rfl, .inr ⟨hg, rfl, rfl, rfl, rfl⟩, ?_⟩
      have e1 : (fun t => (updT o.dst (.at undef) t).getD (tget s.t t)) = tget (tput t' o.dst (.at undef)) := funext fun k => by
        rw [tget_tput, ht]
      have e2 : (fun b => (dget [] b).getD (s.m.get b)) = s.m.get := funext fun b => rfl
      simp only
      rw [e1, e2]
      exact h2

theorem ents_at {A : Ar} {N : Nat} {all : List Oper} : ∀ (ops : List Oper) (es : List Ent) (f : Nat → V) (g : Nat → Option Blk) (nx : Nat) (f' : Nat → V) (g' : Nat → Option Blk) (nx' : Nat), EntsOk A T P N all ops es f g nx f' g' nx' →
    ∃ hl : es.length = ops.length, nx ≤ nx' ∧ f' = ov (fun _ => true) (List.zipWith (fun o e => updT o.dst e.x) ops es) f ∧ g' = ov (fun _ => true) (es.map fun e => dget e.δ) g ∧
    ∀ i (hi : i < ops.length), (∀ d, ops[i].dst = some d → d < N) ∧ nx ≤ (es[i]'(by omega)).lo ∧ (es[i]'(by omega)).lo ≤ (es[i]'(by omega)).hi ∧ (es[i]'(by omega)).hi ≤ nx' ∧ (∀ j (hj : j < ops.length), i < j → (es[i]'(by omega)).hi ≤ (es[j]'(by omega)).lo) ∧
      EntOk A T P all ops[i] (es[i]'(by omega)) (ov (fun j => decide (j < i)) (List.zipWith (fun o e => updT o.dst e.x) ops es) f) (ov (fun j => decide (j < i)) (es.map fun e => dget e.δ) g) := by
  intro ops
  induction ops with
  | nil =>
    intro es f g nx f' g' nx' h
    cases es with
    | nil =>
      obtain ⟨rfl, rfl, rfl⟩ := h
      exact ⟨rfl, Nat.le_refl _, rfl, rfl, fun i hi => by simp at hi⟩
    | cons => exact h.elim
  | cons o os ih =>
    intro es f g nx f' g' nx' h
    cases es with
    | nil => exact h.elim
    | cons e es =>
      obtain ⟨h0, h1, h2, h3⟩ := h
      obtain ⟨hl, g1, g2, g3, g4⟩ := ih _ _ _ _ _ _ _ h3
      have hlh : e.lo ≤ e.hi := by rcases h2 with h2 | h2 <;> omega
      refine ⟨by simp [hl], by omega, ?_, ?_, fun i hi => ?_⟩
      · rw [g2]; simp [ov]
      · rw [g3]; simp [ov]
      · cases i with
        | zero =>
          refine ⟨h0, by simp; omega, hlh, by simpa using g1, fun j hj hlt => ?_, ?_⟩
          · cases j with
            | zero => omega
            | succ j =>
              have := (g4 j (by simpa using hj)).2.1
              simpa using this
          · have n1 : ov (fun j => decide (j < 0)) (List.zipWith (fun o e => updT o.dst e.x) (o :: os) (e :: es)) f = f := funext fun k => ov_none _ _ _ (by simp)
            have n2 : ov (fun j => decide (j < 0)) ((e :: es).map fun e => dget e.δ) g = g := funext fun k => ov_none _ _ _ (by simp)
            rw [n1, n2]
            exact h2
        | succ i =>
          obtain ⟨q0, q1, q2, q3, q4, q5⟩ := g4 i (by simpa using hi)
          refine ⟨q0, by simp; omega, q2, q3, fun j hj hlt => ?_, ?_⟩
          · cases j with
            | zero => omega
            | succ j => simpa using q4 j (by simpa using hj) (by omega)
          · simpa [ov] using q5
end Go.Abs
namespace Go.Abs
variable {P : Program} {T : Tbl}

def mask (acc : List Nat) : List Edge → Nat
  | [] => 0
  | e :: r => if Region.binds .any e then 2 ^ e.on ||| (acc.getD e.on 0 ||| mask acc r) else mask acc r
/-- Which operations are ahead of each one, whatever the order. -/
def ancs : List Oper → List Nat → List Nat
  | [], acc => acc
  | o :: r, acc => ancs r (acc ++ [mask acc o.after.toList])
def ordB (an : List Nat) (i j : Nat) : Bool := (an.getD j 0).testBit i

theorem mask_spec {acc : List Nat} {i : Nat} : ∀ (es : List Edge), (mask acc es).testBit i = true → ∃ e ∈ es, Region.binds .any e = true ∧ (e.on = i ∨ (acc.getD e.on 0).testBit i = true) := by
  intro es
  induction es with
  | nil => intro h; simp [mask] at h
  | cons e r ih =>
    intro h
    unfold mask at h
    split at h
    · rename_i hb
      rw [Nat.testBit_or, Nat.testBit_or, Bool.or_eq_true, Bool.or_eq_true] at h
      rcases h with h | h | h
      · rw [Nat.testBit_two_pow] at h
        exact ⟨e, by simp, hb, .inl (by simpa using h)⟩
      · exact ⟨e, by simp, hb, .inr h⟩
      · obtain ⟨e', h1, h2⟩ := ih h
        exact ⟨e', by simp [h1], h2⟩
    · obtain ⟨e', h1, h2⟩ := ih h
      exact ⟨e', by simp [h1], h2⟩

theorem ancs_spec : ∀ (ops : List Oper) (acc : List Nat), (ancs ops acc).length = acc.length + ops.length ∧ (∀ k, k < acc.length → (ancs ops acc)[k]? = acc[k]?) ∧
    ∀ j (h : j < ops.length), (ancs ops acc)[acc.length + j]? = some (mask ((ancs ops acc).take (acc.length + j)) ops[j].after.toList) := by
  intro ops
  induction ops with
  | nil => intro acc; exact ⟨rfl, fun _ _ => rfl, fun j h => by simp at h⟩
  | cons o r ih =>
    intro acc
    obtain ⟨h1, h2, h3⟩ := ih (acc ++ [mask acc o.after.toList])
    simp only [ancs]
    have hpre : (ancs r (acc ++ [mask acc o.after.toList])).take acc.length = acc := by
      apply List.ext_getElem?
      intro k
      rw [List.getElem?_take]
      split
      · rename_i hk
        rw [h2 k (by simp; omega), List.getElem?_append_left hk]
      · rename_i hk
        exact (List.getElem?_eq_none (by omega)).symm
    refine ⟨by rw [h1]; simp; omega, fun k hk => ?_, fun j hj => ?_⟩
    · rw [h2 k (by simp; omega), List.getElem?_append_left hk]
    · cases j with
      | zero =>
        rw [h2 _ (by simp)]
        simp only [Nat.add_zero, List.getElem_cons_zero]
        rw [hpre]
        simp
      | succ j =>
        have := h3 j (by simpa using hj)
        simp only [List.length_append, List.length_cons, List.length_nil] at this
        rw [show acc.length + (j + 1) = acc.length + (0 + 1) + j by omega]
        exact this

theorem ord_spec {ops : List Oper} {i j : Nat} (hj : j < ops.length) (h : ordB (ancs ops []) i j = true) :
    ∃ e ∈ ops[j].after.toList, Region.binds .any e = true ∧ (e.on = i ∨ (e.on < j ∧ ordB (ancs ops []) i e.on = true)) := by
  unfold ordB at h
  obtain ⟨h1, _, h3⟩ := ancs_spec ops []
  have := h3 j hj
  simp only [List.length_nil, Nat.zero_add] at this
  rw [List.getD_eq_getElem?_getD, this] at h
  obtain ⟨e, he, hb, h | h⟩ := mask_spec _ h
  · exact ⟨e, he, hb, .inl h⟩
  · rw [List.getD_eq_getElem?_getD, List.getElem?_take] at h
    split at h
    · rename_i hlt
      exact ⟨e, he, hb, .inr ⟨hlt, by unfold ordB; rw [List.getD_eq_getElem?_getD]; exact h⟩⟩
    · simp at h

/-- Operations that aren't ordered look at nothing that the other one puts; and what one comes behind is ahead of it in the text. -/
def lexT (ops : List Oper) : Bool :=
  let an := ancs ops []
  (List.range ops.length).all fun j =>
    match ops[j]? with
    | some oj => oj.after.toList.all (fun e => !Region.binds .any e || decide (e.on < j)) && (List.range j).all fun i =>
      match ops[i]? with
      | some oi => ordB an i j || Oper.apart ops.toArray oi oj
      | none => true
    | none => true
def apM (x y : List Nat × List Nat) : Bool := x.1.all (fun b => !y.2.contains b && !y.1.contains b) && y.1.all fun b => !x.2.contains b
def memOk (an : List Nat) (log : List (List Nat × List Nat)) : Bool :=
  (List.range log.length).all fun j =>
    match log[j]? with
    | some y => (List.range j).all fun i =>
      match log[i]? with
      | some x => (x.1.isEmpty && y.1.isEmpty) || ordB an i j || apM x y
      | none => true
    | none => true

theorem lexT_spec {ops : List Oper} (h : lexT ops = true) : (∀ j (hj : j < ops.length) e, e ∈ ops[j].after.toList → Region.binds .any e = true → e.on < j) ∧
    ∀ i j (hj : j < ops.length) (hi : i < j), ordB (ancs ops []) i j = true ∨ Oper.apart ops.toArray (ops[i]'(by omega)) ops[j] = true := by
  unfold lexT at h
  simp only [List.all_eq_true, List.mem_range] at h
  refine ⟨fun j hj e he hb => ?_, fun i j hj hi => ?_⟩
  · have h1 := h j hj
    rw [List.getElem?_eq_getElem hj] at h1
    simp only [Bool.and_eq_true, List.all_eq_true] at h1
    have := h1.1 e he
    simpa [hb] using this
  · have h1 := h j hj
    rw [List.getElem?_eq_getElem hj] at h1
    simp only [Bool.and_eq_true, List.all_eq_true, List.mem_range] at h1
    have h2 := h1.2 i hi
    rw [List.getElem?_eq_getElem (by omega)] at h2
    simpa using h2
theorem memOk_spec {an : List Nat} {log : List (List Nat × List Nat)} (h : memOk an log = true) : ∀ i j (hj : j < log.length) (hi : i < j), ordB an i j = true ∨
    ((∀ b ∈ (log[i]'(by omega)).1, b ∉ log[j].2 ∧ b ∉ log[j].1) ∧ ∀ b ∈ log[j].1, b ∉ (log[i]'(by omega)).2) := by
  intro i j hj hi
  unfold memOk at h
  simp only [List.all_eq_true, List.mem_range] at h
  have h1 := h j hj
  rw [List.getElem?_eq_getElem hj] at h1
  simp only [List.all_eq_true, List.mem_range] at h1
  have h2 := h1 i hi
  rw [List.getElem?_eq_getElem (by omega)] at h2
  simp only [Bool.or_eq_true, Bool.and_eq_true, List.isEmpty_iff] at h2
  rcases h2 with (⟨h2, h3⟩ | h2) | h2
  · right; rw [h2, h3]; simp
  · exact .inl h2
  · right
    unfold apM at h2
    simp only [Bool.and_eq_true, List.all_eq_true, Bool.not_eq_true', List.contains_eq_mem, decide_eq_false_iff_not] at h2
    exact h2

theorem dget_none {δ : List (Nat × Option Blk)} {b : Nat} (h : b ∉ δ.map (·.1)) : dget δ b = none := by
  induction δ with
  | nil => rfl
  | cons p r ih =>
    obtain ⟨i, o⟩ := p
    simp only [List.map_cons, List.mem_cons, not_or] at h
    simp only [dget, if_neg h.1]
    exact ih h.2
theorem updT_none {dst : Option Nat} {x : V} {d : Nat} (h : dst ≠ some d) : updT dst x d = none := by
  cases dst with
  | none => rfl
  | some d' =>
    have : d ≠ d' := fun e => h (by rw [e])
    simp [updT, this]

/-- The machine amid a region whose order is open: the listed operations are done. -/
structure Amid (c0 : Cx) (N nx0 : Nat) (ops : List Oper) (es : List Ent) (f : Nat → V) (g : Nat → Option Blk) (nx : Nat) (L : Nat → Bool) (c : Cx) (a : Act) : Prop where
  size : a.tmps.size = N
  tmps : ∀ t, Rel c (ov L (List.zipWith (fun o e => updT o.dst e.x) ops es) f t) (a.tmps.getD t undef)
  defers : Marks c0.w.heap.size c a.defers
  mem : ∃ m : Mem, (∀ b, m.get b = ov L (es.map fun e => dget e.δ) g b) ∧ MemRel c m
  evo : Evo (fun k => ∃ b, c0.ρ b = some (some k)) c0 c
  fresh : ∀ b k, c.ρ b = some (some k) → (∃ b', c0.ρ b' = some (some k)) ∨ c0.w.heap.size ≤ k
  nx : ∀ b, c.us b → b < nx ∨ ∃ j, ∃ (h : j < es.length), L j = true ∧ es[j].lo ≤ b ∧ b < es[j].hi
  us : ∀ b, c.us b → c0.us b ∨ nx0 ≤ b

section
variable {c0 : Cx} {N nx0 : Nat} {ops : List Oper} {es : List Ent} {f : Nat → V} {g : Nat → Option Blk} {nx : Nat} {f' : Nat → V} {g' : Nat → Option Blk} {nx' : Nat}

/-- Listed are those ahead of what is listed. -/
def Closed (ops : List Oper) (L : Nat → Bool) : Prop := ∀ j (h : j < ops.length), L j = true → ∀ e ∈ ops[j].after.toList, Region.binds .any e = true → L e.on = true
theorem Closed.ord {L : Nat → Bool} (h : Closed ops L) {i : Nat} : ∀ n j, j ≤ n → j < ops.length → L j = true → ordB (ancs ops []) i j = true → L i = true := by
  intro n
  induction n with
  | zero =>
    intro j hn hj hL ho
    obtain ⟨e, he, hb, h1 | h1⟩ := ord_spec hj ho
    · rw [← h1]; exact h j hj hL e he hb
    · omega
  | succ n ih =>
    intro j hn hj hL ho
    obtain ⟨e, he, hb, h1 | ⟨h1, h2⟩⟩ := ord_spec hj ho
    · rw [← h1]; exact h j hj hL e he hb
    · exact ih e.on (by omega) (by omega) (h j hj hL e he hb) h2

/-- What stands apart of a ready operation. -/
structure Apart (ops : List Oper) (es : List Ent) (i : Nat) (L : Nat → Bool) : Prop where
  looks : ∀ j (h : j < ops.length) (hi : i < ops.length), j ≠ i → L j ≠ decide (j < i) → ∀ d, ops[j].dst = some d → d ∉ ops[i].looksAt ops.toArray
  dst : ∀ j (h : j < ops.length) (hi : i < ops.length), i < j → L j = true → ∀ d, ops[i].dst = some d → ops[j].dst ≠ some d
  rd : ∀ j (h : j < es.length) (hi : i < es.length), j ≠ i → L j ≠ decide (j < i) → ∀ b ∈ es[i].rd, b ∉ es[j].δ.map (·.1)
  wr : ∀ j (h : j < es.length) (hi : i < es.length), i < j → L j = true → ∀ b ∈ es[i].δ.map (·.1), b ∉ es[j].δ.map (·.1)

theorem apart_of (hlen : es.length = ops.length) (hlex : lexT ops = true) (hmem : memOk (ancs ops []) (es.map fun e => (e.δ.map (·.1), e.rd)) = true) {L : Nat → Bool} (hcl : Closed ops L) {i : Nat} (hi : i < ops.length)
    (hL : L i = false) (hready : ∀ e ∈ ops[i].after.toList, Region.binds .any e = true → L e.on = true) : Apart ops es i L := by
  obtain ⟨hb, hap⟩ := lexT_spec hlex
  have hmo := memOk_spec hmem
  -- ahead of i: what isn't listed isn't ordered
  have ahead : ∀ j, j < i → L j ≠ decide (j < i) → ordB (ancs ops []) j i = false := fun j hj hLj => by
    cases ho : ordB (ancs ops []) j i with
    | false => rfl
    | true =>
      exfalso
      obtain ⟨e, he, hbi, h1 | ⟨h1, h2⟩⟩ := ord_spec hi ho
      · have := hready e he hbi
        rw [h1] at this
        simp [this, hj] at hLj
      · have := hcl.ord e.on e.on (Nat.le_refl _) (by omega) (hready e he hbi) h2
        simp [this, hj] at hLj
  have behind : ∀ j, j < ops.length → i < j → L j = true → ordB (ancs ops []) i j = false := fun j hj hij hLj => by
    cases ho : ordB (ancs ops []) i j with
    | false => rfl
    | true =>
      have := hcl.ord j j (Nat.le_refl _) hj hLj ho
      rw [hL] at this; simp at this
  refine ⟨fun j h h' hji hLj d hd => ?_, fun j h h' hij hLj d hd => ?_, fun j h h' hji hLj b hbr => ?_, fun j h h' hij hLj b hbw => ?_⟩
  · rcases Nat.lt_or_gt_of_ne hji with hlt | hgt
    · rcases hap j i hi hlt with h1 | h1
      · rw [ahead j hlt hLj] at h1; simp at h1
      · exact (Oper.apart_spec h1).1 d hd
    · have hLt : L j = true := by
        have : decide (j < i) = false := by simp; omega
        rw [this] at hLj
        simpa using hLj
      rcases hap i j h hgt with h1 | h1
      · rw [behind j h hgt hLt] at h1; simp at h1
      · exact (Oper.apart_spec h1).2.2 d hd
  · rcases hap i j h hij with h1 | h1
    · rw [behind j h hij hLj] at h1; simp at h1
    · exact (Oper.apart_spec h1).2.1 d hd
  · rcases Nat.lt_or_gt_of_ne hji with hlt | hgt
    · rcases hmo j i (by simpa using h') hlt with h1 | h1
      · rw [ahead j hlt hLj] at h1; simp at h1
      · simp only [List.getElem_map] at h1
        exact fun hbj => (h1.1 b hbj).1 hbr
    · have hLt : L j = true := by
        have : decide (j < i) = false := by simp; omega
        rw [this] at hLj
        simpa using hLj
      rcases hmo i j (by simpa using h) hgt with h1 | h1
      · rw [behind j (by omega) hgt hLt] at h1; simp at h1
      · simp only [List.getElem_map] at h1
        exact fun hbj => h1.2 b hbj hbr
  · rcases hmo i j (by simpa using h) hij with h1 | h1
    · rw [behind j (by omega) hij hLj] at h1; simp at h1
    · simp only [List.getElem_map] at h1
      exact (h1.1 b hbw).2

/-- One more operation is done. -/
theorem Amid.next (hlen : es.length = ops.length) {L L' : Nat → Bool} {c c' : Cx} {a : Act} (h : Amid c0 N nx0 ops es f g nx L c a) {i : Nat} (hi : i < ops.length) (hap : Apart ops es i L)
    (hL' : ∀ j, L' j = (L j || decide (j = i))) (hd : ∀ d, ops[i].dst = some d → d < N) (hnx0 : nx0 ≤ nx) (hlo : nx ≤ (es[i]'(by omega)).lo) {v : Value} {n1 : Nat} {m : Mem} (hm : ∀ b, m.get b = ov L (es.map fun e => dget e.δ) g b)
    (hn : Nxt c c' (m.app (es[i]'(by omega)).δ) (es[i]'(by omega)).lo (es[i]'(by omega)).lo n1) (hn1 : n1 ≤ (es[i]'(by omega)).hi) (hlh : ∀ b, c'.us b → ¬ c.us b → (es[i]'(by omega)).lo < (es[i]'(by omega)).hi) (hr : Rel c' (es[i]'(by omega)).x v) :
    Amid c0 N nx0 ops es f g nx L' c' (a.put ops[i].dst v) := by
  have hzl : (List.zipWith (fun o e => updT o.dst e.x) ops es).length = ops.length := by simp [hlen]
  have hLi : L' i = true := by rw [hL']; simp
  have hLj : ∀ j, j ≠ i → L' j = L j := fun j hj => by rw [hL']; simp [hj]
  -- what is put elsewhere
  have other : ∀ t, ops[i].dst ≠ some t → ov L' (List.zipWith (fun o e => updT o.dst e.x) ops es) f t = ov L (List.zipWith (fun o e => updT o.dst e.x) ops es) f t := fun t ht => by
    refine ov_agree _ _ _ _ _ (fun j hj hne => ?_) rfl
    have : j = i := Classical.byContradiction fun e => hne (hLj j e)
    subst this
    simp only [List.getElem_zipWith]
    exact updT_none ht
  have here : ∀ t, ops[i].dst = some t → ov L' (List.zipWith (fun o e => updT o.dst e.x) ops es) f t = (es[i]'(by omega)).x := fun t ht => by
    refine ov_get _ _ _ i (by omega) hLi (by simp [updT, ht]) fun j hj hlt hL => ?_
    simp only [List.getElem_zipWith]
    refine updT_none (hap.dst j (by omega) hi hlt ?_ t ht)
    rw [← hLj j (by omega)]; exact hL
  refine {
    size := by cases hq : ops[i].dst <;> simp [Act.put, h.size]
    tmps := fun t => ?_
    defers := by cases hq : ops[i].dst <;> exact h.defers.evo hn.evo hn.fresh
    mem := ⟨_, fun b => ?_, hn.mem⟩
    evo := h.evo.trans (hn.evo.mono fun k ⟨b, hb⟩ => h.fresh b k hb)
    fresh := fun b k hb => ?_
    nx := fun b hb => ?_
    us := fun b hb => ?_ }
  · cases hq : ops[i].dst with
    | none =>
      rw [other t (by rw [hq]; simp)]
      exact (h.tmps t).evo hn.evo
    | some d =>
      rw [put_getD a d t v (by rw [h.size]; exact hd d hq)]
      by_cases e : t = d
      · subst e
        rw [here t hq, if_pos rfl]
        exact hr
      · rw [other t (by rw [hq]; simpa using fun e' => e e'.symm), if_neg e]
        exact (h.tmps t).evo hn.evo
  · rw [Mem.get_app, hm b]
    have hml : (es.map fun e => dget e.δ).length = ops.length := by simp [hlen]
    cases hq : dget (es[i]'(by omega)).δ b with
    | none =>
      simp only [Option.getD_none]
      refine ov_agree _ _ _ _ _ (fun j hj hne => ?_) rfl
      have : j = i := Classical.byContradiction fun e => hne (hLj j e).symm
      subst this
      simpa using hq
    | some o =>
      simp only [Option.getD_some]
      refine (ov_get _ _ _ i (by omega) hLi (by simpa using hq) fun j hj hlt hL => ?_).symm
      simp only [List.getElem_map]
      refine dget_none (hap.wr j (by simpa using hj) (by omega) hlt (by rw [← hLj j (by omega)]; exact hL) b ?_)
      exact Classical.byContradiction fun hne => by rw [dget_none hne] at hq; simp at hq
  · rcases hn.fresh b k hb with ⟨b', hb'⟩ | hk
    · exact h.fresh b' k hb'
    · exact .inr (Nat.le_trans h.evo.size hk)
  · rcases Classical.em (c.us b) with h1 | h1
    · rcases h.nx b h1 with h2 | ⟨j, hj, h2, h3⟩
      · exact .inl h2
      · exact .inr ⟨j, hj, by rw [hL', h2]; rfl, h3⟩
    · have hlt := hlh b hb h1
      rcases hn.us b hb with h2 | h2 | h2
      · exact absurd h2 h1
      · exact .inr ⟨i, by omega, hLi, by omega, by omega⟩
      · exact .inr ⟨i, by omega, hLi, h2.1, by omega⟩
  · rcases hn.us b hb with h2 | h2 | h2
    · exact h.us b h2
    · exact .inr (by omega)
    · exact .inr (by omega)

theorem any_sound (hT : TblOk P T) (hE : EntsOk Ar.std T P N ops ops es f g nx f' g' nx') (hlex : lexT ops = true) (hmem : memOk (ancs ops []) (es.map fun e => (e.δ.map (·.1), e.rd)) = true) (hnx0 : nx0 ≤ nx)
    {Q : Exit → Act → World → Prop} (hQ : ∀ c a L, (∀ j, j < ops.length → L j = true) → Amid c0 N nx0 ops es f g nx L c a → Q .normal a c.w) :
    ∀ (fuel : Nat) (listed : Array Bool) (U : List Nat) (c : Cx) (a : Act), U.length = fuel → (∀ i, i < ops.length → (listed.getD i true = false ↔ i ∈ U)) → U.Nodup → (∀ i ∈ U, i < ops.length) → listed.size = ops.length →
      Closed ops (fun j => listed.getD j true) → Amid c0 N nx0 ops es f g nx (fun j => listed.getD j true) c a → ∀ ro, wpAnyIn (FW ro) 0 P .any ops.toArray Q fuel listed a c.w := by
  obtain ⟨hlen, _, _, _, hall⟩ := ents_at _ _ _ _ _ _ _ _ hE
  obtain ⟨hback, _⟩ := lexT_spec hlex
  have hdone : ∀ (listed : Array Bool) (c : Cx) (a : Act), listed.size = ops.length → Region.ready .any ops.toArray listed = [] → Amid c0 N nx0 ops es f g nx (fun j => listed.getD j true) c a → Q .normal a c.w := fun listed c a hsz hr h => by
    refine hQ c a _ (fun j hj => ?_) h
    have key : ∀ n j, j ≤ n → j < ops.length → listed.getD j true = true := by
      intro n
      induction n with
      | zero =>
        intro j hn hj
        cases hq : listed.getD j true with
        | true => rfl
        | false =>
          have : j ∈ Region.ready .any ops.toArray listed := mem_ready.2 ⟨hq, ops[j], by simp [hj], fun e he hb => by
            have := hback j hj e (by simpa using he) hb
            omega⟩
          rw [hr] at this; simp at this
      | succ n ih =>
        intro j hn hj
        cases hq : listed.getD j true with
        | true => rfl
        | false =>
          have : j ∈ Region.ready .any ops.toArray listed := mem_ready.2 ⟨hq, ops[j], by simp [hj], fun e he hb => by
            have h1 := hback j hj e (by simpa using he) hb
            have h2 := ih e.on (by omega) (by omega)
            rw [Array.getD_eq_getD_getElem?] at h2 ⊢
            rw [Array.getElem?_eq_getElem (by omega)] at h2 ⊢
            simpa using h2⟩
          rw [hr] at this; simp at this
    exact key j j (Nat.le_refl _) hj
  intro fuel
  induction fuel with
  | zero =>
    intro listed U c a hU hiff hnd hlt hsz hcl h ro
    have hr : Region.ready .any ops.toArray listed = [] := by
      apply List.eq_nil_iff_forall_not_mem.2
      intro j hj
      obtain ⟨h0, o, ho, _⟩ := mem_ready.1 hj
      have hj' : j < ops.length := by simpa using (Array.getElem?_eq_some_iff.1 ho).1
      have := (hiff j hj').1 h0
      rw [List.eq_nil_of_length_eq_zero hU] at this
      simp at this
    exact ⟨hr, hdone listed c a hsz hr h⟩
  | succ fuel ih =>
    intro listed U c a hU hiff hnd hlt hsz hcl h ro
    refine ⟨fun hr => hdone listed c a hsz hr h, fun i hi => ?_⟩
    obtain ⟨h0, o, ho, hafter⟩ := mem_ready.1 hi
    have hi' : i < ops.length := by simpa using (Array.getElem?_eq_some_iff.1 ho).1
    have hoi : o = ops[i] := by simpa [hi'] using ho.symm
    subst hoi
    have hready : ∀ e ∈ ops[i].after.toList, Region.binds .any e = true → listed.getD e.on true = true := fun e he hb => by
      have := hafter e (by simpa using he) hb
      have hlt := hback i hi' e he hb
      rw [Array.getD_eq_getD_getElem?, Array.getElem?_eq_getElem (by omega)] at this ⊢
      simpa using this
    have hap := apart_of hlen hlex hmem hcl hi' h0 hready
    obtain ⟨q0, q1, q2, q3, q4, q5⟩ := hall i hi'
    have hself : listed.getD i true = decide (i < i) := by rw [h0]; simp
    have hL' : ∀ j, (listed.setIfInBounds i true).getD j true = (listed.getD j true || decide (j = i)) := fun j => by
      by_cases e : i = j
      · subst e
        simp [Array.getD_eq_getD_getElem?, Array.getElem?_setIfInBounds]
        split <;> simp_all
      · rw [getD_set_ne true e]
        have : ¬ j = i := fun e' => e e'.symm
        simp [this]
    -- what the operation looks at is as in the text's order
    have looks : ∀ d, d ∈ ops[i].looksAt ops.toArray → ov (fun j => listed.getD j true) (List.zipWith (fun o e => updT o.dst e.x) ops es) f d = ov (fun j => decide (j < i)) (List.zipWith (fun o e => updT o.dst e.x) ops es) f d := fun d hd => by
      refine ov_agree _ _ _ _ _ (fun j hj hne => ?_) rfl
      have hj' : j < ops.length := by simp [hlen] at hj; exact hj
      simp only [List.getElem_zipWith]
      refine updT_none fun hdst => ?_
      have hji : j ≠ i := fun e => by subst e; exact hne hself
      exact hap.looks j hj' hi' hji hne d hdst hd
    have next : ∀ c' v (m : Mem) n1, (∀ b, m.get b = ov (fun j => listed.getD j true) (es.map fun e => dget e.δ) g b) → Nxt c c' (m.app (es[i]'(by omega)).δ) (es[i]'(by omega)).lo (es[i]'(by omega)).lo n1 → n1 ≤ (es[i]'(by omega)).hi →
        (∀ b, c'.us b → ¬ c.us b → (es[i]'(by omega)).lo < (es[i]'(by omega)).hi) → Rel c' (es[i]'(by omega)).x v → wpAnyIn (FW ro) 0 P .any ops.toArray Q fuel (listed.setIfInBounds i true) (a.put ops[i].dst v) c'.w := fun c' v m n1 hm hn hn1 hlh hr => by
      have hiU : i ∈ U := (hiff i hi').1 h0
      refine ih _ (U.erase i) c' _ (by rw [List.length_erase_of_mem hiU]; omega) (fun j hj => ?_) (hnd.erase i) (fun j hj => hlt j (List.mem_of_mem_erase hj)) (by simpa using hsz) (fun j hj hLj e he hb => ?_) ?_ ro
      · rw [hL' j, hnd.mem_erase_iff]
        by_cases e : j = i
        · simp [e]
        · simp only [e, decide_false, Bool.or_false]
          rw [hiff j hj]
          simp [e]
      · simp only [hL'] at hLj ⊢
        by_cases ej : j = i
        · subst ej
          rw [hready e he hb]; rfl
        · simp only [ej, decide_false, Bool.or_false] at hLj
          have h9 : listed.getD e.on true = true := hcl j hj hLj e he hb
          rw [h9]; rfl
      · exact h.next hlen hi' hap (fun j => hL' j) q0 hnx0 q1 hm hn hn1 hlh hr
    -- the guard
    have guard : ∀ b, GuardIs ops ops[i].guard (ov (fun j => decide (j < i)) (List.zipWith (fun o e => updT o.dst e.x) ops es) f) b → Region.wanted ops[i] (yielded ops.toArray a.tmps) = b := fun b hg => by
      unfold GuardIs at hg
      split at hg
      · rename_i heq
        simp [Region.wanted, heq, hg]
      · rename_i j want heq
        obtain ⟨o, d, hj, hd, hg⟩ := hg
        have hlook : d ∈ ops[i].looksAt ops.toArray := by
          unfold Oper.looksAt
          rw [heq]
          simp [hj, hd]
        have hv := h.tmps d
        rcases hg with ⟨r, hfd, rfl⟩ | ⟨⟨us, hfd⟩, rfl⟩
        · rw [looks d hlook, hfd] at hv
          have hv' := hv.at_inv
          have hy : yielded ops.toArray a.tmps j = some r := by
            have hd' : a.tmps[d]? = some (.bool r) := by
              rw [Array.getD_eq_getD_getElem?] at hv'
              cases hq : a.tmps[d]? with
              | none => rw [hq] at hv'; simp [undef] at hv'
              | some u => rw [hq] at hv'; simpa using hv'
            simp [yielded, hj, hd, hd']
          simp [Region.wanted, heq, hy]
        · rw [looks d hlook, hfd] at hv
          have hv' := hv.at_inv
          have hy : yielded ops.toArray a.tmps j = none := by
            rw [Array.getD_eq_getD_getElem?] at hv'
            cases hq : a.tmps[d]? with
            | none => simp [yielded, hj, hd, hq]
            | some u =>
              rw [hq] at hv'
              have : u = .tuple us := by simpa using hv'
              simp [yielded, hj, hd, hq, this]
          simp [Region.wanted, heq, hy]
    unfold wpOpIn
    rw [ho]
    simp only
    obtain ⟨m, hmg, hm⟩ := h.mem
    rcases q5 with ⟨g1, glt, n1, gn, gk⟩ | ⟨g1, g2, g3, g4, g5⟩
    · rw [guard true g1]
      simp only [if_true]
      have hop := gk (evF (ov (fun j => listed.getD j true) (List.zipWith (fun o e => updT o.dst e.x) ops es) f)) m (fun X hX => by
        cases X with
        | tmp t => exact looks t (List.mem_append_left _ (List.mem_filterMap.2 ⟨.tmp t, by simpa using hX, rfl⟩))
        | const v => rfl
        | global _ => rfl
        | func _ => rfl) (fun b hb => by
        rw [hmg b]
        refine ov_agree _ _ _ _ _ (fun j hj hne => ?_) rfl
        have hj' : j < es.length := by simpa using hj
        have hji : j ≠ i := fun e => by subst e; exact hne hself
        simp only [List.getElem_map]
        exact dget_none (hap.rd j hj' (by omega) hji hne b hb))
      have hfree : ∀ b, c.us b → b < (es[i]'(by omega)).lo ∨ (es[i]'(by omega)).hi ≤ b := fun b hb => by
        rcases h.nx b hb with h1 | ⟨j, hj, h1, h2, h3⟩
        · exact .inl (by omega)
        · have hji : j ≠ i := fun e => by subst e; rw [h0] at h1; simp at h1
          rcases Nat.lt_or_gt_of_ne hji with hlt' | hgt
          · have := (hall j (by omega)).2.2.2.2.1 i hi' hlt'
            exact .inl (by omega)
          · have := q4 j (by omega) hgt
            exact .inr (by omega)
      obtain ⟨x, δ, rd, n2, ⟨rfl, rfl, rfl, rfl⟩, hgood⟩ := opK_good (o := ops[i]) (a := a) hT hm (fun e => by rcases hfree _ e with h1 | h1 <;> omega) (fun x => by
        cases x with
        | tmp t => exact h.tmps t
        | const v => exact constV_rel c v
        | global g => exact .junk _
        | func f => exact .fn _ [] [] #[] #[] rfl rfl (fun i h => by simp at h) (fun i h => by simp at h)) (fun x δ rd n2 hK b hb => by
        obtain ⟨rfl, rfl, rfl, rfl⟩ := hK
        rcases hfree b hb with h1 | h1
        · exact .inl h1
        · exact .inr (by omega)) hop
      exact hgood ro _ Q fun v c' hn hr => next c' v m n2 hmg hn (by omega) (fun _ _ _ => glt) hr
    · rw [guard false g1]
      simp only [Bool.false_eq_true, if_false]
      refine ⟨fun _ _ => trivial, next c undef m 0 hmg ?_ (by omega) (fun b h1 h2 => absurd h1 h2) (by rw [g3]; exact .at _)⟩
      rw [g4]
      exact Nxt.refl hm
end
end Go.Abs
namespace Go.Abs
variable {P : Program} {T : Tbl}

theorem drawn_evo (S : Nat → Prop) (c : Cx) : Evo S c { c with w := { c.w with drawn := c.w.drawn + 1 } } where
  os := rfl
  tape := rfl
  output := rfl
  size := Nat.le_refl _
  keep := fun _ C _ _ h => ⟨C, h, rfl⟩
  same := fun _ _ _ => rfl
  imm := fun _ _ h => ⟨h, rfl⟩
  imold := fun _ _ h _ _ => h
  us := fun _ h => h
  ρ := fun _ _ => .inl rfl

theorem MemRel.congr {c : Cx} {m m' : Mem} (h : MemRel c m) (e : ∀ b, m'.get b = m.get b) : MemRel c m' :=
  ⟨fun b => by rw [e b]; exact h.blk b, h.inj, h.big, h.imlt⟩

/-- A region whose order is open comes to what its text's order comes to. -/
theorem draw_sound (hT : TblOk P T) (hmix : P.follows .mixedOrders = true) {c0 : Cx} {N nx0 : Nat} {s : St} {c : Cx} {a : Act} (h : Cor c0 N nx0 s c a) {id : Nat} {ops : Array Oper} (hlex : lexT ops.toList = true) {K : St → Prop}
    (hw : drawL Ar.std T P N ops.toList ops.toList s [] fun s' log => if memOk (ancs ops.toList []) log = true then K s' else False)
    {Q : Exit → Act → World → Prop} (hQ : ∀ s' c' a', K s' → Cor c0 N nx0 s' c' a' → Q .normal a' c'.w) (ro : Option Nat) : (Code.region id ops true).wpIn (FW ro) 0 P Q a c.w := by
  refine wpIn_region_any hmix ?_
  obtain ⟨es, s', hK, hE⟩ := drawL_ents _ _ _ hw
  simp only [List.nil_append] at hK
  split at hK
  case isFalse => exact hK.elim
  rename_i hmem
  obtain ⟨hlen, hnx, hf, hg, hall⟩ := ents_at _ _ _ _ _ _ _ _ hE
  have hevo := drawn_evo (fun k => ∃ b, c0.ρ b = some (some k)) c
  have := any_sound (nx0 := nx0) (c0 := c0) hT hE hlex hmem h.nx0 (Q := Q) (fun c' a' L hL hA => by
    refine hQ s' c' a' hK {
      size := hA.size
      tmps := fun t => ?_
      defers := hA.defers
      mem := ?_
      evo := hA.evo
      fresh := hA.fresh
      nx := fun b hb => ?_
      us := hA.us
      nx0 := Nat.le_trans h.nx0 hnx }
    · have := hA.tmps t
      rw [ov_agree _ L (fun _ => true) _ (tget s.t) (fun j hj hne => absurd (hL j (by simp [hlen] at hj; simpa using hj)) hne) rfl, ← hf] at this
      exact this
    · obtain ⟨m, hm, hr⟩ := hA.mem
      refine hr.congr fun b => ?_
      rw [hm b, ov_agree _ L (fun _ => true) _ s.m.get (fun j hj hne => absurd (hL j (by simp at hj; omega)) hne) rfl, ← hg]
    · rcases hA.nx b hb with h1 | ⟨j, hj, h1, h2, h3⟩
      · omega
      · have := (hall j (by omega)).2.2.2.1
        omega)
    ops.toList.length (Array.replicate ops.size false) (List.range ops.toList.length) { c with w := { c.w with drawn := c.w.drawn + 1 } } a (by simp) (fun i hi => by
      simp only [Array.length_toList] at hi
      simp [Array.getD_eq_getD_getElem?, hi]) List.nodup_range (fun i hi => by simpa using hi) (by simp) (fun j hj hL => by
      simp only [Array.length_toList] at hj
      simp [Array.getD_eq_getD_getElem?, hj] at hL) {
      size := h.size
      tmps := fun t => by
        rw [ov_none]
        · exact (h.tmps t).evo hevo
        · intro j hj hL
          simp [hlen] at hj
          simp [Array.getD_eq_getD_getElem?, hj] at hL
      defers := h.defers.evo (drawn_evo _ c) (fun b k h => .inl ⟨b, h⟩)
      mem := ⟨s.m, fun b => by
        rw [ov_none]
        intro j hj hL
        simp [hlen] at hj
        simp [Array.getD_eq_getD_getElem?, hj] at hL, ⟨fun b => (h.mem.blk b).evo hevo rfl (fun k _ => ⟨rfl, fun _ h => h⟩), h.mem.inj, h.mem.big, h.mem.imlt⟩⟩
      evo := h.evo.trans (drawn_evo _ c)
      fresh := h.fresh
      nx := fun b hb => .inl (h.nx b hb)
      us := h.us } ro
  simpa using this
end Go.Abs
namespace Go.Abs
variable {P : Program} {T : Tbl} {c : Cx} {m : Mem}

/-- A value is told with less, its blocks by other numbers (none: an empty row). -/
inductive VLe (τ : Nat → Option Nat) (H : Nat → Bool) (F : Nat → Option (Nat × List (List V))) : V → V → Prop where
  | junk (x : V) : VLe τ H F x .junk
  | closed (x : V) : x.cl = true → VLe τ H F x x
  | nilRow (sz : Nat) : VLe τ H F (.at (.slice none 0 0)) (.row sz [])
  | msl (sz b b' off n : Nat) : H b = true → τ b = some b' → VLe τ H F (.msl sz b' off n) (.msl sz b off n)
  | nil (sz b : Nat) : H b = true → τ b = none → VLe τ H F (.at (.slice none 0 0)) (.msl sz b 0 0)
  | cap0 (sz b : Nat) : H b = true → τ b = none → VLe τ H F .cap0 (.msl sz b 0 0)
  | aptr (sz b b' i off : Nat) : H b = true → τ b = some b' → VLe τ H F (.aptr sz b' i off) (.aptr sz b i off)
  | bptr (b b' off : Nat) : H b = true → τ b = some b' → VLe τ H F (.bptr b' off) (.bptr b off)
  | mp (b b' : Nat) : H b = true → τ b = some b' → VLe τ H F (.mp b') (.mp b)
  | yld (b b' : Nat) : H b = true → τ b = some b' → VLe τ H F (.yld b') (.yld b)
  | agg (xs ys : List V) : xs.length = ys.length → (∀ i (h : i < xs.length) (h' : i < ys.length), VLe τ H F xs[i] ys[i]) → VLe τ H F (.agg xs) (.agg ys)
  | tup (xs ys : List V) : xs.length = ys.length → (∀ i (h : i < xs.length) (h' : i < ys.length), VLe τ H F xs[i] ys[i]) → VLe τ H F (.tup xs) (.tup ys)
  | frz (sz b off n : Nat) (es : List (List V)) : F b = some (sz, es) → off + n ≤ es.length → VLe τ H F (.msl sz b off n) (.row sz ((es.drop off).take n))
  | fn (f : Fn) (as bs xs ys : List V) : as.length = bs.length → xs.length = ys.length → (∀ i (h : i < as.length) (h' : i < bs.length), VLe τ H F as[i] bs[i]) →
      (∀ i (h : i < xs.length) (h' : i < ys.length), VLe τ H F xs[i] ys[i]) → VLe τ H F (.fn f as xs) (.fn f bs ys)

inductive BLe (τ : Nat → Option Nat) (H : Nat → Bool) (F : Nat → Option (Nat × List (List V))) : Blk → Blk → Prop where
  | box (ty : TypeId) (xs ys : List V) : xs.length = ys.length → (∀ i (h : i < xs.length) (h' : i < ys.length), VLe τ H F xs[i] ys[i]) → BLe τ H F (.box ty xs) (.box ty ys)
  | arr (ty : TypeId) (sz : Nat) (es fs : List (List V)) : es.length = fs.length → (∀ i (h : i < es.length) (h' : i < fs.length), es[i].length = fs[i].length ∧
      ∀ j (g : j < es[i].length) (g' : j < fs[i].length), VLe τ H F es[i][j] fs[i][j]) → BLe τ H F (.arr ty sz es) (.arr ty sz fs)
  | map (kk : IntKind) (kvs : List (Int × Value)) : BLe τ H F (.map kk kvs) (.map kk kvs)
  | loop (rf : List Nat) (lc : LoopC) (j : Option Code) : (∀ b ∈ rf, H b = true ∧ τ b = some b) → BLe τ H F (.loop rf lc j) (.loop rf lc j)
theorem VLe.self {τ : Nat → Option Nat} {H : Nat → Bool} {F : Nat → Option (Nat × List (List V))} {K : Nat → Bool} (h : ∀ b, K b = true → H b = true ∧ τ b = some b) {x : V} (hx : refOk K x) : VLe τ H F x x := by
  cases x with
  | msl sz b off n => exact .msl _ _ _ _ _ (h b hx).1 (h b hx).2
  | aptr sz b i off => exact .aptr _ _ _ _ _ (h b hx).1 (h b hx).2
  | bptr b off => exact .bptr _ _ _ (h b hx).1 (h b hx).2
  | mp b => exact .mp _ _ (h b hx).1 (h b hx).2
  | yld b => exact .yld _ _ (h b hx).1 (h b hx).2
  | _ => exact .closed _ hx
theorem VLe.selfA {τ : Nat → Option Nat} {H : Nat → Bool} {F : Nat → Option (Nat × List (List V))} {K : Nat → Bool} (h : ∀ b, K b = true → H b = true ∧ τ b = some b) {x : V} (hx : refOkA K x) : VLe τ H F x x := by
  cases x with
  | agg cs => exact .agg _ _ rfl fun i h1 _ => .self h (hx _ (List.getElem_mem h1))
  | tup cs => exact hx.elim
  | fn f as bs => exact .fn f _ _ _ _ rfl rfl (fun i h1 _ => .self h (hx.1 _ (List.getElem_mem h1))) (fun i h1 _ => .self h (hx.2 _ (List.getElem_mem h1)))
  | _ => simp only [refOkA] at hx; exact .self h hx
theorem BLe.cl {τ : Nat → Option Nat} {H : Nat → Bool} {F : Nat → Option (Nat × List (List V))} {ty : TypeId} {sz : Nat} {es : List (List V)} (h : ClE es) : BLe τ H F (.arr ty sz es) (.arr ty sz es) :=
  .arr ty sz es es rfl fun i hi _ => ⟨rfl, fun j hj _ => .closed _ (h _ (List.getElem_mem hi) _ (List.getElem_mem hj))⟩

/-- A state is told with less. -/
structure LeAt (nx0 : Nat) (s s2 : St) (τ : Nat → Option Nat) (F : Nat → Option (Nat × List (List V))) : Prop where
  t : ∀ p ∈ s2.t, VLe τ s2.m.has F (tget s.t p.1) p.2
  m : ∀ b blk, s2.m.get b = some blk → (∀ b', τ b = some b' → ∃ blk', s.m.get b' = some blk' ∧ BLe τ s2.m.has F blk' blk) ∧ (τ b = none → ∃ ty sz, blk = .arr ty sz [])
  inj : ∀ b b' k, s2.m.has b = true → s2.m.has b' = true → τ b = some k → τ b' = some k → b = b'
  nx : ∀ b, s2.m.has b = true → b < s2.nx
  keep : ∀ b, s2.m.has b = true → b < nx0 → τ b = some b
  nx0 : nx0 ≤ s2.nx
  frz : ∀ b sz es, F b = some (sz, es) → (∃ ty, s.m.get b = some (.arr ty sz es)) ∧ ClE es
  live : ∀ b b', s2.m.has b = true → τ b = some b' → F b' = none
def Le (nx0 : Nat) (s s2 : St) : Prop := ∃ τ F, LeAt nx0 s s2 τ F

def Cx.ren (c c0 : Cx) (τ : Nat → Option Nat) (H : Nat → Bool) (F : Nat → Option (Nat × List (List V))) : Cx :=
  { w := c.w, im := fun k o => c.im k o ∨ ∃ b, F b ≠ none ∧ c.ρ b = some (some k), ρ := fun b => if H b then (match τ b with | some b' => c.ρ b' | none => some none) else none, us := fun b => H b = true ∨ c0.us b }

theorem ren_cl {c0 : Cx} {τ : Nat → Option Nat} {H : Nat → Bool} {F : Nat → Option (Nat × List (List V))} {x : V} {v : Value} (h : Rel c x v) (hc : x.cl = true) : Rel (c.ren c0 τ H F) x v :=
  ((h.close hc).evo (S := fun _ => True) (c' := (c.ren c0 τ H F).cl) ⟨rfl, rfl, rfl, Nat.le_refl _, fun _ C _ _ h => ⟨C, h, rfl⟩, fun _ _ h => absurd trivial h, fun _ _ h => ⟨.inl h, rfl⟩, fun _ _ _ _ hS => absurd trivial hS, fun _ h => h, fun _ h => h.elim⟩).open

theorem ren_some {c0 : Cx} {τ : Nat → Option Nat} {H : Nat → Bool} {F : Nat → Option (Nat × List (List V))} {b b' : Nat} (h : H b = true) (ht : τ b = some b') : (c.ren c0 τ H F).ρ b = c.ρ b' := by simp [Cx.ren, h, ht]
theorem ren_none {c0 : Cx} {τ : Nat → Option Nat} {H : Nat → Bool} {F : Nat → Option (Nat × List (List V))} {b : Nat} (h : H b = true) (ht : τ b = none) : (c.ren c0 τ H F).ρ b = some none := by simp [Cx.ren, h, ht]

theorem VLe.rel {c0 : Cx} {τ : Nat → Option Nat} {H : Nat → Bool} {F : Nat → Option (Nat × List (List V))} (hm : MemRel c m) (hF : ∀ b sz es, F b = some (sz, es) → (∃ ty, m.get b = some (.arr ty sz es)) ∧ ClE es) {x y : V} (hv : VLe τ H F x y) : ∀ {v : Value}, Rel c x v → Rel (c.ren c0 τ H F) y v := by
  induction hv with
  | junk x => exact fun _ => .junk _
  | closed x hc => exact fun h => ren_cl h hc
  | nilRow sz =>
    intro v h
    obtain rfl := h.at_inv
    have := Rel.row (c := c.ren c0 τ H F) sz [] none 0 0 0 (fun _ _ => undef) (by simp) (by simp) (by simp) (by simp) (by simp)
    simpa using this
  | msl sz b b' off n hH ht =>
    intro v h
    cases h with
    | msl _ _ _ _ _ hus hm =>
      refine .msl _ _ _ _ _ (.inl hH) ?_
      unfold MslOk at hm ⊢
      rw [ren_some hH ht]
      exact hm
  | nil sz b hH ht =>
    intro v h
    obtain rfl := h.at_inv
    refine .msl _ _ _ _ _ (.inl hH) ?_
    unfold MslOk
    rw [ren_none hH ht]
    exact ⟨rfl, rfl, none, rfl⟩
  | cap0 sz b hH ht =>
    intro v h
    cases h with
    | cap0 a =>
      refine .msl _ _ _ _ _ (.inl hH) ?_
      unfold MslOk
      rw [ren_none hH ht]
      exact ⟨rfl, rfl, a, rfl⟩
  | aptr sz b b' i off hH ht =>
    intro v h
    cases h with
    | aptr _ _ _ _ _ hus hm =>
      refine .aptr _ _ _ _ _ (.inl hH) ?_
      unfold PtrOk at hm ⊢
      rw [ren_some hH ht]
      exact hm
  | bptr b b' off hH ht =>
    intro v h
    cases h with
    | bptr _ _ _ hus hm =>
      refine .bptr _ _ _ (.inl hH) ?_
      unfold PtrOk at hm ⊢
      rw [ren_some hH ht]
      exact hm
  | mp b b' hH ht =>
    intro v h
    cases h with
    | mp _ _ hus hm =>
      refine .mp _ _ (.inl hH) ?_
      unfold MapOk at hm ⊢
      rw [ren_some hH ht]
      exact hm
  | yld b b' hH ht =>
    intro v h
    cases h with
    | yld _ _ hus hm =>
      refine .yld _ _ (.inl hH) ?_
      unfold YldOk at hm ⊢
      rw [ren_some hH ht]
      exact hm
  | frz sz b off n es hf hle =>
    intro v h
    obtain ⟨⟨ty, hg⟩, hcl⟩ := hF b sz es hf
    have h1 := mvV_rel (mv := [b]) (K := fun _ => false) hm (fun _ _ => rfl) h (by simp only [mvOk, List.mem_singleton, if_true, hg]; exact ⟨trivial, hle, hcl⟩)
    simp only [mvV, List.mem_singleton, if_true, hg] at h1
    exact ((h1.close rfl).evo (S := fun _ => True) (c' := (c.ren c0 τ H F).cl) ⟨rfl, rfl, rfl, Nat.le_refl _, fun _ C _ _ h => ⟨C, h, rfl⟩, fun _ _ h => absurd trivial h, fun k o hk => ⟨by
      rcases hk with hk | ⟨b', hb', hk⟩
      · exact .inl hk
      · obtain rfl := List.mem_singleton.1 hb'
        exact .inr ⟨b', by rw [hf]; simp, hk⟩, rfl⟩, fun _ _ _ _ hS => absurd trivial hS, fun _ h => h, fun _ h => h.elim⟩).open
  | agg xs ys hl _ ih =>
    intro v h
    cases h with
    | agg _ vs h1 h2 => exact .agg _ _ (by omega) fun i q q' => ih i (by omega) q (h2 i (by omega) q')
  | tup xs ys hl _ ih =>
    intro v h
    cases h with
    | tup _ vs h1 h2 => exact .tup _ _ (by omega) fun i q q' => ih i (by omega) q (h2 i (by omega) q')
  | fn f as bs xs ys hl1 hl2 _ _ ih1 ih2 =>
    intro v h
    cases h with
    | fn _ _ _ fs cs h1 h2 h3 h4 =>
      exact .fn f _ _ _ _ (by omega) (by omega) (fun i q q' => ih1 i (by omega) q (h3 i (by omega) q')) (fun i q q' => ih2 i (by omega) q (h4 i (by omega) q'))

theorem le_sound {c0 : Cx} {N nx0 : Nat} {s s2 : St} {a : Act} (h : Cor c0 N nx0 s c a) (hnx0 : ∀ b, c0.us b → b < nx0) (hle : Le nx0 s s2) : ∃ c2, c2.w = c.w ∧ Cor c0 N nx0 s2 c2 a := by
  obtain ⟨τ, F, hl⟩ := hle
  generalize hH : s2.m.has = H at *
  have has : ∀ b, H b = true ↔ ∃ blk, s2.m.get b = some blk := fun b => by rw [← hH]; exact has_iff
  have nim : ∀ b b' k, H b = true → τ b = some b' → c.ρ b' = some (some k) → (∀ o, ¬ c.im k o) → ∀ o, ¬ (c.ren c0 τ H F).im k o := fun b b' k hb ht hk hn o ho => by
    rcases ho with ho | ⟨q, hq, hqk⟩
    · exact hn o ho
    · obtain rfl := h.mem.inj q b' k hqk hk
      rw [← hH] at hb
      exact hq (hl.live b q hb ht)
  have himlt : ∀ k o, (c.ren c0 τ H F).im k o → k < c.w.heap.size := fun k o hk => by
    rcases hk with hk | ⟨b, _, hk⟩
    · exact h.mem.imlt k o hk
    · exact (h.mem.blk b).lt hk
  have himold : ∀ k o, (c.ren c0 τ H F).im k o → k < c0.w.heap.size → (¬ ∃ b, c0.ρ b = some (some k)) → c0.im k o := fun k o hk hlt hS => by
    rcases hk with hk | ⟨b, _, hk⟩
    · exact h.evo.imold k o hk hlt hS
    · rcases h.fresh b k hk with h1 | h1
      · exact absurd h1 hS
      · omega
  have real0 : ∀ b k, (c.ren c0 τ H F).ρ b = some (some k) → ∃ b', H b = true ∧ τ b = some b' ∧ c.ρ b' = some (some k) := fun b k hb => by
    simp only [Cx.ren] at hb
    split at hb
    · rename_i h1
      split at hb
      · rename_i b' ht; exact ⟨b', h1, ht, hb⟩
      · simp at hb
    · simp at hb
  refine ⟨c.ren c0 τ H F, rfl, {
    size := h.size
    tmps := fun t => ?_
    defers := h.defers.sub rfl (fun b k hb => by obtain ⟨b', _, _, h3⟩ := real0 b k hb; exact ⟨b', h3⟩)
    mem := { blk := fun b => ?_, inj := fun b b' k h1 h2 => ?_, big := fun b hb => ?_, imlt := himlt }
    evo := { os := h.evo.os, tape := h.evo.tape, output := h.evo.output, size := h.evo.size, keep := h.evo.keep, same := h.evo.same, imm := fun k o hk => ⟨.inl (h.evo.imm k o hk).1, (h.evo.imm k o hk).2⟩, imold := himold, us := fun b hb => .inr hb, ρ := fun b hb => ?_ }
    fresh := fun b k hb => ?_
    nx := fun b hb => ?_
    us := fun b hb => ?_
    nx0 := hl.nx0 }⟩
  · rcases tget_mem s2.t t with h1 | ⟨p, hp, h1, h2⟩
    · rw [h1]; exact .junk _
    · rw [h2]
      have h3 := hl.t p hp
      rw [hH, h1] at h3
      exact h3.rel h.mem hl.frz (h.tmps t)
  · cases hb : s2.m.get b with
    | none =>
      have : H b = false := by
        cases hq : H b with
        | false => rfl
        | true => obtain ⟨blk, h1⟩ := (has b).1 hq; rw [hb] at h1; simp at h1
      simp [BlkRel, Cx.ren, this]
    | some blk =>
      have hHb : H b = true := (has b).2 ⟨blk, hb⟩
      obtain ⟨h1, h2⟩ := hl.m b blk hb
      cases ht : τ b with
      | none =>
        obtain ⟨ty, sz, rfl⟩ := h2 ht
        exact .inl ⟨rfl, ren_none hHb ht⟩
      | some b' =>
        obtain ⟨blk', h3, h4⟩ := h1 b' ht
        rw [hH] at h4
        have h5 := h.mem.blk b'
        rw [h3] at h5
        have hρ := ren_some (c := c) (c0 := c0) (F := F) hHb ht
        cases h4 with
        | box ty xs ys hle hv =>
          obtain ⟨k, C, g1, g2, g3, g4, g5⟩ := h5
          exact ⟨k, C, by rw [hρ]; exact g1, g2, by omega, fun j hj hj' => (hv j (by omega) hj).rel h.mem hl.frz (g4 j (by omega) hj'), nim b b' k hHb ht g1 g5⟩
        | arr ty sz es fs hle hv =>
          rcases h5 with ⟨g1, g2⟩ | ⟨k, C, cap, g1, g2, g3, g4, g5, g6, g7, g8⟩
          · subst g1
            exact .inl ⟨by simpa using hle.symm, by rw [hρ]; exact g2⟩
          · refine .inr ⟨k, C, cap, by rw [hρ]; exact g1, g2, g3, g4, by omega, fun i hi => ?_, fun i hi j hj => ?_, nim b b' k hHb ht g1 g8⟩
            · rw [← (hv i (by omega) hi).1]; exact g6 i (by omega)
            · obtain ⟨q1, q2⟩ := hv i (by omega) hi
              obtain ⟨u, hu1, hu2⟩ := g7 i (by omega) j (by omega)
              exact ⟨u, hu1, (q2 j (by omega) hj).rel h.mem hl.frz hu2⟩
        | map kk kvs =>
          obtain ⟨k, es, clock, g1, g2⟩ := h5
          exact ⟨k, es, clock, by rw [hρ]; exact g1, g2.1, g2.2.1, nim b b' k hHb ht g1 g2.2.2⟩
        | loop rf lc j hv =>
          obtain ⟨k, r, g1, g2, g3, g4, hrf, g5⟩ := h5
          refine ⟨k, r, by rw [hρ]; exact g1, g2, g3, fun t => ?_, hrf, nim b b' k hHb ht g1 g5⟩
          have := g4 t
          rcases tget_mem lc.t t with e | ⟨p, hp, _, e⟩
          · rw [e]; exact .junk _
          · rw [e] at this ⊢
            exact (VLe.selfA (fun b hb => hv b (by simpa using hb)) (hrf p hp)).rel h.mem hl.frz this
  · have real : ∀ b, (c.ren c0 τ H F).ρ b = some (some k) → ∃ b', H b = true ∧ τ b = some b' ∧ c.ρ b' = some (some k) := fun b hb => by
      simp only [Cx.ren] at hb
      split at hb
      · rename_i h1
        split at hb
        · rename_i b' ht; exact ⟨b', h1, ht, hb⟩
        · simp at hb
      · simp at hb
    obtain ⟨x, p1, p2, p3⟩ := real b h1
    obtain ⟨y, q1, q2, q3⟩ := real b' h2
    obtain rfl := h.mem.inj x y k p3 q3
    rw [← hH] at p1 q1
    exact hl.inj b b' x p1 q1 p2 q2
  · have h1 : H b = false := by
      cases hq : H b with
      | false => rfl
      | true => exact absurd (.inl hq) hb
    simp [Cx.ren, h1]
  · cases hq : H b with
    | false => exact .inr (by simp [Cx.ren, hq])
    | true =>
      have ht := hl.keep b (by rw [hH]; exact hq) (hnx0 b hb)
      rw [ren_some hq ht]
      exact h.evo.ρ b hb
  · simp only [Cx.ren] at hb
    split at hb
    · split at hb
      · exact h.fresh _ k hb
      · simp at hb
    · simp at hb
  · rcases hb with hb | hb
    · exact hl.nx b (by rw [hH]; exact hb)
    · exact Nat.lt_of_lt_of_le (hnx0 b hb) hl.nx0
  · rcases hb with hb | hb
    · by_cases hlt : b < nx0
      · have ht := hl.keep b (by rw [hH]; exact hb) hlt
        obtain ⟨blk, h1⟩ := (has b).1 hb
        obtain ⟨blk', h2, _⟩ := (hl.m b blk h1).1 b ht
        exact h.us b (us_of_get h.mem h2)
      · exact .inr (by omega)
    · exact .inl hb

inductive AX where
  | normal | exit (id : Nat) | ret
def AX.ex : AX → Exit
  | .normal => .normal
  | .exit id => .exit id
  | .ret => .ret

abbrev SP := (AX → St → Prop)
/-- A loop: a reckoning stops here. An invariant, with a measure; what a round ends with may be told with less. -/
inductive LoopW (nx0 : Nat) (B : St → SP → Prop) (s : St) (Q : SP) : Prop
  | mk (I : Nat → St → Prop) (n : Nat) (s0 : St) : Le nx0 s s0 → I n s0 → (∀ n s, I n s → B s fun e s' => match e with | .normal => ∃ n' s2, n' < n ∧ Le nx0 s' s2 ∧ I n' s2 | e => Q e s') → LoopW nx0 B s Q
/-- A region whose order is open: a reckoning stops here. -/
inductive DrawW (A : Ar) (T : Tbl) (P : Program) (N : Nat) (ops : List Oper) (s : St) (K : St → Prop) : Prop
  | mk : lexT ops = true → drawL A T P N ops ops s [] (fun s' log => if memOk (ancs ops []) log = true then K s' else False) → DrawW A T P N ops s K

/-- A context whose world goes on by a block that has no name. -/
def Cx.laid (c : Cx) (o : Obj) : Cx := { c with w := c.w.alloc o }
theorem laid_heap (c : Cx) (o : Obj) (k : Nat) (h : k < c.w.heap.size) : (c.laid o).w.heap[k]? = c.w.heap[k]? := by
  show (c.w.heap.push o)[k]? = _
  rw [Array.getElem?_push, if_neg (Nat.ne_of_lt h)]
theorem laid_evo (S : Nat → Prop) (hm : MemRel c m) (o : Obj) : Evo S c (c.laid o) where
  os := rfl
  tape := rfl
  output := rfl
  size := by show c.w.heap.size ≤ (c.w.heap.push o).size; simp
  keep := fun k C ty fr h => ⟨C, by rw [laid_heap c o k (Array.getElem?_eq_some_iff.1 h).1]; exact h, rfl⟩
  same := fun k hk _ => laid_heap c o k hk
  imm := fun k q h => ⟨h, by
    have hlt := hm.imlt k q h
    show World.cell? _ _ = _
    simp only [World.cell?, laid_heap c o k hlt]⟩
  imold := fun _ _ h _ _ => h
  us := fun _ h => h
  ρ := fun _ _ => .inl rfl
theorem Cor.defd {c0 : Cx} {N nx0 : Nat} {s : St} {a : Act} (h : Cor c0 N nx0 s c a) : Cor c0 N nx0 s (c.laid (.deferred (some []))) { a with defers := markOf c.w.heap.size :: a.defers } := by
  have he := laid_evo (fun _ => True) h.mem (.deferred (some []))
  obtain ⟨rs, h1, h2, h3⟩ := h.defers
  exact {
    size := h.size
    tmps := fun t => (h.tmps t).evo he
    defers := ⟨c.w.heap.size :: rs, by simp [h1], List.nodup_cons.2 ⟨fun hr => by
      have := (Array.getElem?_eq_some_iff.1 (h3 _ hr).1).1
      omega, h2⟩, fun r hr => by
      rcases List.mem_cons.1 hr with rfl | hr
      · refine ⟨?_, h.evo.size, fun b hb => ?_⟩
        · show (c.w.heap.push _)[c.w.heap.size]? = _
          simp
        · have := (h.mem.blk b).lt hb
          omega
      · obtain ⟨q1, q2, q3⟩ := h3 r hr
        exact ⟨by rw [laid_heap c _ r (Array.getElem?_eq_some_iff.1 q1).1]; exact q1, q2, q3⟩⟩
    mem := ⟨fun b => (h.mem.blk b).evo he rfl (fun k hk => ⟨laid_heap c _ k ((h.mem.blk b).lt hk), fun _ h => h⟩), h.mem.inj, h.mem.big, fun k o ho => Nat.lt_of_lt_of_le (h.mem.imlt k o ho) he.size⟩
    evo := h.evo.trans (laid_evo _ h.mem _)
    fresh := h.fresh
    nx := h.nx
    us := h.us
    nx0 := h.nx0 }

/-- A loop's record turns, and its block is let go. -/
def Cx.turn (c : Cx) (b k : Nat) (o : Obj) : Cx := { c with w := c.w.putObj k o, ρ := fun b' => if b' = b then none else c.ρ b' }
theorem turn_evo {b k : Nat} {r : Loop} {o : Obj} {S : Nat → Prop} (hk : c.w.heap[k]? = some (.loop r)) (him : ∀ q, ¬ c.im k q) (hS : S k) : Evo S c (c.turn b k o) where
  os := rfl
  tape := rfl
  output := rfl
  size := by simp [Cx.turn]
  keep := fun k' C ty fr h => ⟨C, by
    have : k' ≠ k := fun e => by subst e; rw [hk] at h; cases h
    show (c.w.putObj k o).heap[k']? = _
    rw [World.putObj_heap_other this]; exact h, rfl⟩
  same := fun k' _ hn => by
    have : k' ≠ k := fun e => by subst e; exact hn hS
    exact World.putObj_heap_other this
  imm := fun k' q h => ⟨h, by
    have : k' ≠ k := fun e => by subst e; exact him q h
    show World.cell? _ _ = _
    simp only [World.cell?, Cx.turn, World.putObj_heap_other this]⟩
  imold := fun _ _ h _ _ => h
  us := fun _ h => h
  ρ := fun b' _ => by
    by_cases e : b' = b
    · exact .inr (by simp [Cx.turn, e])
    · exact .inl (by simp [Cx.turn, e])
theorem turn_mem {b k : Nat} {r : Loop} {o : Obj} (hm : MemRel c m) (hb : c.ρ b = some (some k)) (hk : c.w.heap[k]? = some (.loop r)) (him : ∀ q, ¬ c.im k q) : MemRel (c.turn b k o) (m.del b) where
  blk := fun b' => by
    rw [Mem.get_del]
    by_cases e : b' = b
    · simp [e, BlkRel, Cx.turn]
    · rw [if_neg e]
      refine (hm.blk b').evo (turn_evo (S := fun _ => True) hk him trivial) (by simp [Cx.turn, e]) (fun k' hk' => ⟨?_, fun _ h => h⟩)
      have : k' ≠ k := fun e' => by subst e'; exact e (hm.inj b' b k' hk' hb)
      exact World.putObj_heap_other this
  inj := fun x y k' h1 h2 => by
    simp only [Cx.turn] at h1 h2
    split at h1
    · simp at h1
    · split at h2
      · simp at h2
      · exact hm.inj x y k' h1 h2
  big := fun b' h => by
    simp only [Cx.turn]
    split
    · rfl
    · exact hm.big b' h
  imlt := fun k' q h => by
    have := hm.imlt k' q h
    simpa [Cx.turn] using this
theorem Cor.turn {c0 : Cx} {N nx0 : Nat} {s : St} {a : Act} (h : Cor c0 N nx0 s c a) {b k : Nat} {r : Loop} (o : Obj) (hb : c.ρ b = some (some k)) (hk : c.w.heap[k]? = some (.loop r)) (him : ∀ q, ¬ c.im k q) :
    Cor c0 N nx0 { s with m := s.m.del b } (c.turn b k o) a := by
  have he := turn_evo (b := b) (o := o) (S := fun _ => True) hk him trivial
  have hρ : ∀ b' k', (c.turn b k o).ρ b' = some (some k') → c.ρ b' = some (some k') := fun b' k' h => by
    simp only [Cx.turn] at h
    split at h
    · simp at h
    · exact h
  obtain ⟨rs, h1, h2, h3⟩ := h.defers
  exact {
    size := h.size
    tmps := fun t => (h.tmps t).evo he
    defers := ⟨rs, h1, h2, fun q hq => by
      obtain ⟨q1, q2, q3⟩ := h3 q hq
      refine ⟨?_, q2, fun b' hb' => q3 b' (hρ b' q hb')⟩
      have : q ≠ k := fun e => q3 b (e ▸ hb)
      show (c.w.putObj k o).heap[q]? = _
      rw [World.putObj_heap_other this]; exact q1⟩
    mem := turn_mem h.mem hb hk him
    evo := h.evo.trans (turn_evo hk him (h.fresh b k hb))
    fresh := fun b' k' h' => h.fresh b' k' (hρ b' k' h')
    nx := h.nx
    us := h.us
    nx0 := h.nx0 }

/-- A range over a function: a reckoning stops here. -/
inductive RangeW (P : Program) (N nx0 : Nat) (f : Operand) (ps : Array Tmp) (asg body : Code) (s : St) (Q : SP) : Prop
  | mk (s0 : St) (k : FuncId) (cap : List V) (rf : List Nat) (mi mo : Mem) (x : V) (nx' : Nat) (j : Option Code) : Le nx0 s s0 → (∀ p ∈ s0.t, refOkA (fun b => rf.contains b) p.2) → s0.ev f = .fn (.func k) [] cap →
      (∀ b blk, mi.get b = some blk → (s0.m.set s0.nx (.loop rf ⟨N, s0.t, ps, asg, body⟩ none)).get b = some blk) → mi.has s0.nx = true →
      (∀ b blk, mi.get b = some blk → BlkOk mi.has blk ∧ b < s0.nx + 1) →
      (∀ b, mo.has b = true → mi.has b = true ∨ (s0.nx + 1 ≤ b ∧ b < nx')) → (∀ y ∈ V.yld s0.nx :: cap, mvAOk (s0.m.set s0.nx (.loop rf ⟨N, s0.t, ps, asg, body⟩ none)) mi.has [] y) →
      Sound P k (V.yld s0.nx :: cap) (s0.nx + 1) mi x mo nx' → mo.get s0.nx = some (.loop rf ⟨N, s0.t, ps, asg, body⟩ j) → s0.nx + 1 ≤ nx' →
      (match j with
       | none => Q .normal { t := s0.t, m := ((s0.m.set s0.nx (.loop rf ⟨N, s0.t, ps, asg, body⟩ none)).app (callδ mi [] (s0.nx + 1) mo)).del s0.nx, nx := nx' }
       | some .ret => Q .ret { t := s0.t, m := ((s0.m.set s0.nx (.loop rf ⟨N, s0.t, ps, asg, body⟩ none)).app (callδ mi [] (s0.nx + 1) mo)).del s0.nx, nx := nx' }
       | some (.exit i) => Q (.exit i) { t := s0.t, m := ((s0.m.set s0.nx (.loop rf ⟨N, s0.t, ps, asg, body⟩ none)).app (callδ mi [] (s0.nx + 1) mo)).del s0.nx, nx := nx' }
       | _ => False) → RangeW P N nx0 f ps asg body s Q

def seqQ (B : St → SP → Prop) (Q : SP) : SP := fun e s => match e with | .normal => B s Q | .exit i => Q (.exit i) s | .ret => Q .ret s
def blockQ (id : Nat) (Q : SP) : SP := fun e s => match e with | .normal => Q .normal s | .exit i => if i = id then Q .normal s else Q (.exit i) s | .ret => Q .ret s
def wpC (A : Ar) (T : Tbl) (P : Program) (N nx0 : Nat) (top : Bool) : Code → St → SP → Prop
  | .skip, s, Q => Q .normal s
  | .region _ ops draw, s, Q => if draw then DrawW A T P N ops.toList s (Q .normal) else wpL A T P N ops.toList ops.toList s (Q .normal)
  | .seq x y, s, Q => wpC A T P N nx0 top x s (seqQ (fun s' Q' => wpC A T P N nx0 top y s' Q') Q)
  | .cond b x y, s, Q =>
    match s.ev b with
    | .at (.bool t) => if t = true then wpC A T P N nx0 top x s Q else wpC A T P N nx0 top y s Q
    | _ => False
  | .block id b, s, Q => wpC A T P N nx0 top b s (blockQ id Q)
  | .loop b, s, Q => LoopW nx0 (fun s' Q' => wpC A T P N nx0 top b s' Q') s Q
  | .rangeFunc f ps asg body, s, Q => if top = true then RangeW P N nx0 f ps asg body s Q else False
  | .exit id, s, Q => Q (.exit id) s
  | .ret, s, Q => Q .ret s
  | _, _, _ => False

/-- What the machine's code ends with, as the abstract one tells it. -/
def Lift (c0 : Cx) (N nx0 : Nat) (Q : SP) : Exit → Act → World → Prop := fun e a w => ∃ ax s c, e = AX.ex ax ∧ Q ax s ∧ c.w = w ∧ Cor c0 N nx0 s c a

theorem wpC_sound (hT : TblOk P T) (hmix : P.follows .mixedOrders = true) {c0 : Cx} {N nx0 : Nat} (hnx0 : ∀ b, c0.us b → b < nx0) (ro : Option Nat) (top : Bool) (htop : top = true → ro = none) : ∀ (code : Code) (s : St) (Q : SP) (c : Cx) (a : Act), Cor c0 N nx0 s c a → wpC Ar.std T P N nx0 top code s Q → code.wpIn (FW ro) 0 P (Lift c0 N nx0 Q) a c.w := by
  intro code
  induction code with
  | skip => exact fun s Q c a h hw => wpIn_skip ⟨.normal, s, c, rfl, hw, rfl, h⟩
  | region id ops draw =>
    intro s Q c a h hw
    cases draw with
    | false =>
      simp only [wpC, Bool.false_eq_true, if_false] at hw
      refine wpIn_region_list ?_
      have := list_sound hT (all := ops.toList) (Q := Lift c0 N nx0 Q) (K := Q .normal) (fun s c a hs hc => ⟨.normal, s, c, rfl, hs, rfl, hc⟩) ops.toList s c a h hw ro
      simpa using this
    | true =>
      simp only [wpC, if_true] at hw
      cases hw with
      | mk hlex hd => exact draw_sound hT hmix h hlex hd (fun s' c' a' hs hc => ⟨.normal, s', c', rfl, hs, rfl, hc⟩) ro
  | seq x y ihx ihy =>
    intro s Q c a h hw
    simp only [wpC] at hw
    refine wpIn_seq (Go.wpIn_mono (ihx s _ c a h hw) fun e a' w' ⟨ax, s', c', he, hq, hw', hc'⟩ => ?_)
    subst he hw'
    cases ax with
    | normal => exact ihy s' Q c' a' hc' hq
    | exit id => exact ⟨.exit id, s', c', rfl, hq, rfl, hc'⟩
    | ret => exact ⟨.ret, s', c', rfl, hq, rfl, hc'⟩
  | cond b x y ihx ihy =>
    intro s Q c a h hw
    simp only [wpC] at hw
    split at hw
    · rename_i t ht
      have hv := h.ev b
      rw [ht] at hv
      have hv' := hv.at_inv
      refine wpIn_cond hv' ?_
      split at hw
      · rename_i e; subst e; exact ihx s Q c a h hw
      · rename_i e
        have : t = false := by simpa using e
        subst this
        exact ihy s Q c a h hw
    · exact hw.elim
  | block id b ih =>
    intro s Q c a h hw
    simp only [wpC] at hw
    refine wpIn_block (Go.wpIn_mono (ih s _ c a h hw) fun e a' w' ⟨ax, s', c', he, hq, hw', hc'⟩ => ?_)
    subst he hw'
    cases ax with
    | normal => exact ⟨.normal, s', c', rfl, hq, rfl, hc'⟩
    | exit i =>
      simp only [blockQ] at hq
      simp only [AX.ex, Exit.inBlock]
      by_cases e : i = id
      · simp only [e, if_true] at hq ⊢
        exact ⟨.normal, s', c', rfl, hq, rfl, hc'⟩
      · simp only [e, if_false] at hq ⊢
        exact ⟨.exit i, s', c', rfl, hq, rfl, hc'⟩
    | ret => exact ⟨.ret, s', c', rfl, hq, rfl, hc'⟩
  | loop b ih =>
    intro s Q c a h hw
    simp only [wpC] at hw
    cases hw with
    | mk I n s0 hle0 h0 hround =>
      intro fr k cs hro hb hr
      have key : ∀ n s c a, I n s → Cor c0 N nx0 s c a → ∃ e a' w', Lift c0 N nx0 Q e a' w' ∧ ArrivesIn (Machine.fenced P (FW ro)) P (lone (fr.atR a (.code b :: .inLoop b :: k)) cs c.w) fr k cs e a' w' := by
        intro n
        induction n using Nat.strongRecOn with
        | _ n ihn =>
          intro s c a hI hc
          obtain ⟨e, a1, w1, hq, harr⟩ := ih s _ c a hc (hround n s hI) fr (.inLoop b :: k) cs hro hb hr
          obtain ⟨ax, s1, c1, he, hq, hw1, hc1⟩ := hq
          subst he hw1
          cases ax with
          | normal =>
            obtain ⟨n', s2, hlt, hle, hI'⟩ := hq
            obtain ⟨c2, hw2, hc2⟩ := le_sound hc1 hnx0 hle
            obtain ⟨e2, a2, w2, hq2, harr2⟩ := ihn n' hlt s2 c2 a1 hI' hc2
            rw [hw2] at harr2
            exact ⟨e2, a2, w2, hq2, .of_steps (StepsIn.trans harr (.one (fenced_calm hb hr rfl) stepR_inLoop)) harr2⟩
          | exit i => exact ⟨_, a1, _, ⟨.exit i, s1, c1, rfl, hq, rfl, hc1⟩, .pass (x := .inLoop b) rfl (fun _ _ => .inl (by simp [AX.ex])) harr⟩
          | ret => exact ⟨_, a1, _, ⟨.ret, s1, c1, rfl, hq, rfl, hc1⟩, .pass (x := .inLoop b) rfl (fun _ _ => .inl (by simp [AX.ex])) harr⟩
      obtain ⟨cs0, hw0, hcs0⟩ := le_sound h hnx0 hle0
      obtain ⟨e, a', w', hq, harr⟩ := key n s0 cs0 a h0 hcs0
      rw [hw0] at harr
      exact ⟨e, a', w', hq, .of_steps (.one (fenced_calm hb hr rfl) stepR_loop) harr⟩
  | rangeFunc f ps asg body _ _ =>
    intro s Q c a h hw
    simp only [wpC] at hw
    split at hw
    case isFalse => exact hw.elim
    rename_i ht
    obtain rfl := htop ht
    cases hw with
    | mk s0 k cap rf mi mo x nx' j hle hrf hf hsub hhas hmi hmo hargs hs hget hnx' hQ =>
      obtain ⟨c2, hw2, hc2⟩ := le_sound h hnx0 hle
      rw [← hw2]
      refine wpIn_rangeFunc fun fn _ => ?_
      have hA := hc2.defd
      have hl : (c2.laid (.deferred (some []))).w.heap.size = c2.w.heap.size + 1 := by show (c2.w.heap.push _).size = _; simp
      have hfresh : ¬ (c2.laid (.deferred (some []))).us s0.nx := fun e => Nat.lt_irrefl _ (hA.nx _ e)
      generalize hrec : ({ state := .ready, pending := none, fn := fn, tmps := a.tmps, params := ps, assign := asg, body := body, defers := c2.w.heap.size } : Loop) = rec0
      have hg := Grew.alloc (c2.laid (.deferred (some []))).w (.loop rec0)
      have hev3 := Cx.new_evo (fun _ => True) hA.mem hfresh hg
      have hN := new_nxt (id := s0.nx) (nx := s0.nx) (nx' := s0.nx + 1) (blk := .loop rf ⟨N, s0.t, ps, asg, body⟩ none) hA.mem hfresh hg ⟨(c2.laid (.deferred (some []))).w.heap.size, rec0, new_ρ, new_heap hg, by subst hrec; exact ⟨rfl, rfl, rfl, rfl, rfl, hc2.size⟩, fun t => by subst hrec; exact (hA.tmps t).evo hev3, hrf, new_im hA.mem⟩
      have hB := hA.next (dst := none) (fun d e => by cases e) (x := .junk) (v := undef) (δ := [(s0.nx, some (.loop rf ⟨N, s0.t, ps, asg, body⟩ none))]) (nx' := s0.nx + 1) hN (by omega) (fun _ _ => by omega) (.junk _)
      have hfv := hB.ev f
      have hsev : (s0.next none .junk [(s0.nx, some (.loop rf ⟨N, s0.t, ps, asg, body⟩ none))] (s0.nx + 1)).ev f = s0.ev f := by cases f <;> rfl
      rw [hsev, hf] at hfv
      obtain ⟨⟨fn', hfn', hname, hbody⟩, hcalls⟩ := hs
      have hρb : ((c2.laid (.deferred (some []))).new s0.nx ((c2.laid (.deferred (some []))).w.alloc (.loop rec0)) (c2.laid (.deferred (some []))).w.heap.size).ρ s0.nx = some (some (c2.w.heap.size + 1)) := by rw [new_ρ, hl]
      have hyldR : Rel ((c2.laid (.deferred (some []))).new s0.nx ((c2.laid (.deferred (some []))).w.alloc (.loop rec0)) (c2.laid (.deferred (some []))).w.heap.size) (.yld s0.nx) (.func (.yield (c2.w.heap.size + 1)) #[] #[]) := .yld _ _ (.inr rfl) (by unfold YldOk; rw [hρb])
      have hw3 : ((c2.laid (.deferred (some []))).new s0.nx ((c2.laid (.deferred (some []))).w.alloc (.loop rec0)) (c2.laid (.deferred (some []))).w.heap.size).w = (c2.w.alloc (.deferred (some []))).alloc (.loop rec0) := rfl
      generalize hc3 : (c2.laid (.deferred (some []))).new s0.nx ((c2.laid (.deferred (some []))).w.alloc (.loop rec0)) (c2.laid (.deferred (some []))).w.heap.size = c3 at *
      have hev : a.eval f = ({ a with defers := markOf c2.w.heap.size :: a.defers } : Act).eval f := by cases f <;> rfl
      generalize hfvv : ({ a with defers := markOf c2.w.heap.size :: a.defers } : Act).eval f = fv at *
      have hput : ({ a with defers := markOf c2.w.heap.size :: a.defers } : Act).put none undef = { a with defers := markOf c2.w.heap.size :: a.defers } := rfl
      rw [hput] at hB hfv
      rw [hfvv] at hfv
      cases hfv with
      | fn _ _ _ fs cs hl1 hl2 hr1 hr2 =>
        obtain rfl : fs = #[] := by apply Array.eq_empty_of_size_eq_zero; simpa using hl1.symm
        have hrelA : ∀ i (h : i < (V.yld s0.nx :: cap).length) (h' : i < (#[Value.func (.yield (c2.w.heap.size + 1)) #[] #[]] ++ cs).size), Rel c3 (V.yld s0.nx :: cap)[i] (#[Value.func (.yield (c2.w.heap.size + 1)) #[] #[]] ++ cs)[i] := fun i h h' => by
          cases i with
          | zero => simpa using hyldR
          | succ i =>
            simp only [List.length_cons] at h
            have e2 : (#[Value.func (.yield (c2.w.heap.size + 1)) #[] #[]] ++ cs)[i + 1] = cs[i]'(by omega) := by
              rw [Array.getElem_append_right (by simp)]
              simp
            rw [e2]
            exact hr2 i (by omega) (by omega)
        have hcall := hcalls (c3.only mi.has (mvIm c3 [])) (#[Value.func (.yield (c2.w.heap.size + 1)) #[] #[]] ++ cs) (only_mem hB.mem hsub (fun _ h => by simp at h) fun b blk hb => (hmi b blk hb).1) (fun b hb => by obtain ⟨blk, h⟩ := has_iff.1 hb.1; exact (hmi b blk h).2) ⟨by simp [hl2]; omega, fun i h1 h2 => by
          have := mvA_rel (mv := []) (K := mi.has) hB.mem (fun _ h => by simp at h) (hrelA i h1 h2) (hargs _ (List.getElem_mem _))
          have e : ∀ y, mvA (s0.next none .junk [(s0.nx, some (.loop rf ⟨N, s0.t, ps, asg, body⟩ none))] (s0.nx + 1)).m [] y = y := fun y => by
            have h1 : mvV (s0.next none .junk [(s0.nx, some (.loop rf ⟨N, s0.t, ps, asg, body⟩ none))] (s0.nx + 1)).m [] = id := funext fun y => by cases y <;> simp [mvV]
            cases y <;> simp [mvA, h1]
          rwa [e] at this⟩
        refine ⟨c2.w.heap.size + 1, [markOf c2.w.heap.size], c3.w, { target := .fn (.func k) cs, args := #[Value.func (.yield (c2.w.heap.size + 1)) #[] #[]] }, c3.w, k, #[Value.func (.yield (c2.w.heap.size + 1)) #[] #[]] ++ cs, c3.w, ?_, ?_, fun _ _ => trivial, ?_, fun h => (by cases h), callsIn_FW (Calls.mono hcall fun e w' hpost => ?_) none⟩
        · rw [hw3, ← hrec]
          exact run_enterLoop_outer fn a.tmps ps asg body
        · simp only [resolve, rangeCall, Deferred.ofValue, hev, Sem.run_pure, Array.empty_append, List.map_toArray, List.map_cons, List.map_nil]
          rfl
        · simp only [invoke, callFunc, Sem.run_bind, Sem.run_pure, Result.andThen_ok, run_program, hfn', hname, hbody, Bool.false_eq_true, if_false, Sem.run_ite]
        · obtain ⟨v, c', rfl, rfl, hn, hus, hr⟩ := hpost
          have hnxB : ∀ b, c3.us b → b < s0.nx + 1 ∨ nx' ≤ b := fun b hb => .inl (hB.nx b hb)
          obtain ⟨g1, g2⟩ := back_nxt (id := s0.nx + 1) (m' := (s0.next none .junk [(s0.nx, some (.loop rf ⟨N, s0.t, ps, asg, body⟩ none))] (s0.nx + 1)).m.app (callδ mi [] (s0.nx + 1) mo)) hB.mem hnxB hsub hn hus
            (callδ_get hB.mem hnxB (fun b blk hb => (hmi b blk hb).2) (fun _ h => by simp at h) hmo)
          have hC := hB.next (dst := none) (fun d e => by cases e) (x := .junk) (v := undef) (δ := callδ mi [] (s0.nx + 1) mo) (nx' := nx') g1 hnx' (fun h1 h2 => by
            rcases h1 with h1 | h1
            · exact absurd h1 h2
            · rcases hus _ h1 with h3 | h3
              · exact absurd h3.2 h2
              · exact h3.2) (.junk _)
          generalize hc4 : c3.back c' mi.has [] (s0.nx + 1) nx' = c4 at *
          have hgb : ((s0.next none .junk [(s0.nx, some (.loop rf ⟨N, s0.t, ps, asg, body⟩ none))] (s0.nx + 1)).m.app (callδ mi [] (s0.nx + 1) mo)).get s0.nx = some (.loop rf ⟨N, s0.t, ps, asg, body⟩ j) := by
            rw [callδ_get hB.mem hnxB (fun b blk hb => (hmi b blk hb).2) (fun _ h => by simp at h) hmo]
            unfold callMem
            rw [if_pos (.inl (by omega)), if_pos hhas]
            exact hget
          have hblk := g1.mem.blk s0.nx
          rw [hgb] at hblk
          obtain ⟨l, r, q1, q2, ⟨q3, q4, _⟩, q5, _, q6⟩ := hblk
          have hlw : l = c2.w.heap.size + 1 := by
            rcases g1.evo.ρ s0.nx (by rw [← hc3]; exact .inr rfl) with h1 | h1
            · rw [q1, hρb] at h1
              simpa using h1
            · rw [q1] at h1; simp at h1
          subst hlw
          have hw4 : c4.w = c'.w := by rw [← hc4]; rfl
          have hst : r.state ≠ .busy := by rw [q3]; split <;> simp
          have hD := hC.turn (.loop { r with state := .exhausted }) q1 q2 q6
          rw [hw4] at q2
          refine ⟨j, c'.w.putObj (c2.w.heap.size + 1) (.loop { r with state := .exhausted }), by rw [← q4]; exact run_endLoop q2 hst, ?_⟩
          have hwD : (c4.turn s0.nx (c2.w.heap.size + 1) (.loop { r with state := .exhausted })).w = c'.w.putObj (c2.w.heap.size + 1) (.loop { r with state := .exhausted }) := by
            show c4.w.putObj _ _ = _
            rw [hw4]
          rw [← hwD]
          cases j with
          | none => exact ⟨.normal, _, _, rfl, hQ, rfl, hD⟩
          | some cd =>
            cases cd with
            | ret => exact wpIn_ret ⟨.ret, _, _, rfl, hQ, rfl, hD⟩
            | exit i => exact wpIn_exit ⟨.exit i, _, _, rfl, hQ, rfl, hD⟩
            | _ => exact hQ.elim
  | exit id => exact fun s Q c a h hw => wpIn_exit ⟨.exit id, s, c, rfl, hw, rfl, h⟩
  | ret => exact fun s Q c a h hw => wpIn_ret ⟨.ret, s, c, rfl, hw, rfl, h⟩
  | _ => intros; rename_i hw; exact hw.elim

end Go.Abs
namespace Go.Abs

def tauGet : List (Nat × Option Nat) → Nat → Option (Option Nat)
  | [], _ => none
  | (j, b) :: r, i => if i = j then some b else tauGet r i
def valEq : Value → Value → Prop
  | .int k a, .int k' b => k = k' ∧ a = b
  | .bool a, .bool b => a = b
  | u, v => u = v
/-- What is told with less, reckoned: of one cell. -/
def vle0 (A : Ar) (fz : Nat → Option (Nat × List (List V))) (τ : List (Nat × Option Nat)) (x y : V) : Prop :=
  match y with
  | .junk => True
  | .at v => match x with | .at u => valEq u v | _ => False
  | .row sz es => match x with | .row sz' es' => sz' = sz ∧ es' = es | .at (.slice none 0 0) => es = [] | .msl sz' b off n => (match fz b with | some (s, es') => (sz' = sz ∧ s = sz) ∧ es = A.seg es' off n ∧ A.fits off n (A.len es') | none => False) | _ => False
  | .eptr e o => match x with | .eptr e' o' => e' = e ∧ o' = o | _ => False
  | .cap0 => match x with | .cap0 => True | _ => False
  | .msl sz b off n =>
    match tauGet τ b with
    | some (some b') => match x with | .msl sz' c off' n' => (sz' = sz ∧ c = b') ∧ off' = off ∧ n' = n | _ => False
    | some none => match x with | .cap0 => off = 0 ∧ n = 0 | .at (.slice none 0 0) => off = 0 ∧ n = 0 | _ => False
    | none => False
  | .aptr sz b i off =>
    match tauGet τ b with
    | some (some b') => match x with | .aptr sz' c i' off' => (sz' = sz ∧ c = b') ∧ i' = i ∧ off' = off | _ => False
    | _ => False
  | .bptr b off =>
    match tauGet τ b with
    | some (some b') => match x with | .bptr c off' => c = b' ∧ off' = off | _ => False
    | _ => False
  | .mp b =>
    match tauGet τ b with
    | some (some b') => match x with | .mp c => c = b' | _ => False
    | _ => False
  | .yld b =>
    match tauGet τ b with
    | some (some b') => match x with | .yld c => c = b' | _ => False
    | _ => False
  | _ => False
def vleL (A : Ar) (fz : Nat → Option (Nat × List (List V))) (τ : List (Nat × Option Nat)) : List V → List V → Prop
  | [], [] => True
  | x :: xs, y :: ys => vle0 A fz τ x y ∧ vleL A fz τ xs ys
  | _, _ => False
def vle1 (A : Ar) (fz : Nat → Option (Nat × List (List V))) (τ : List (Nat × Option Nat)) (x y : V) : Prop :=
  match y with
  | .agg ys => match x with | .agg xs => vleL A fz τ xs ys | _ => False
  | .fn f bs ys => match x with | .fn f' as xs => f' = f ∧ vleL A fz τ as bs ∧ vleL A fz τ xs ys | _ => False
  | .tup ys => match x with | .tup xs => vleL A fz τ xs ys | _ => False
  | y => vle0 A fz τ x y
def selfT (τ : List (Nat × Option Nat)) : List Nat → Prop
  | [] => True
  | b :: r => (match tauGet τ b with | some (some b') => b' = b | _ => False) ∧ selfT τ r
def bleC (A : Ar) (fz : Nat → Option (Nat × List (List V))) (τ : List (Nat × Option Nat)) (m : Mem) (b : Nat) (y : Blk) : Prop :=
  match tauGet τ b with
  | some (some b') =>
    match m.get b', y with
    | some (.box ty xs), .box ty' ys => ty = ty' ∧ vleL A fz τ xs ys
    | some (.arr ty sz es), .arr ty' sz' fs => (ty = ty' ∧ sz = sz') ∧ es = fs ∧ ClE es
    | some (.map k kvs), .map k' kvs' => k = k' ∧ kvs = kvs'
    | some (.loop rf lc j), .loop rf' lc' j' => (rf = rf' ∧ lc = lc' ∧ j = j') ∧ selfT τ rf
    | _, _ => False
  | some none => match y with | .arr _ _ fs => fs = [] | _ => False
  | none => False
def leT (A : Ar) (fz : Nat → Option (Nat × List (List V))) (τ : List (Nat × Option Nat)) (t : List (Nat × V)) : List (Nat × V) → Prop
  | [] => True
  | (i, y) :: r => vle1 A fz τ (tget t i) y ∧ leT A fz τ t r
def leM (A : Ar) (fz : Nat → Option (Nat × List (List V))) (τ : List (Nat × Option Nat)) (m : Mem) (nx0 nx : Nat) : Mem → Prop
  | [] => True
  | (b, y) :: r => (bleC A fz τ m b y ∧ b < nx ∧ (if b < nx0 then (match tauGet τ b with | some (some b') => b' = b | _ => False) else True)) ∧ leM A fz τ m nx0 nx r
def injT : List (Nat × Option Nat) → Bool
  | [] => true
  | (_, none) :: r => injT r
  | (_, some b) :: r => r.all (fun p => p.2 != some b) && injT r
def subT (m : Mem) (τ : List (Nat × Option Nat)) : Bool := τ.all fun p => m.has p.1
/-- The blocks that nobody changes any more. -/
def fzOf (m : Mem) (mv : List Nat) (b : Nat) : Option (Nat × List (List V)) :=
  if mv.contains b then (match m.get b with | some (.arr _ sz es) => some (sz, es) | _ => none) else none
def fzOk (m : Mem) : List Nat → Prop
  | [] => True
  | b :: r => (match m.get b with | some (.arr _ _ es) => ClE es | _ => True) ∧ fzOk m r
def liveT (mv : List Nat) (τ : List (Nat × Option Nat)) : Bool := τ.all fun p => match p.2 with | some b => !mv.contains b | none => true
/-- A state is told with less, reckoned; 'mv': the blocks that nobody changes any more. -/
def leC (A : Ar) (mv : List Nat) (τ : List (Nat × Option Nat)) (nx0 : Nat) (s s2 : St) : Prop :=
  if injT τ && subT s2.m τ && decide (nx0 ≤ s2.nx) && liveT mv τ then (leT A (fzOf s.m mv) τ s.t s2.t ∧ leM A (fzOf s.m mv) τ s.m nx0 s2.nx s2.m) ∧ fzOk s.m mv else False

def tauF (τ : List (Nat × Option Nat)) (b : Nat) : Option Nat := (tauGet τ b).getD none

theorem valEq_eq {u v : Value} (h : valEq u v) : u = v := by
  unfold valEq at h
  split at h
  · obtain ⟨rfl, rfl⟩ := h; rfl
  · rw [h]
  · exact h

section
variable {τ : List (Nat × Option Nat)} {H : Nat → Bool} {fz : Nat → Option (Nat × List (List V))} (hH : ∀ b o, tauGet τ b = some o → H b = true)
include hH
theorem vle0_sound {x y : V} (h : vle0 Ar.std fz τ x y) : VLe (tauF τ) H fz x y := by
  unfold vle0 at h
  split at h
  · exact .junk _
  · split at h
    · rw [valEq_eq h]; exact .closed _ rfl
    · exact h.elim
  · split at h
    · obtain ⟨rfl, rfl⟩ := h; exact .closed _ rfl
    · subst h; exact .nilRow _
    · split at h
      · rename_i hf
        obtain ⟨⟨rfl, rfl⟩, rfl, hle⟩ := h
        exact .frz _ _ _ _ _ hf hle
      · exact h.elim
    · exact h.elim
  · split at h
    · obtain ⟨rfl, rfl⟩ := h; exact .closed _ rfl
    · exact h.elim
  · split at h
    · exact .closed _ rfl
    · exact h.elim
  · split at h
    · rename_i hb
      split at h
      · obtain ⟨⟨rfl, rfl⟩, rfl, rfl⟩ := h
        exact .msl _ _ _ _ _ (hH _ _ hb) (by simp [tauF, hb])
      · exact h.elim
    · rename_i hb
      split at h
      · obtain ⟨rfl, rfl⟩ := h
        exact .cap0 _ _ (hH _ _ hb) (by simp [tauF, hb])
      · obtain ⟨rfl, rfl⟩ := h
        exact .nil _ _ (hH _ _ hb) (by simp [tauF, hb])
      · exact h.elim
    · exact h.elim
  · split at h
    · rename_i hb
      split at h
      · obtain ⟨⟨rfl, rfl⟩, rfl, rfl⟩ := h
        exact .aptr _ _ _ _ _ (hH _ _ hb) (by simp [tauF, hb])
      · exact h.elim
    · exact h.elim
  · split at h
    · rename_i hb
      split at h
      · obtain ⟨rfl, rfl⟩ := h
        exact .bptr _ _ _ (hH _ _ hb) (by simp [tauF, hb])
      · exact h.elim
    · exact h.elim
  · split at h
    · rename_i hb
      split at h
      · subst h
        exact .mp _ _ (hH _ _ hb) (by simp [tauF, hb])
      · exact h.elim
    · exact h.elim
  · split at h
    · rename_i hb
      split at h
      · subst h
        exact .yld _ _ (hH _ _ hb) (by simp [tauF, hb])
      · exact h.elim
    · exact h.elim
  · exact h.elim
theorem vleL_sound : ∀ {xs ys : List V}, vleL Ar.std fz τ xs ys → xs.length = ys.length ∧ ∀ i (h : i < xs.length) (h' : i < ys.length), VLe (tauF τ) H fz xs[i] ys[i] := by
  intro xs
  induction xs with
  | nil =>
    intro ys h
    cases ys with
    | nil => exact ⟨rfl, fun i h => by simp at h⟩
    | cons => exact h.elim
  | cons x xs ih =>
    intro ys h
    cases ys with
    | nil => exact h.elim
    | cons y ys =>
      obtain ⟨h1, h2⟩ := ih h.2
      refine ⟨by simp [h1], fun i hi hi' => ?_⟩
      cases i with
      | zero => exact vle0_sound hH h.1
      | succ i => exact h2 i (by simpa using hi) (by simpa using hi')
theorem vle1_sound {x y : V} (h : vle1 Ar.std fz τ x y) : VLe (tauF τ) H fz x y := by
  unfold vle1 at h
  split at h
  · split at h
    · obtain ⟨h1, h2⟩ := vleL_sound hH h
      exact .agg _ _ h1 h2
    · exact h.elim
  · split at h
    · obtain ⟨rfl, h3, h4⟩ := h
      obtain ⟨h1, h2⟩ := vleL_sound hH h3
      obtain ⟨h5, h6⟩ := vleL_sound hH h4
      exact .fn _ _ _ _ _ h1 h5 h2 h6
    · exact h.elim
  · split at h
    · obtain ⟨h1, h2⟩ := vleL_sound hH h
      exact .tup _ _ h1 h2
    · exact h.elim
  · exact vle0_sound hH h
end

theorem injT_spec : ∀ {τ : List (Nat × Option Nat)}, injT τ = true → ∀ b b' k, tauGet τ b = some (some k) → tauGet τ b' = some (some k) → b = b' := by
  have mem : ∀ {τ : List (Nat × Option Nat)} {b : Nat} {o : Option Nat}, tauGet τ b = some o → (b, o) ∈ τ := by
    intro τ
    induction τ with
    | nil => intro b o h; simp [tauGet] at h
    | cons p r ih =>
      obtain ⟨j, q⟩ := p
      intro b o h
      simp only [tauGet] at h
      split at h
      · rename_i e; subst e; simp only [Option.some.injEq] at h; subst h; simp
      · exact List.mem_cons_of_mem _ (ih h)
  intro τ
  induction τ with
  | nil => intro _ b b' k h; simp [tauGet] at h
  | cons p r ih =>
    obtain ⟨j, q⟩ := p
    intro h b b' k h1 h2
    have hr : injT r = true := by cases q <;> simp only [injT, Bool.and_eq_true] at h <;> first | exact h | exact h.2
    simp only [tauGet] at h1 h2
    split at h1 <;> split at h2
    · rename_i e1 e2; rw [e1, e2]
    · simp only [Option.some.injEq] at h1
      subst h1
      simp only [injT, Bool.and_eq_true, List.all_eq_true] at h
      have := h.1 _ (mem h2)
      simp at this
    · simp only [Option.some.injEq] at h2
      subst h2
      simp only [injT, Bool.and_eq_true, List.all_eq_true] at h
      have := h.1 _ (mem h1)
      simp at this
    · exact ih hr b b' k h1 h2

theorem le_of {A : Ar} {mv : List Nat} {τ : List (Nat × Option Nat)} {nx0 : Nat} {s s2 : St} (hA : Ar.std = A) (h : leC A mv τ nx0 s s2) : Le nx0 s s2 := by
  subst hA
  unfold leC at h
  split at h
  case isFalse => exact h.elim
  rename_i hc
  simp only [Bool.and_eq_true, decide_eq_true_eq] at hc
  obtain ⟨⟨⟨hinj, hsub⟩, hnx⟩, hlive⟩ := hc
  obtain ⟨⟨ht, hm⟩, hfz⟩ := h
  have hH : ∀ b o, tauGet τ b = some o → s2.m.has b = true := by
    unfold subT at hsub
    clear hinj ht hm hlive hfz
    induction τ with
    | nil => intro b o h; simp [tauGet] at h
    | cons p r ih =>
      obtain ⟨j, q⟩ := p
      intro b o h
      simp only [List.all_cons, Bool.and_eq_true] at hsub
      simp only [tauGet] at h
      split at h
      · rename_i e; subst e; exact hsub.1
      · exact ih hsub.2 b o h
  have all : ∀ (l : Mem), leM Ar.std (fzOf s.m mv) τ s.m nx0 s2.nx l → ∀ b blk, l.get b = some blk → bleC Ar.std (fzOf s.m mv) τ s.m b blk ∧ b < s2.nx ∧ (b < nx0 → tauGet τ b = some (some b)) := by
    intro l
    induction l with
    | nil => intro _ b blk h; simp [Mem.get] at h
    | cons p r ih =>
      obtain ⟨j, y⟩ := p
      intro hl b blk h
      simp only [Mem.get] at h
      split at h
      · rename_i e; subst e; simp only [Option.some.injEq] at h; subst h
        refine ⟨hl.1.1, hl.1.2.1, fun hlt => ?_⟩
        have := hl.1.2.2
        rw [if_pos hlt] at this
        split at this
        · rename_i hq; rw [hq, this]
        · exact this.elim
      · exact ih hl.2 b blk h
  refine ⟨tauF τ, fzOf s.m mv, fun p hp => ?_, fun b blk hb => ?_, fun b b' k _ _ h1 h2 => ?_, fun b hb => ?_, fun b hb hlt => ?_, hnx, fun b sz es hb => ?_, fun b b' _ hb => ?_⟩
  · have : ∀ (l : List (Nat × V)), leT Ar.std (fzOf s.m mv) τ s.t l → ∀ p ∈ l, vle1 Ar.std (fzOf s.m mv) τ (tget s.t p.1) p.2 := by
      intro l
      induction l with
      | nil => intro _ p hp; simp at hp
      | cons q r ih =>
        obtain ⟨i, y⟩ := q
        intro hl p hp
        rcases List.mem_cons.1 hp with rfl | hp
        · exact hl.1
        · exact ih hl.2 p hp
    exact vle1_sound hH (this _ ht p hp)
  · obtain ⟨h1, _, _⟩ := all _ hm b blk hb
    unfold bleC at h1
    split at h1
    · rename_i b' hb'
      refine ⟨fun k hk => ?_, fun h => by simp [tauF, hb'] at h⟩
      have : b' = k := by simpa [tauF, hb'] using hk
      subst this
      split at h1
      · rename_i hg
        obtain ⟨rfl, h2⟩ := h1
        obtain ⟨q1, q2⟩ := vleL_sound hH h2
        exact ⟨_, hg, .box _ _ _ q1 q2⟩
      · rename_i hg
        obtain ⟨⟨rfl, rfl⟩, rfl, hcl⟩ := h1
        exact ⟨_, hg, .cl hcl⟩
      · rename_i hg
        obtain ⟨rfl, rfl⟩ := h1
        exact ⟨_, hg, .map _ _⟩
      · rename_i hg
        obtain ⟨⟨rfl, rfl, rfl⟩, h2⟩ := h1
        refine ⟨_, hg, .loop _ _ _ ?_⟩
        have : ∀ l : List Nat, selfT τ l → ∀ b ∈ l, s2.m.has b = true ∧ tauF τ b = some b := by
          intro l
          induction l with
          | nil => intro _ b hb; simp at hb
          | cons q r ih =>
            intro hl b hb
            rcases List.mem_cons.1 hb with rfl | hb
            · have := hl.1
              split at this
              · rename_i hq
                exact ⟨hH _ _ hq, by simp [tauF, hq, this]⟩
              · exact this.elim
            · exact ih hl.2 b hb
        exact this _ h2
      · exact h1.elim
    · rename_i hb'
      refine ⟨fun k hk => by simp [tauF, hb'] at hk, fun _ => ?_⟩
      split at h1
      · subst h1; exact ⟨_, _, rfl⟩
      · exact h1.elim
    · exact h1.elim
  · have e1 : tauGet τ b = some (some k) := by
      unfold tauF at h1
      cases hq : tauGet τ b <;> simp_all
    have e2 : tauGet τ b' = some (some k) := by
      unfold tauF at h2
      cases hq : tauGet τ b' <;> simp_all
    exact injT_spec hinj b b' k e1 e2
  · obtain ⟨blk, h⟩ := has_iff.1 hb
    exact (all _ hm b blk h).2.1
  · obtain ⟨blk, h⟩ := has_iff.1 hb
    simp [tauF, (all _ hm b blk h).2.2 hlt]
  · unfold fzOf at hb
    split at hb
    · rename_i hc
      split at hb
      · rename_i ty sz' es' hg
        simp only [Option.some.injEq, Prod.mk.injEq] at hb
        obtain ⟨rfl, rfl⟩ := hb
        refine ⟨⟨ty, hg⟩, ?_⟩
        have : ∀ l : List Nat, fzOk s.m l → b ∈ l → ClE es' := by
          intro l
          induction l with
          | nil => intro _ h; simp at h
          | cons q r ih =>
            intro hl h
            rcases List.mem_cons.1 h with rfl | h
            · have := hl.1
              rw [hg] at this
              exact this
            · exact ih hl.2 h
        exact this mv hfz (by simpa using hc)
      · simp at hb
    · simp at hb
  · have e1 : tauGet τ b = some (some b') := by
      unfold tauF at hb
      cases hq : tauGet τ b <;> simp_all
    have : ∀ τ : List (Nat × Option Nat), liveT mv τ = true → tauGet τ b = some (some b') → mv.contains b' = false := by
      intro τ
      induction τ with
      | nil => intro _ h; simp [tauGet] at h
      | cons p r ih =>
        obtain ⟨j, q⟩ := p
        intro hl h
        unfold liveT at hl
        simp only [List.all_cons, Bool.and_eq_true] at hl
        simp only [tauGet] at h
        split at h
        · simp only [Option.some.injEq] at h
          subst h
          simpa using hl.1
        · exact ih hl.2 h
    unfold fzOf
    rw [this τ hlive e1]
    rfl
end Go.Abs
