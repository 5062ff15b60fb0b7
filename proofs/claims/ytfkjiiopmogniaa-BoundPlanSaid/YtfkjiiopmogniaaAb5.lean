/- What the functions compute, in plain Lean; the plain laws of a certificate; how what came in is told. No condition. -/
import Derived.Test.YtfkjiiopmogniaaAb4
import Derived.IntWalk
import Derived.Sort.Row
import Derived.Sort.Grow
import Derived.ChangeArms
import Derived.SizedLaws
import Derived.DataReads
import Derived.ChangeOld
import Derived.Below
import Derived.ChangeShapes
namespace Go.Abs
theorem inr64 {n : Int} (h : -9223372036854775808 ≤ n ∧ n ≤ 9223372036854775807) : Ar.std.inr .i64 n := by
  show IntKind.i64.wrap n = n
  rw [IntKind.wrap_i64]; omega
def may (n : Int) : Bool := decide (-4611686018427387903 ≤ n) && decide (n ≤ 4611686018427387903)
theorem may_iff {n : Int} : may n = true ↔ -4611686018427387903 ≤ n ∧ n ≤ 4611686018427387903 := by simp [may]
def addS (a b : Int) : Int × Int := if (!may a || !may b) = true then (0, 1) else if (!may (a + b)) = true then (0, 4) else (a + b, 0)
def sumGo : Int → List Int → Int × Int
  | acc, [] => (acc, 0)
  | acc, n :: r => if (addS acc n).2 = 0 then sumGo (addS acc n).1 r else (0, (addS acc n).2)
def sumS (l : List Int) : Int × Int := if l.all may then sumGo 0 l else (0, 1)
def eI (n : Int) : V := .at (.int .i64 n)
def rowI (l : List Int) : V := .row 1 (l.map fun n => [eI n])
def two (p : Int × Int) : V := .tup [eI p.1, eI p.2]
end Go.Abs
namespace Go.Abs
theorem lt_row {A : Ar} (hA : Ar.std = A) {z : Int} {es : List (List V)} (h0 : 0 ≤ z) (h : A.lt z (A.nat (A.len es)) = true) : z.toNat < es.length := by
  subst hA
  simp [Ar.std] at h
  omega
theorem ge_row {A : Ar} (hA : Ar.std = A) {z : Int} {es : List (List V)} (h0 : 0 ≤ z) (h : ¬ A.lt z (A.nat (A.len es)) = true) : es.length ≤ z.toNat := by
  subst hA
  simp [Ar.std] at h
  omega
theorem inc_ok {A : Ar} (hA : Ar.std = A) {z : Int} {n : Nat} (h0 : 0 ≤ z) (h : z.toNat < n) (hn : n ≤ 140737488355328) : A.inr .i64 (A.add z 1) := by
  subst hA
  refine inr64 ?_
  simp [Ar.std]
  omega
theorem get_lt {α : Type} {l : List α} {z : Int} (h : z.toNat < l.length) : ∃ x, l[z.toNat]? = some x := ⟨l[z.toNat], List.getElem?_eq_getElem h⟩
theorem take_all_succ {l : List Int} {z : Int} {x : Int} {p : Int → Bool} (h0 : 0 ≤ z) (h : (l.take z.toNat).all p = true) (hx : l[z.toNat]? = some x) (hp : p x = true) : (l.take (z + 1).toNat).all p = true := by
  rw [show (z + 1).toNat = z.toNat + 1 by omega, List.take_add_one, hx]
  simp [h, hp]
theorem sumGo_cons {acc x : Int} {l : List Int} {z : Int} (h0 : 0 ≤ z) (hx : l[z.toNat]? = some x) : sumGo acc (l.drop z.toNat) = if (addS acc x).2 = 0 then sumGo (addS acc x).1 (l.drop (z + 1).toNat) else (0, (addS acc x).2) := by
  rw [show (z + 1).toNat = z.toNat + 1 by omega]
  have hlt : z.toNat < l.length := (List.getElem?_eq_some_iff.1 hx).1
  rw [List.drop_eq_getElem_cons hlt, sumGo]
  have : l[z.toNat] = x := by rw [List.getElem?_eq_getElem hlt] at hx; simpa using hx
  rw [this]
end Go.Abs
namespace Go.Abs
def badAt (n i x : Int) : Bool := decide (x < 0) || decide (1000000 < x) || (decide (i / n = i % n) && decide (x ≠ 0))
def badL (n : Int) : Int → List Int → Bool
  | _, [] => false
  | i, x :: r => badAt n i x || badL n (i + 1) r
def areaS (n : Int) (dist time : List Int) : Int :=
  if n < 1 ∨ 16 < n ∨ (dist.length : Int) ≠ n * n ∨ (time.length : Int) ≠ n * n then 1 else if badL n 0 dist || badL n 0 time then 1 else 0
end Go.Abs
namespace Go.Abs
theorem sq_ok {n : Int} (h1 : 1 ≤ n) (h2 : n ≤ 16) : 1 ≤ n * n ∧ n * n ≤ 256 := by
  constructor
  · exact Int.mul_le_mul h1 h1 (by omega) (by omega)
  · exact Int.mul_le_mul (c := 16) (d := 16) h2 h2 (by omega) (by omega)
theorem badL_cons {n i x : Int} {l : List Int} {z : Int} (h0 : 0 ≤ z) (hx : l[z.toNat]? = some x) : badL n i (l.drop z.toNat) = (badAt n i x || badL n (i + 1) (l.drop (z + 1).toNat)) := by
  rw [show (z + 1).toNat = z.toNat + 1 by omega]
  have hlt : z.toNat < l.length := (List.getElem?_eq_some_iff.1 hx).1
  rw [List.drop_eq_getElem_cons hlt, badL]
  have : l[z.toNat] = x := by rw [List.getElem?_eq_getElem hlt] at hx; simpa using hx
  rw [this]
end Go.Abs
namespace Go.Abs
def idxOf (p : List V → Bool) : Int → List (List V) → Int
  | _, [] => -1
  | i, e :: r => if p e then i else idxOf p (i + 1) r
theorem idxOf_cons {p : List V → Bool} {i z : Int} {es : List (List V)} {el : List V} (h0 : 0 ≤ z) (hx : es[z.toNat]? = some el) : idxOf p i (es.drop z.toNat) = if p el then i else idxOf p (i + 1) (es.drop (z + 1).toNat) := by
  rw [show (z + 1).toNat = z.toNat + 1 by omega]
  have hlt : z.toNat < es.length := (List.getElem?_eq_some_iff.1 hx).1
  rw [List.drop_eq_getElem_cons hlt, idxOf]
  have : es[z.toNat] = el := by rw [List.getElem?_eq_getElem hlt] at hx; simpa using hx
  rw [this]
end Go.Abs
namespace Go.Abs
structure Ord where
  id : Int
  owner : Int
  node : Int
  weight : Int
  volume : Int
  lo : Int
  hi : Int
  service : Int
structure Trk where
  id : Int
  weight : Int
  volume : Int
  start : Int
  stop : Int
  fixed : Int
  rate : Int
structure Wld where
  n : Int
  dist : List Int
  time : List Int
  orders : List Ord
  trucks : List Trk
def encO (o : Ord) : List V := [.at (.int .i64 o.id), .at (.int .i64 o.owner), .at (.int .i64 o.node), .at (.int .i64 o.weight), .at (.int .i64 o.volume), .at (.int .i64 o.lo), .at (.int .i64 o.hi), .at (.int .i64 o.service)]
def encT (t : Trk) : List V := [.at (.int .i64 t.id), .at (.int .i64 t.weight), .at (.int .i64 t.volume), .at (.int .i64 t.start), .at (.int .i64 t.stop), .at (.int .i64 t.fixed), .at (.int .i64 t.rate)]
def cellI (n : Int) : List V := [.at (.int .i64 n)]
/-- What a world is told by: its lists are rows. -/
structure WIs (w : Wld) (ed et eo ek : List (List V)) : Prop where
  d : ed = w.dist.map cellI
  t : et = w.time.map cellI
  o : eo = w.orders.map encO
  k : ek = w.trucks.map encT
def spanBad (s : Int × Int × Int) : Bool := decide (s.1 < s.2.1) || decide (s.2.2 < s.1)
def withinS (l : List (Int × Int × Int)) : Int := if l.any spanBad then 1 else 0
def encS (s : Int × Int × Int) : List V := [.at (.int .i64 s.1), .at (.int .i64 s.2.1), .at (.int .i64 s.2.2)]
def orderS (o : Ord) (n : Int) : Int := withinS [(o.id, 1, 1000000), (o.owner, 0, 31), (o.node, 1, n - 1), (o.weight, 1, 1000000), (o.volume, 1, 1000000), (o.lo, 0, o.hi), (o.hi, 0, 1000000), (o.service, 0, 10000)]
def truckS (t : Trk) : Int := withinS [(t.id, 1, 1000000), (t.weight, 1, 1000000), (t.volume, 1, 1000000), (t.start, 0, t.stop), (t.stop, 0, 1000000), (t.fixed, 0, 1000000), (t.rate, 0, 1000)]
/-- The first that isn't 0. -/
def eachS {α : Type} (f : α → Int) : List α → Int
  | [] => 0
  | x :: r => if f x = 0 then eachS f r else f x
def putAll (kvs : List (Int × Value)) : List Int → List (Int × Value)
  | [] => kvs
  | z :: r => putAll (mset kvs z (.bool true)) r
def alikeS (ids : List Int) : Bool := decide ((putAll [] ids).length < ids.length)
def loadS (w : Wld) : Int :=
  if 12 < w.orders.length ∨ 6 < w.trucks.length then 4 else
  if eachS (fun o => orderS o w.n) w.orders ≠ 0 ∨ eachS truckS w.trucks ≠ 0 then 1 else
  if alikeS (w.orders.map Ord.id) || alikeS (w.trucks.map Trk.id) then 6 else 0
def worldS (w : Wld) : Int := if areaS w.n w.dist w.time ≠ 0 then areaS w.n w.dist w.time else loadS w
theorem idxOf_any {α : Type} (enc : α → List V) (q : α → Bool) (p : List V → Bool) (hp : ∀ x, p (enc x) = q x) : ∀ (l : List α) (i : Int), 0 ≤ i → (decide (idxOf p i (l.map enc) ≥ 0)) = l.any q := by
  intro l
  induction l with
  | nil => intro i hi; simp [idxOf]
  | cons x r ih =>
    intro i hi
    simp only [List.map_cons, idxOf, hp, List.any_cons]
    cases q x with
    | true => simp; exact hi
    | false => simp only [Bool.false_eq_true, if_false, Bool.false_or]; exact ih (i + 1) (by omega)
theorem drop_cons {α : Type} {l : List α} {z : Int} {x : α} (h0 : 0 ≤ z) (hx : l[z.toNat]? = some x) : l.drop z.toNat = x :: l.drop (z + 1).toNat := by
  rw [show (z + 1).toNat = z.toNat + 1 by omega]
  have hlt : z.toNat < l.length := (List.getElem?_eq_some_iff.1 hx).1
  rw [List.drop_eq_getElem_cons hlt]
  have : l[z.toNat] = x := by rw [List.getElem?_eq_getElem hlt] at hx; simpa using hx
  rw [this]
end Go.Abs
namespace Go.Abs
theorem eachS_map {α : Type} (enc : α → List V) (p : List V → Int) (f : α → Int) (h : ∀ x, p (enc x) = f x) (l : List α) : eachS p (l.map enc) = eachS f l := by
  induction l with
  | nil => rfl
  | cons x r ih => simp only [List.map_cons, eachS, h, ih]
def encW (w : Wld) : List V := [.at (.int .i64 w.n), .row 1 (w.dist.map cellI), .row 1 (w.time.map cellI), .row 8 (w.orders.map encO), .row 7 (w.trucks.map encT)]
/-- The cells of an order, and of a truck, as a function of theirs. -/
def onO {β : Type} [Inhabited β] (f : Ord → β) : List V → β
  | [.at (.int _ a), .at (.int _ b), .at (.int _ c), .at (.int _ d), .at (.int _ e), .at (.int _ g), .at (.int _ h), .at (.int _ i)] => f ⟨a, b, c, d, e, g, h, i⟩
  | _ => default
def onT {β : Type} [Inhabited β] (f : Trk → β) : List V → β
  | [.at (.int _ a), .at (.int _ b), .at (.int _ c), .at (.int _ d), .at (.int _ e), .at (.int _ g), .at (.int _ h)] => f ⟨a, b, c, d, e, g, h⟩
  | _ => default
theorem onO_enc {β : Type} [Inhabited β] (f : Ord → β) (o : Ord) : onO f (encO o) = f o := rfl
theorem onT_enc {β : Type} [Inhabited β] (f : Trk → β) (t : Trk) : onT f (encT t) = f t := rfl
theorem encO_shape {l : List Ord} : ∀ el ∈ l.map encO, ∃ c0 c1 c2 c3 c4 c5 c6 c7 : Int, el = [.at (.int .i64 c0), .at (.int .i64 c1), .at (.int .i64 c2), .at (.int .i64 c3), .at (.int .i64 c4), .at (.int .i64 c5), .at (.int .i64 c6), .at (.int .i64 c7)] := fun el he => by
  obtain ⟨o, _, rfl⟩ := List.mem_map.1 he
  exact ⟨_, _, _, _, _, _, _, _, rfl⟩
theorem encT_shape {l : List Trk} : ∀ el ∈ l.map encT, ∃ c0 c1 c2 c3 c4 c5 c6 : Int, el = [.at (.int .i64 c0), .at (.int .i64 c1), .at (.int .i64 c2), .at (.int .i64 c3), .at (.int .i64 c4), .at (.int .i64 c5), .at (.int .i64 c6)] := fun el he => by
  obtain ⟨o, _, rfl⟩ := List.mem_map.1 he
  exact ⟨_, _, _, _, _, _, _, rfl⟩
abbrev LOk (n : Nat) : Prop := n ≤ 140737488355328
abbrev IOk (n : Int) : Prop := -9223372036854775807 ≤ n ∧ n ≤ 9223372036854775807
structure WOk (w : Wld) : Prop where
  n : w.n ≤ 9223372036854775807
  d : LOk w.dist.length
  t : LOk w.time.length
  o : LOk w.orders.length
  k : LOk w.trucks.length
end Go.Abs
namespace Go.Abs
def idxS {α : Type} (q : α → Bool) : Int → List α → Int
  | _, [] => -1
  | i, x :: r => if q x then i else idxS q (i + 1) r
theorem idxOf_map {α : Type} (enc : α → List V) (p : List V → Bool) (q : α → Bool) (h : ∀ x, p (enc x) = q x) : ∀ (l : List α) (i : Int), idxOf p i (l.map enc) = idxS q i l := by
  intro l
  induction l with
  | nil => intro i; rfl
  | cons x r ih => intro i; simp only [List.map_cons, idxOf, idxS, h, ih]
theorem idxS_range {α : Type} {q : α → Bool} : ∀ {l : List α} {i : Int}, idxS q i l = -1 ∨ (i ≤ idxS q i l ∧ idxS q i l < i + l.length ∧ ∃ x, l[(idxS q i l - i).toNat]? = some x ∧ q x = true) := by
  intro l
  induction l with
  | nil => intro i; exact .inl rfl
  | cons x r ih =>
    intro i
    simp only [idxS]
    split
    · rename_i hq
      exact .inr ⟨Int.le_refl _, by simp; omega, x, by simp, hq⟩
    · rcases @ih (i + 1) with h | ⟨h1, h2, y, h3, h4⟩
      · exact .inl h
      · refine .inr ⟨by omega, by simp; omega, y, ?_, h4⟩
        rw [show (idxS q (i + 1) r - i).toNat = (idxS q (i + 1) r - (i + 1)).toNat + 1 by omega]
        simpa using h3
def findS (l : List Ord) (id : Int) : Int := idxS (fun o => o.id == id) 0 l
def truckAt (l : List Trk) (id : Int) : Int := idxS (fun t => t.id == id) 0 l
def allS (n : Int) (dist time nodes : List Int) : Int := if areaS n dist time ≠ 0 then areaS n dist time else if nodes.any (fun x => decide (x < 0) || decide (n ≤ x)) then 5 else 0
def legS (n : Int) (dist time : List Int) (a b : Int) : Int × Int × Int :=
  if allS n dist time [a, b] ≠ 0 then (0, 0, allS n dist time [a, b]) else (dist.getD (a * n + b).toNat 0, time.getD (a * n + b).toNat 0, 0)
theorem areaS_ok {n : Int} {dist time : List Int} (h : areaS n dist time = 0) : 1 ≤ n ∧ n ≤ 16 ∧ (dist.length : Int) = n * n ∧ (time.length : Int) = n * n := by
  unfold areaS at h
  split at h
  · omega
  · omega
theorem legS_ok {n : Int} {dist time : List Int} {a b : Int} (h : allS n dist time [a, b] = 0) : 0 ≤ a ∧ a < n ∧ 0 ≤ b ∧ b < n ∧ areaS n dist time = 0 := by
  unfold allS at h
  split at h
  · omega
  · rename_i h0
    split at h
    · omega
    · rename_i h1
      simp at h1 h0
      omega
theorem at_ok {n : Int} {a b : Int} (h0 : 0 ≤ a) (h1 : a < n) (h2 : 0 ≤ b) (h3 : b < n) (hn : n ≤ 16) : 0 ≤ a * n ∧ a * n ≤ 256 ∧ 0 ≤ a * n + b ∧ a * n + b < n * n := by
  have q1 : 0 ≤ a * n := Int.mul_nonneg h0 (by omega)
  have q2 : a * n ≤ (n - 1) * n := Int.mul_le_mul_of_nonneg_right (by omega) (by omega)
  have q3 : (n - 1) * n = n * n - n := by rw [Int.sub_mul]; omega
  have q4 : n * n ≤ 256 := (sq_ok (by omega) hn).2
  omega
end Go.Abs
namespace Go.Abs
def mulS (a b : Int) : Int × Int := if (!may a || !may b) = true then (0, 1) else if a = 0 ∨ b = 0 then (0, 0) else if may (a * b) then (a * b, 0) else (0, 4)
def worthS (inn : List Int) (back rate fixed : Int) : Int :=
  if (sumS (inn ++ [back])).2 ≠ 0 then 0 else
  if (mulS rate (sumS (inn ++ [back])).1).2 ≠ 0 then 0 else
  (addS fixed (mulS rate (sumS (inn ++ [back])).1).1).1
end Go.Abs
namespace Go.Abs
theorem mx_abs (a : Int) : (if 0 - a > a then 0 - a else a) = (a.natAbs : Int) := by split <;> omega
theorem may_abs (n : Int) : may n = decide ((n.natAbs : Int) ≤ 4611686018427387903) := by
  unfold may
  by_cases h : (n.natAbs : Int) ≤ 4611686018427387903
  · simp [h]; omega
  · simp [h]; omega
theorem mul_le (a b : Int) (hb : b ≠ 0) : (a.natAbs : Int) ≤ 4611686018427387903 / (b.natAbs : Int) ↔ may (a * b) = true := by
  rw [may_abs, decide_eq_true_eq, Int.natAbs_mul, Int.le_ediv_iff_mul_le (by omega)]
  simp
theorem div_in (b : Int) (hb : b ≠ 0) : 0 < (b.natAbs : Int) ∧ 0 ≤ 4611686018427387903 / (b.natAbs : Int) ∧ 4611686018427387903 / (b.natAbs : Int) ≤ 4611686018427387903 := by
  refine ⟨by omega, Int.ediv_nonneg (by omega) (by omega), Int.ediv_le_self _ (by omega)⟩
end Go.Abs
namespace Go.Abs
/-- The least, 0 of none. -/
def leastGo {α : Type} (f : α → Int) : Bool → Int → List α → Int
  | _, out, [] => out
  | b, out, x :: r => leastGo f false (if b || decide (f x < out) then f x else out) r
def leastS {α : Type} (f : α → Int) (l : List α) : Int := leastGo f true 0 l
theorem leastGo_map {α β : Type} (enc : α → β) (p : β → Int) (f : α → Int) (h : ∀ x, p (enc x) = f x) : ∀ (l : List α) (b : Bool) (out : Int), leastGo p b out (l.map enc) = leastGo f b out l := by
  intro l
  induction l with
  | nil => intro b out; rfl
  | cons x r ih => intro b out; simp only [List.map_cons, leastGo, h, ih]
theorem leastS_map {α β : Type} (enc : α → β) (p : β → Int) (f : α → Int) (h : ∀ x, p (enc x) = f x) (l : List α) : leastS p (l.map enc) = leastS f l := leastGo_map enc p f h l true 0
end Go.Abs
namespace Go.Abs
/-- How many are less. -/
def lowI (l : List Int) (t : Int) : Int := ((l.filter fun x => decide (x < t)).length : Int)
theorem inru64 {n : Int} (h : 0 ≤ n ∧ n ≤ 9223372036854775807) : Ar.std.inr .u64 n := by
  show IntKind.u64.wrap n = n
  simp only [IntKind.wrap, IntKind.signed, IntKind.bits]
  simp
  omega
theorem low_iff {l : List Int} (hs : l.Pairwise (fun x y => x ≤ y)) {t : Int} {k : Nat} {x : Int} (hx : l[k]? = some x) : x < t ↔ (k : Int) < lowI l t := by
  unfold lowI
  induction l generalizing k with
  | nil => simp at hx
  | cons y r ih =>
    obtain ⟨h1, h2⟩ := List.pairwise_cons.1 hs
    have nil : ¬ y < t → (r.filter fun x => decide (x < t)) = [] := fun hy => List.filter_eq_nil_iff.2 fun z hz => by
      have := h1 z hz
      simp
      omega
    cases k with
    | zero =>
      simp only [List.getElem?_cons_zero, Option.some.injEq] at hx
      subst hx
      by_cases hy : y < t
      · simp [hy]
      · simp [hy, nil hy]
    | succ k =>
      simp only [List.getElem?_cons_succ] at hx
      by_cases hy : y < t
      · have := ih h2 hx
        simp only [List.filter_cons, hy, decide_true, if_true, List.length_cons]
        omega
      · have hyx := h1 x (List.mem_of_getElem? hx)
        simp only [List.filter_cons, hy, decide_false, Bool.false_eq_true, if_false, nil hy]
        simp
        omega
theorem low_le {l : List Int} {t : Int} : 0 ≤ lowI l t ∧ lowI l t ≤ l.length := by
  unfold lowI
  have := List.length_filter_le (fun x => decide (x < t)) l
  omega
/-- A list without what stands twice, one behind the other. -/
def compGo : Int → List Int → List Int
  | _, [] => []
  | p, x :: r => if x = p then compGo p r else x :: compGo x r
def compI : List Int → List Int
  | [] => []
  | x :: r => x :: compGo x r
theorem compGo_le {p : Int} {l : List Int} : (compGo p l).length ≤ l.length := by
  induction l generalizing p with
  | nil => simp [compGo]
  | cons x r ih =>
    simp only [compGo]
    split
    · have := @ih p; simp; omega
    · have := @ih x; simp; omega
theorem compI_le {l : List Int} : (compI l).length ≤ l.length := by
  cases l with
  | nil => simp [compI]
  | cons x r => have := @compGo_le x r; simp [compI]; omega
/-- What a row holds behind Compact. -/
def compE (l : List Int) : List (List V) := if (compI l).length = l.length then l.map cellI else (compI l).map cellI ++ List.replicate (l.length - (compI l).length) [.junk]
theorem nat_lt {z : Int} {n : Nat} (h : z.toNat < n) : z < (n : Int) := by omega
theorem nat_le {z : Int} {n : Nat} (h : z.toNat ≤ n) : z ≤ (n : Int) := by omega
end Go.Abs
namespace Go.Abs
def loadSumS (l : List Ord) : Int × Int × Int :=
  if (sumS (l.map Ord.weight)).2 ≠ 0 then (0, 0, (sumS (l.map Ord.weight)).2) else
  if (sumS (l.map Ord.volume)).2 ≠ 0 then (0, 0, (sumS (l.map Ord.volume)).2) else
  ((sumS (l.map Ord.weight)).1, (sumS (l.map Ord.volume)).1, 0)
def carriesS (t : Trk) (l : List Ord) : Int :=
  if (loadSumS l).2.2 ≠ 0 then (loadSumS l).2.2 else if t.weight < (loadSumS l).1 ∨ t.volume < (loadSumS l).2.1 then 9 else 0
/-- A visit of an order. -/
structure Vis where
  order : Int
  arrive : Int
  start : Int
  leave : Int
def encV (v : Vis) : List V := [.at (.int .i64 v.order), .at (.int .i64 v.arrive), .at (.int .i64 v.start), .at (.int .i64 v.leave)]
/-- Where a truck is, since when, how far it went. -/
structure Plc where
  node : Int
  time : Int
  dist : Int
def walkS (w : Wld) (p : Plc) (to : Int) : Plc := ⟨to, p.time + (legS w.n w.dist w.time p.node to).2.1, p.dist + (legS w.n w.dist w.time p.node to).1⟩
def startS (w : Wld) (p : Plc) (o : Ord) : Int := max (walkS w p o.node).time o.lo
def visitP (w : Wld) (p : Plc) (o : Ord) : Plc := ⟨o.node, startS w p o + o.service, (walkS w p o.node).dist⟩
def visitV (w : Wld) (p : Plc) (o : Ord) : Vis := ⟨o.id, (walkS w p o.node).time, startS w p o, startS w p o + o.service⟩
def visitOk (w : Wld) (p : Plc) (o : Ord) : Bool := decide (startS w p o ≤ o.hi)
theorem badL_all {n : Int} : ∀ {l : List Int} {i : Int}, badL n i l = false → ∀ x ∈ l, 0 ≤ x ∧ x ≤ 1000000 := by
  intro l
  induction l with
  | nil => intro i _ x hx; simp at hx
  | cons y r ih =>
    intro i h x hx
    simp only [badL, Bool.or_eq_false_iff, badAt] at h
    rcases List.mem_cons.1 hx with rfl | hx
    · simp at h; omega
    · exact ih h.2 x hx
theorem areaS_all {n : Int} {dist time : List Int} (h : areaS n dist time = 0) : (∀ x ∈ dist, 0 ≤ x ∧ x ≤ 1000000) ∧ ∀ x ∈ time, 0 ≤ x ∧ x ≤ 1000000 := by
  unfold areaS at h
  split at h
  · omega
  · split at h
    · omega
    · rename_i hb
      simp only [Bool.or_eq_true, not_or, Bool.not_eq_true] at hb
      exact ⟨badL_all hb.1, badL_all hb.2⟩
theorem worldS_area {w : Wld} (h : worldS w = 0) : areaS w.n w.dist w.time = 0 := by
  unfold worldS at h
  split at h
  · contradiction
  · rename_i h1; simpa using h1
theorem worldS_load {w : Wld} (h : worldS w = 0) : loadS w = 0 := by
  unfold worldS at h
  rw [if_neg (by rw [worldS_area (by unfold worldS; exact h)]; simp)] at h
  exact h
theorem getD_all {l : List Int} (h : ∀ x ∈ l, 0 ≤ x ∧ x ≤ 1000000) (i : Nat) : 0 ≤ l.getD i 0 ∧ l.getD i 0 ≤ 1000000 := by
  rw [List.getD_eq_getElem?_getD]
  cases hq : l[i]? with
  | none => simp
  | some x => exact h x (List.mem_of_getElem? hq)
theorem legS_bound {w : Wld} (h0 : worldS w = 0) {a b d t e : Int} (h : (d, t, e) = legS w.n w.dist w.time a b) : 0 ≤ d ∧ d ≤ 1000000 ∧ 0 ≤ t ∧ t ≤ 1000000 := by
  obtain ⟨h1, h2⟩ := areaS_all (worldS_area h0)
  unfold legS at h
  split at h
  · simp at h; omega
  · simp only [Prod.mk.injEq] at h
    rw [h.1, h.2.1]
    have := getD_all h1 (a * w.n + b).toNat
    have := getD_all h2 (a * w.n + b).toNat
    omega
theorem walk_bound {w : Wld} (h0 : worldS w = 0) {p q : Plc} (hp : IOk p.node) {to : Int} (hq : q = walkS w p to) (hb : 0 ≤ p.time ∧ p.time ≤ 100000000000 ∧ 0 ≤ p.dist ∧ p.dist ≤ 1000000000000) :
    p.time ≤ q.time ∧ q.time ≤ p.time + 1000000 ∧ p.dist ≤ q.dist ∧ q.dist ≤ p.dist + 1000000 := by
  obtain ⟨d, t, e, hde⟩ : ∃ d t e, (d, t, e) = legS w.n w.dist w.time p.node to := ⟨_, _, _, rfl⟩
  have := legS_bound h0 hde
  rw [hq, walkS, ← hde]
  simp only
  omega
instance : Inhabited Ord := ⟨⟨0, 0, 0, 0, 0, 0, 0, 0⟩⟩
instance : Inhabited Trk := ⟨⟨0, 0, 0, 0, 0, 0, 0⟩⟩
theorem truckAt_range {l : List Trk} {id : Int} (h : ¬ truckAt l id < 0) : (truckAt l id).toNat < l.length := by
  unfold truckAt at h ⊢
  rcases @idxS_range Trk (fun o => o.id == id) l 0 with h1 | ⟨h1, h2, _⟩
  · omega
  · omega
/-- The orders of a row's stops; none: one isn't there. -/
def ordersGo (os : List Ord) : List Int → List Ord → Option (List Ord)
  | [], acc => some acc
  | id :: r, acc => if findS os id < 0 then none else ordersGo os r (acc ++ [os.getD (findS os id).toNat default])
def ordersS (os : List Ord) (stops : List Int) : List Ord × Int :=
  match ordersGo os stops [] with
  | none => ([], 5)
  | some l => if (putAll [] stops).length < stops.length then ([], 6) else (l, 0)
theorem findS_range {l : List Ord} {id : Int} (h : ¬ findS l id < 0) : (findS l id).toNat < l.length := by
  unfold findS at h ⊢
  rcases @idxS_range Ord (fun o => o.id == id) l 0 with h1 | ⟨h1, h2, _⟩
  · omega
  · omega
structure Trp where
  visits : List Vis
  back : Int
  dist : Int
  cost : Int
def Trp.none : Trp := ⟨[], 0, 0, 0⟩
def runGo (w : Wld) : Plc → List Vis → List Ord → Plc × List Vis × Bool
  | p, vs, [] => (p, vs, true)
  | p, vs, o :: r => if visitOk w p o then runGo w (visitP w p o) (vs ++ [visitV w p o]) r else (p, vs, false)
def tripS (w : Wld) (t : Trk) (l : List Ord) : Trp × Int :=
  if (runGo w ⟨0, t.start, 0⟩ [] l).2.2 = false then (.none, 10) else
  if t.stop < (walkS w (runGo w ⟨0, t.start, 0⟩ [] l).1 0).time then (.none, 10) else
  (⟨(runGo w ⟨0, t.start, 0⟩ [] l).2.1, (walkS w (runGo w ⟨0, t.start, 0⟩ [] l).1 0).time, (walkS w (runGo w ⟨0, t.start, 0⟩ [] l).1 0).dist, t.fixed + t.rate * (walkS w (runGo w ⟨0, t.start, 0⟩ [] l).1 0).dist⟩, 0)
def runS (w : Wld) (truck : Int) (stops : List Int) : Trp × Int :=
  if worldS w ≠ 0 then (.none, worldS w) else
  if stops = [] ∨ 12 < stops.length then (.none, 2) else
  if truckAt w.trucks truck < 0 then (.none, 5) else
  if (ordersS w.orders stops).2 ≠ 0 then (.none, (ordersS w.orders stops).2) else
  if carriesS (w.trucks.getD (truckAt w.trucks truck).toNat default) (ordersS w.orders stops).1 ≠ 0 then (.none, carriesS (w.trucks.getD (truckAt w.trucks truck).toNat default) (ordersS w.orders stops).1) else
  tripS w (w.trucks.getD (truckAt w.trucks truck).toNat default) (ordersS w.orders stops).1
theorem eachS_all {α : Type} {f : α → Int} {l : List α} (h : eachS f l = 0) : ∀ x ∈ l, f x = 0 := by
  induction l with
  | nil => intro x hx; simp at hx
  | cons y r ih =>
    intro x hx
    simp only [eachS] at h
    split at h
    · rename_i h1
      rcases List.mem_cons.1 hx with rfl | hx
      · exact h1
      · exact ih h x hx
    · rename_i h1; exact absurd h h1
structure OrdOk (n : Int) (o : Ord) : Prop where
  id : 1 ≤ o.id ∧ o.id ≤ 1000000
  owner : 0 ≤ o.owner ∧ o.owner ≤ 31
  node : 1 ≤ o.node ∧ o.node ≤ n - 1
  weight : 1 ≤ o.weight ∧ o.weight ≤ 1000000
  volume : 1 ≤ o.volume ∧ o.volume ≤ 1000000
  lo : 0 ≤ o.lo ∧ o.lo ≤ o.hi
  hi : 0 ≤ o.hi ∧ o.hi ≤ 1000000
  service : 0 ≤ o.service ∧ o.service ≤ 10000
structure TrkOk (t : Trk) : Prop where
  id : 1 ≤ t.id ∧ t.id ≤ 1000000
  weight : 1 ≤ t.weight ∧ t.weight ≤ 1000000
  volume : 1 ≤ t.volume ∧ t.volume ≤ 1000000
  start : 0 ≤ t.start ∧ t.start ≤ t.stop
  stop : 0 ≤ t.stop ∧ t.stop ≤ 1000000
  fixed : 0 ≤ t.fixed ∧ t.fixed ≤ 1000000
  rate : 0 ≤ t.rate ∧ t.rate ≤ 1000
theorem orderS_ok {o : Ord} {n : Int} (h : orderS o n = 0) : OrdOk n o := by
  unfold orderS withinS at h
  split at h
  · contradiction
  · rename_i h1
    simp [spanBad] at h1
    constructor <;> omega
theorem truckS_ok {t : Trk} (h : truckS t = 0) : TrkOk t := by
  unfold truckS withinS at h
  split at h
  · contradiction
  · rename_i h1
    simp [spanBad] at h1
    constructor <;> omega
structure WldOk (w : Wld) : Prop where
  area : areaS w.n w.dist w.time = 0
  no : w.orders.length ≤ 12
  nt : w.trucks.length ≤ 6
  ord : ∀ o ∈ w.orders, OrdOk w.n o
  trk : ∀ t ∈ w.trucks, TrkOk t
  oids : alikeS (w.orders.map Ord.id) = false
  tids : alikeS (w.trucks.map Trk.id) = false
theorem worldS_ok {w : Wld} (h : worldS w = 0) : WldOk w := by
  have h1 := worldS_load h
  unfold loadS at h1
  split at h1
  · contradiction
  rename_i g1
  split at h1
  · contradiction
  rename_i g2
  split at h1
  · contradiction
  rename_i g3
  simp only [not_or, Bool.or_eq_true, Bool.not_eq_true] at g1 g2 g3
  have e1 : eachS (fun o => orderS o w.n) w.orders = 0 := by
    have := g2.1
    simpa using this
  have e2 : eachS truckS w.trucks = 0 := by
    have := g2.2
    simpa using this
  exact ⟨worldS_area h, by omega, by omega, fun o ho => orderS_ok (eachS_all e1 o ho), fun t ht => truckS_ok (eachS_all e2 t ht), g3.1, g3.2⟩
theorem ordersGo_sub {os : List Ord} : ∀ {stops : List Int} {acc l : List Ord}, ordersGo os stops acc = some l → (∀ o ∈ acc, o ∈ os) → (∀ o ∈ l, o ∈ os) ∧ l.length = acc.length + stops.length := by
  intro stops
  induction stops with
  | nil => intro acc l h ha; simp only [ordersGo, Option.some.injEq] at h; subst h; exact ⟨ha, by simp⟩
  | cons id r ih =>
    intro acc l h ha
    simp only [ordersGo] at h
    split at h
    · simp at h
    · rename_i hf
      have hr := findS_range hf
      obtain ⟨h1, h2⟩ := ih h (fun o ho => by
        rcases List.mem_append.1 ho with ho | ho
        · exact ha o ho
        · simp only [List.mem_singleton] at ho
          rw [ho, List.getD_eq_getElem?_getD, List.getElem?_eq_getElem hr]
          exact List.getElem_mem hr)
      exact ⟨h1, by rw [h2]; simp; omega⟩
theorem ordersS_sub {os : List Ord} {stops : List Int} {l : List Ord} (h : (l, (0 : Int)) = ordersS os stops) : (∀ o ∈ l, o ∈ os) ∧ l.length = stops.length := by
  unfold ordersS at h
  split at h
  · simp at h
  · rename_i l' hl'
    split at h
    · simp at h
    · simp only [Prod.mk.injEq, and_true] at h
      subst h
      have := ordersGo_sub hl' (fun o ho => by simp at ho)
      simpa using this
theorem visit_bound {w : Wld} (h0 : worldS w = 0) {p q : Plc} (hp : IOk p.node) {o : Ord} (ho : OrdOk w.n o) (hq : q = visitP w p o) (hb : 0 ≤ p.time ∧ p.time ≤ 100000000000 ∧ 0 ≤ p.dist ∧ p.dist ≤ 1000000000000) :
    0 ≤ q.time ∧ q.time ≤ p.time + 3000000 ∧ 0 ≤ q.dist ∧ q.dist ≤ p.dist + 1000000 := by
  have := walk_bound h0 hp (to := o.node) rfl hb
  have h1 := ho.lo
  have h2 := ho.hi
  have h3 := ho.service
  rw [hq]
  simp only [visitP, startS]
  omega
end Go.Abs
namespace Go.Abs
/-- A route of a plan, and a plan. -/
structure Rte where
  truck : Int
  stops : List Int
structure Pln where
  routes : List Rte
  unserved : List Int
def encR (r : Rte) : List V := [.at (.int .i64 r.truck), .row 1 (r.stops.map cellI)]
def encP (p : Pln) : List V := [.row 2 (p.routes.map encR), .row 1 (p.unserved.map cellI)]
def flatR (l : List Rte) : List Int := l.flatMap Rte.stops
theorem take_flat {l : List Rte} {z : Int} {x : Rte} (h0 : 0 ≤ z) (hx : l[z.toNat]? = some x) : flatR (l.take (z + 1).toNat) = flatR (l.take z.toNat) ++ x.stops := by
  rw [show (z + 1).toNat = z.toNat + 1 by omega, List.take_add_one, hx]
  simp [flatR]
theorem flat_le {l : List Rte} {k : Nat} : (flatR (l.take k)).length ≤ (flatR l).length := by
  conv => rhs; rw [← List.take_append_drop k l]
  unfold flatR
  rw [List.flatMap_append, List.length_append]
  omega
end Go.Abs
namespace Go.Abs
open Go.Sort Go.RowKit
variable {P : Program}
def sortI (l : List Int) : List Int := l.mergeSort fun x y => decide (x ≤ y)
theorem sortI_length (l : List Int) : (sortI l).length = l.length := by simp [sortI]
theorem sortI_perm (l : List Int) : (sortI l).Perm l := List.mergeSort_perm _ _
theorem sortI_sorted (l : List Int) : (sortI l).Pairwise (fun x y => x ≤ y) := by
  have := List.pairwise_mergeSort (le := fun x y : Int => decide (x ≤ y)) (fun a b c h1 h2 => by simp at *; omega) (fun a b => by simp; omega) l
  exact this.imp (by simp)
abbrev cellI1 (n : Int) : List V := [.at (.int .i64 n)]

/-- The row that was sorted, and whatever was laid. -/
theorem put_heap (w : World) (n k : Nat) (d : Array Int) (os : Array Obj) (k' : Nat) (o : Obj) (h : w.heap[k']? = some o) :
    (grow (putRow (Value.int .i64) (Sort.ahead w n) k 0 d) os).heap[k']? = some (if k' = k then onCells (putCells (Value.int .i64) 0 d) o else o) := by
  have hlt : k' < w.heap.size := (Array.getElem?_eq_some_iff.1 h).1
  show ((w.heap.modify k _) ++ os)[k']? = _
  rw [Array.getElem?_append_left (by simpa using hlt), Array.getElem?_modify]
  by_cases e : k = k'
  · subst e; simp [h]
  · have : ¬ k' = k := fun e' => e e'.symm
    simp [e, this, h]

theorem sort_sound {f : FuncId} (hf : ∃ fn, P.funcs[f]? = some fn ∧ (fn.name == "runtime.NumGoroutine") = false ∧ fn.body.isNone = false)
    (h1 : ∀ (blk off cap : Nat) (zs : List Int) (w : World), Holds (Value.int .i64) w blk off zs.toArray → blk < w.heap.size → zs.length < 4611686018427387904 →
      Calls P f #[.slice (some ⟨blk, off, none⟩) zs.length cap] w fun e w' => e = .returned (.tuple #[]) ∧ ∃ n os, w' = grow (putRow (Value.int .i64) (Sort.ahead w n) blk off (zs.mergeSort fun x y => decide (x ≤ y)).toArray) os)
    (h2 : ∀ (p : Option Addr) (cap : Nat) (w : World), Calls P f #[.slice p 0 cap] w fun e w' => e = .returned (.tuple #[]) ∧ w' = w)
    {l : List Int} (hl : l.length < 4611686018427387904) {ty b nx n : Nat} (hn : n = l.length) {es es' : List (List V)} (hes : es = l.map cellI1) (hes' : es' = (sortI l).map cellI1) :
    Sound P f [.msl 1 b 0 n] nx [(b, .arr ty 1 es)] (.tup []) [(b, .arr ty 1 es')] nx := by
  refine ⟨hf, fun c vs hm hnx hrel => ?_⟩
  obtain ⟨hls, hr⟩ := hrel
  obtain ⟨v, rfl⟩ : ∃ v, vs = #[v] := by
    obtain ⟨vs⟩ := vs
    match vs, hls with
    | [v], _ => exact ⟨v, rfl⟩
  have hv := hr 0 (by simp) (by simp)
  simp only [List.getElem_cons_zero] at hv
  have hlen : es.length = l.length := by subst hes; simp
  have hlen' : es'.length = l.length := by subst hes'; simp [sortI_length]
  have hget : (Mem.get [(b, Blk.arr ty 1 es)] b) = some (.arr ty 1 es) := by simp [Mem.get]
  have hother : ∀ b', b' ≠ b → c.ρ b' = none := fun b' h => by
    have := hm.blk b'
    simpa [Mem.get, h, BlkRel] using this
  generalize hvv : (#[v][0]) = v' at hv
  obtain rfl : v = v' := by simpa using hvv
  cases hv with
  | msl _ _ _ _ _ hus hms =>
    have empty : l.length = 0 → ∀ a cap, v = .slice a 0 cap → (∀ k, c.ρ b ≠ some (some k) ∨ True) → Calls P f #[v] c.w fun e w' => ∃ v c', e = .returned v ∧ c'.w = w' ∧ Nxt c c' [(b, .arr ty 1 es')] nx nx nx ∧ (∀ b, c'.us b → c.us b ∨ (nx ≤ b ∧ b < nx)) ∧ Rel c' (.tup []) v := fun h0 a cap hv _ => by
      subst hv
      refine Calls.mono (h2 a cap c.w) fun e w' ⟨he, hw⟩ => ⟨_, c, he, hw.symm, ?_, fun b h => .inl h, .tup _ _ rfl fun i h => by simp at h⟩
      have e1 : es = [] := List.eq_nil_of_length_eq_zero (by omega)
      have e2 : es' = [] := List.eq_nil_of_length_eq_zero (by omega)
      rw [e2, ← e1]
      exact Nxt.refl hm
    rcases hms.live hm hget with ⟨e1, e2, rfl, _, a, rfl⟩ | ⟨k, C, cap, vc, a, g1, g2, g3, g4, g5, g6, g7, g8, g9, g10, rfl, g11⟩
    · exact empty (by omega) a 0 rfl fun _ => .inr trivial
    · rcases g11 with rfl | rfl
      case inr =>
        have h0 : n = 0 := by omega
        subst h0
        exact empty hn.symm _ _ rfl fun _ => .inr trivial
      have hkl : k < c.w.heap.size := (Array.getElem?_eq_some_iff.1 g2).1
      have hcell : ∀ i (h : i < l.length), C[i]? = some (.int .i64 l[i]) := fun i h => by
        obtain ⟨u, q1, q2⟩ := g7 i (by omega) 0 (by subst hes; simp [cellI1])
        simp only [Nat.mul_one, Nat.add_zero] at q1
        have : es[i][0]'(by subst hes; simp [cellI1]) = .at (.int .i64 l[i]) := by subst hes; simp [cellI1]
        rw [this] at q2
        rw [q1, q2.at_inv]
      have hH : Holds (Value.int .i64) c.w k (0 * 1) l.toArray := fun j hj => by
        simp only [List.size_toArray] at hj
        have := hcell j hj
        have e : l.toArray[j]! = l[j] := by simp [getElem!_pos, hj]
        rw [e]
        refine ⟨?_, ?_⟩
        · simp only [World.cell?, g2]
          simpa using this
        · simp only [World.frozen?, g2]
          simp
      subst hn
      refine Calls.mono (h1 k (0 * 1) vc l c.w hH hkl hl) fun e w' ⟨he, n, os, hw⟩ => ?_
      simp only [Nat.zero_mul] at hw
      have hat := put_heap c.w n k (sortI l).toArray os
      change w' = grow (putRow (Value.int .i64) (Sort.ahead c.w n) k 0 (sortI l).toArray) os at hw
      have hsame : ∀ k', k' ≠ k → k' < c.w.heap.size → w'.heap[k']? = c.w.heap[k']? := fun k' hne hlt => by
        have h := Array.getElem?_eq_getElem hlt
        rw [hw, hat k' _ h, if_neg hne, h]
      have hk' : w'.heap[k]? = some (.cells (putCells (Value.int .i64) 0 (sortI l).toArray C) ty (0, 0)) := by
        rw [hw, hat k _ g2, if_pos rfl]; rfl
      have hCs : (putCells (Value.int .i64) 0 (sortI l).toArray C).size = C.size := by simp [putCells]
      have hsz : c.w.heap.size ≤ w'.heap.size := by
        rw [hw]
        show _ ≤ ((c.w.heap.modify k _) ++ os).size
        simp
      have him : ∀ o, ¬ c.im k o := g8
      let c' : Cx := { c with w := w' }
      have hevo : Evo (fun k => ∃ b, c.ρ b = some (some k)) c c' := {
        os := by show w'.os = _; rw [hw]; rfl
        tape := by show w'.tape = _; rw [hw]; rfl
        output := by show w'.output = _; rw [hw]; rfl
        size := hsz
        keep := fun k' D t fr h => by
          by_cases e : k' = k
          · subst e
            rw [g2] at h
            simp only [Option.some.injEq, Obj.cells.injEq] at h
            obtain ⟨rfl, rfl, rfl⟩ := h
            exact ⟨_, hk', hCs⟩
          · exact ⟨D, by rw [← h]; exact hsame k' e (Array.getElem?_eq_some_iff.1 h).1, rfl⟩
        same := fun k' hk hn => hsame k' (fun e => hn ⟨b, e ▸ g1⟩) hk
        imm := fun k' o h => ⟨h, by
          have hne : k' ≠ k := fun e => him o (e ▸ h)
          show w'.cell? _ = _
          simp only [World.cell?, hsame k' hne (hm.imlt _ _ h)]⟩
        imold := fun _ _ h _ _ => h
        us := fun _ h => h
        ρ := fun _ _ => .inl rfl }
      refine ⟨_, c', he, rfl, ⟨hevo, ⟨fun b' => ?_, hm.inj, hm.big, fun k' o h => Nat.lt_of_lt_of_le (hm.imlt k' o h) hsz⟩, fun b' k' h => .inl ⟨b', h⟩, fun b' h => .inl h⟩, fun b' h => .inl h, .tup _ _ rfl fun i h => by simp at h⟩
      by_cases e : b' = b
      · subst e
        simp only [Mem.get, if_true]
        refine .inr ⟨k, _, cap, g1, hk', by rw [hCs]; exact g3, g4, by omega, fun i hi => by subst hes'; simp [cellI1], fun i hi j hj => ?_, him⟩
        have hij : j = 0 := by subst hes'; simp [cellI1] at hj; omega
        subst hij
        have hil : i < (sortI l).length := by rw [sortI_length]; omega
        have hiC : i < C.size := by
          have := (Array.getElem?_eq_some_iff.1 (hcell i (by omega))).1
          exact this
        refine ⟨.int .i64 (sortI l)[i], ?_, ?_⟩
        · simp only [Nat.mul_one, Nat.add_zero, putCells, Array.getElem?_mapIdx, Array.getElem?_eq_getElem hiC, Option.map_some]
          simp [hil]
        · have : es'[i][0] = .at (.int .i64 (sortI l)[i]) := by subst hes'; simp [cellI1]
          rw [this]
          exact .at _
      · have := hother b' e
        simp only [Mem.get, if_neg e, BlkRel]
        exact this
end Go.Abs
namespace Go.Abs
def restS (w : Wld) (p : Pln) : List Int := sortI ((w.orders.filter fun o => !(sortI (flatR p.routes)).contains o.id).map Ord.id)
end Go.Abs
namespace Go.Abs
def twiceS (l : List Int) : Bool := decide ((compI (sortI l)).length < l.length)
def tripsGo (w : Wld) : List Rte → List Int → List Int × Int
  | [], acc => (acc, 0)
  | r :: rest, acc => if (runS w r.truck r.stops).2 ≠ 0 then ([], (runS w r.truck r.stops).2) else tripsGo w rest (acc ++ [(runS w r.truck r.stops).1.cost])
def checkS (w : Wld) (p : Pln) : Int × Int :=
  if worldS w ≠ 0 then (0, worldS w) else
  if 6 < p.routes.length then (0, 4) else
  if (tripsGo w p.routes []).2 ≠ 0 then (0, (tripsGo w p.routes []).2) else
  if twiceS (p.routes.map Rte.truck) then (0, 6) else
  if twiceS (sortI (flatR p.routes)) then (0, 6) else
  if p.unserved = restS w p then sumS (tripsGo w p.routes []).1 else (0, 2)
theorem runS_len {w : Wld} {t : Int} {s : List Int} (h : (runS w t s).2 = 0) : s.length ≤ 12 := by
  unfold runS at h
  split at h
  · rename_i h1; exact absurd h h1
  · split at h
    · simp at h
    · rename_i h1; simp at h1; omega
theorem tripsGo_len {w : Wld} : ∀ {l : List Rte} {acc : List Int}, (tripsGo w l acc).2 = 0 → (∀ r ∈ l, (runS w r.truck r.stops).2 = 0) ∧ (tripsGo w l acc).1 = acc ++ l.map fun r => (runS w r.truck r.stops).1.cost := by
  intro l
  induction l with
  | nil => intro acc _; simp [tripsGo]
  | cons r rest ih =>
    intro acc h
    simp only [tripsGo] at h ⊢
    split at h
    · rename_i h1; exact absurd h h1
    · rename_i h1
      rw [if_neg h1]
      obtain ⟨i1, i2⟩ := ih h
      refine ⟨fun x hx => ?_, by rw [i2]; simp⟩
      rcases List.mem_cons.1 hx with rfl | hx
      · simpa using h1
      · exact i1 x hx
theorem flat_len {l : List Rte} (h : ∀ r ∈ l, r.stops.length ≤ 12) : (flatR l).length ≤ 12 * l.length := by
  induction l with
  | nil => simp [flatR]
  | cons r rest ih =>
    have h1 := ih fun x hx => h x (List.mem_cons_of_mem _ hx)
    have h2 := h r List.mem_cons_self
    unfold flatR at h1 ⊢
    simp only [List.flatMap_cons, List.length_append, List.length_cons]
    omega
end Go.Abs
namespace Go.Abs
/-- The nodes of all orders but that at a place. -/
def othersGo (a : Int) : Int → List Ord → List Int
  | _, [] => []
  | k, o :: r => if k = a then othersGo a (k + 1) r else o.node :: othersGo a (k + 1) r
def farS (w : Wld) (a b : Int) : Int := (legS w.n w.dist w.time a b).1
def inS (w : Wld) (l : List Ord) (i : Int) : Int := leastS (fun n => farS w n (l.getD i.toNat default).node) (0 :: othersGo i 0 l)
def insS (w : Wld) (l : List Ord) : List Int := (List.range l.length).map fun (i : Nat) => inS w l (i : Int)
/-- A certificate. -/
structure Crt where
  ids : List Int
  inn : List Int
  back : Int
  rate : Int
  fixed : Int
  bound : Int
def encC (c : Crt) : List V := [.row 1 (c.ids.map cellI), .row 1 (c.inn.map cellI), .at (.int .i64 c.back), .at (.int .i64 c.rate), .at (.int .i64 c.fixed), .at (.int .i64 c.bound)]
def Crt.none : Crt := ⟨[], [], 0, 0, 0, 0⟩
theorem othersGo_le {a : Int} : ∀ {l : List Ord} {k : Int}, (othersGo a k l).length ≤ l.length := by
  intro l
  induction l with
  | nil => intro k; simp [othersGo]
  | cons o r ih =>
    intro k
    simp only [othersGo]
    have := @ih (k + 1)
    split
    · simp; omega
    · simp; omega
end Go.Abs
namespace Go.Abs
def fullS (w : Wld) (ids : List Int) (l : List Ord) : Crt :=
  ⟨ids, insS w l, leastS (fun o => farS w o.node 0) l, leastS Trk.rate w.trucks, leastS Trk.fixed w.trucks,
    worthS (insS w l) (leastS (fun o => farS w o.node 0) l) (leastS Trk.rate w.trucks) (leastS Trk.fixed w.trucks)⟩
def makeS (w : Wld) (ids : List Int) : Crt × Int :=
  if worldS w ≠ 0 then (.none, worldS w) else
  if (compI (sortI ids)).length < ids.length then (.none, 6) else
  match ordersGo w.orders (sortI ids) [] with
  | none => (.none, 5)
  | some l => if l.length = 0 then (⟨sortI ids, [], 0, 0, 0, 0⟩, 0) else (fullS w (sortI ids) l, 0)
end Go.Abs
namespace Go.Abs
def winS (n m : Int) : Bool := decide (0 ≤ n ∧ n ≤ m)
def winsGo : List Int → List Int → Bool
  | [], _ => true
  | _ :: _, [] => false
  | x :: r, y :: r' => winS x y && winsGo r r'
def holdsS (w : Wld) (c : Crt) : Bool :=
  if (makeS w c.ids).2 ≠ 0 then false else
  if (makeS w c.ids).1.ids = c.ids then
    if c.inn.length ≠ (makeS w c.ids).1.inn.length then false else
    if winsGo c.inn (makeS w c.ids).1.inn then
      if winS c.back (makeS w c.ids).1.back then
        if winS c.rate (makeS w c.ids).1.rate then
          if winS c.fixed (makeS w c.ids).1.fixed then decide (c.bound = worthS c.inn c.back c.rate c.fixed) else false
        else false
      else false
    else false
  else false
end Go.Abs
namespace Go.Abs
theorem makeS_ids {w : Wld} {ids : List Int} : (makeS w ids).1.ids.length ≤ ids.length := by
  unfold makeS
  split
  · simp [Crt.none]
  · split
    · simp [Crt.none]
    · split
      · simp [Crt.none]
      · split
        · simp [sortI_length]
        · simp [fullS, sortI_length]
end Go.Abs
namespace Go.Abs
def large8S (w : Wld) (n : Int) : Bool := decide (50 < w.orders.length) || decide (50 < w.trucks.length) || decide (400 < w.dist.length) || decide (400 < w.time.length) || decide (100 < n)
/-- How much a plan holds, as far as it is counted. -/
def countGo : Int → List Rte → Int
  | n, [] => n
  | n, r :: l => if n ≤ 200 then countGo (n + r.stops.length + 1) l else n
def large9S (p : Pln) : Bool := decide (200 < countGo p.unserved.length p.routes)
end Go.Abs
namespace Go.Abs
def wA : Wld := ⟨2, [0, 5, 6, 0], [0, 0, 0, 0], [⟨7, 0, 1, 1, 1, 0, 0, 0⟩], [⟨3, 1, 1, 0, 0, 4, 2⟩]⟩
theorem sortI_nil : sortI [] = [] := List.eq_nil_of_length_eq_zero (by rw [sortI_length]; rfl)
theorem sortI_rep (n : Nat) (x : Int) : sortI (List.replicate n x) = List.replicate n x := List.perm_replicate.1 (sortI_perm _)
theorem sortI_one (x : Int) : sortI [x] = [x] := sortI_rep 1 x
theorem sortI_two (x : Int) : sortI [x, x] = [x, x] := sortI_rep 2 x
theorem wA_ok : worldS wA = 0 := by decide +kernel
theorem wA_make : makeS wA [7] = (⟨[7], [5], 6, 2, 4, 26⟩, 0) := by
  unfold makeS
  rw [wA_ok, sortI_one]
  rfl
theorem wA_none : makeS wA [] = (⟨[], [], 0, 0, 0, 0⟩, 0) := by
  unfold makeS
  rw [wA_ok, sortI_nil]
  rfl
theorem wA_twice : makeS wA [7, 7] = (.none, 6) := by
  unfold makeS
  rw [wA_ok, sortI_two]
  rfl
theorem wA_name : makeS wA [8] = (.none, 5) := by
  unfold makeS
  rw [wA_ok, sortI_one]
  rfl
theorem wA_holds : holdsS wA ⟨[7], [5], 6, 2, 4, 26⟩ = true := by
  unfold holdsS
  rw [wA_make]
  decide +kernel
theorem wA_holds0 : holdsS wA ⟨[], [], 0, 0, 0, 0⟩ = true := by
  unfold holdsS
  rw [wA_none]
  decide +kernel
theorem wA_not : holdsS wA ⟨[7], [5], 6, 2, 4, 27⟩ = false := by
  unfold holdsS
  rw [wA_make]
  decide +kernel
end Go.Abs
namespace Go.Abs
theorem makeS_inn {w : Wld} {ids : List Int} : (makeS w ids).1.inn.length ≤ ids.length := by
  unfold makeS
  split
  · simp [Crt.none]
  · split
    · simp [Crt.none]
    · split
      · simp [Crt.none]
      · rename_i l hl
        split
        · simp
        · have := ordersGo_sub hl (fun o h => by simp at h)
          simp [fullS, insS]
          have := this.2
          simp [sortI_length] at this
          omega
theorem countGo_bound : ∀ {l : List Rte} {n : Int}, 0 ≤ n → countGo n l ≤ 200 → n + (flatR l).length + l.length ≤ 200 := by
  intro l
  induction l with
  | nil => intro n h0 h; simp [countGo, flatR] at h ⊢; exact h
  | cons r rest ih =>
    intro n h0 h
    simp only [countGo] at h
    split at h
    · have := ih (by omega) h
      simp only [flatR, List.flatMap_cons, List.length_append, List.length_cons] at this ⊢
      omega
    · omega
theorem large9_bound {p : Pln} (h : large9S p = false) : p.unserved.length ≤ 200 ∧ (flatR p.routes).length ≤ 200 ∧ p.routes.length ≤ 200 := by
  unfold large9S at h
  have h1 : countGo p.unserved.length p.routes ≤ 200 := by simpa using h
  have := countGo_bound (by omega) h1
  omega
def lessS (w : Wld) (c : Crt) (p : Pln) : Bool :=
  if large8S w c.ids.length || decide (100 < c.inn.length) then true else
  if large9S p then true else
  if (checkS w p).2 ≠ 0 then decide (0 ≤ (checkS w p).1) else
  if sortI (flatR p.routes) = c.ids then
    if holdsS w c then decide (c.bound ≤ (checkS w p).1) && decide (0 ≤ c.bound) else decide (0 ≤ (checkS w p).1)
  else decide (0 ≤ (checkS w p).1)
def planS (w : Wld) (p : Pln) (c : Crt) : Bool :=
  if large8S w c.ids.length || decide (100 < c.inn.length) then true else
  if large9S p then true else
  if (checkS w p).2 ≠ 0 then (if (makeS w (sortI (flatR p.routes))).2 ≠ 0 then true else holdsS w (makeS w (sortI (flatR p.routes))).1) else
  if (makeS w (sortI (flatR p.routes))).2 ≠ 0 then false else
  if holdsS w (makeS w (sortI (flatR p.routes))).1 then
    if (checkS w p).1 < (makeS w (sortI (flatR p.routes))).1.bound then false else
    if (makeS w (sortI (flatR p.routes))).1.bound < 0 then false else
    if holdsS w { c with ids := sortI (flatR p.routes) } then decide (c.bound ≤ (makeS w (sortI (flatR p.routes))).1.bound) else true
  else false
end Go.Abs
namespace Go.Abs
def sumL : List Int → Int
  | [] => 0
  | x :: r => x + sumL r
theorem sumL_append (a b : List Int) : sumL (a ++ b) = sumL a + sumL b := by
  induction a with
  | nil => simp [sumL]
  | cons x r ih => simp only [List.cons_append, sumL, ih]; omega
theorem sumL_perm {a b : List Int} (h : a.Perm b) : sumL a = sumL b := by
  induction h with
  | nil => rfl
  | cons x _ ih => simp only [sumL, ih]
  | swap x y l => simp only [sumL]; omega
  | trans _ _ h1 h2 => exact h1.trans h2
theorem sumL_bound {B : Int} (hB : 0 ≤ B) : ∀ {l : List Int}, (∀ x ∈ l, 0 ≤ x ∧ x ≤ B) → 0 ≤ sumL l ∧ sumL l ≤ B * l.length := by
  intro l
  induction l with
  | nil => intro _; simp [sumL]
  | cons x r ih =>
    intro h
    have h1 := h x List.mem_cons_self
    have h2 := ih fun y hy => h y (List.mem_cons_of_mem _ hy)
    simp only [sumL, List.length_cons]
    have e : B * ((r.length + 1 : Nat) : Int) = B * (r.length : Int) + B := by push_cast; rw [Int.mul_add, Int.mul_one]
    omega
theorem sumGo_val : ∀ {l : List Int} {acc : Int}, 0 ≤ acc → (∀ x ∈ l, 0 ≤ x ∧ x ≤ 4611686018427387903) → acc + sumL l ≤ 4611686018427387903 → sumGo acc l = (acc + sumL l, 0) := by
  intro l
  induction l with
  | nil => intro acc _ _ _; simp [sumGo, sumL]
  | cons x r ih =>
    intro acc h0 h hs
    have h1 := h x List.mem_cons_self
    have hr : ∀ y ∈ r, 0 ≤ y ∧ y ≤ 4611686018427387903 := fun y hy => h y (List.mem_cons_of_mem _ hy)
    have h2 := (sumL_bound (by decide) hr).1
    simp only [sumL] at hs ⊢
    have e : addS acc x = (acc + x, 0) := by
      unfold addS
      rw [if_neg (by simp [may]; omega), if_neg (by simp [may]; omega)]
    simp only [sumGo, e, if_true]
    rw [ih (by omega) hr (by omega)]
    congr 1
    omega
theorem sumS_val {l : List Int} (h : ∀ x ∈ l, 0 ≤ x ∧ x ≤ 4611686018427387903) (hs : sumL l ≤ 4611686018427387903) : sumS l = (sumL l, 0) := by
  unfold sumS
  rw [if_pos (List.all_eq_true.2 fun x hx => by have := h x hx; simp [may]; omega), sumGo_val (by omega) h (by omega)]
  simp
theorem sumGo_ok : ∀ {l : List Int} {acc : Int}, (sumGo acc l).2 = 0 → (sumGo acc l).1 = acc + sumL l := by
  intro l
  induction l with
  | nil => intro acc _; simp [sumGo, sumL]
  | cons x r ih =>
    intro acc h
    simp only [sumGo] at h ⊢
    split at h
    · rename_i h1
      rw [if_pos h1, ih h]
      have : (addS acc x).1 = acc + x := by
        unfold addS at h1 ⊢
        split at h1
        · simp at h1
        · split at h1
          · simp at h1
          · rename_i g1 g2; rw [if_neg g1, if_neg g2]
      rw [this]; simp only [sumL]; omega
    · rename_i h1; exact absurd h h1
theorem sumS_ok {l : List Int} (h : (sumS l).2 = 0) : (sumS l).1 = sumL l := by
  unfold sumS at h ⊢
  split at h
  · rename_i h1; rw [if_pos h1, sumGo_ok h]; omega
  · simp at h
theorem sumGo_err : ∀ {l : List Int} {acc : Int}, (sumGo acc l).2 ≠ 0 → (sumGo acc l).1 = 0 := by
  intro l
  induction l with
  | nil => intro acc h; simp [sumGo] at h
  | cons x r ih =>
    intro acc h
    simp only [sumGo] at h ⊢
    split
    · rename_i h1; rw [if_pos h1] at h; exact ih h
    · rfl
theorem sumS_err {l : List Int} (h : (sumS l).2 ≠ 0) : (sumS l).1 = 0 := by
  unfold sumS at h ⊢
  split
  · rename_i h1; rw [if_pos h1] at h; exact sumGo_err h
  · rfl
/-- What a certificate is worth, where nothing is too large. -/
theorem worth_val {inn : List Int} {back rate fixed : Int} (h1 : ∀ x ∈ inn, 0 ≤ x ∧ x ≤ 1000000) (h2 : inn.length ≤ 1000000) (h3 : 0 ≤ back ∧ back ≤ 1000000) (h4 : 0 ≤ rate ∧ rate ≤ 1000) (h5 : 0 ≤ fixed ∧ fixed ≤ 1000000) :
    worthS inn back rate fixed = fixed + rate * (sumL inn + back) := by
  have hs := sumL_bound (by decide) h1
  have hall : ∀ x ∈ inn ++ [back], 0 ≤ x ∧ x ≤ 4611686018427387903 := fun x hx => by
    rcases List.mem_append.1 hx with hx | hx
    · have := h1 x hx; omega
    · simp only [List.mem_singleton] at hx; omega
  have e0 : sumL (inn ++ [back]) = sumL inn + back := by rw [sumL_append]; simp [sumL]
  have e1 : sumS (inn ++ [back]) = (sumL inn + back, 0) := by rw [sumS_val hall (by rw [e0]; omega), e0]
  obtain ⟨S, hS⟩ : ∃ S, S = sumL inn + back := ⟨_, rfl⟩
  have hSb : 0 ≤ S ∧ S ≤ 1000001000000 := by omega
  have m1 : 0 ≤ rate * S := Int.mul_nonneg h4.1 hSb.1
  have m2 : rate * S ≤ 1000 * 1000001000000 := Int.mul_le_mul h4.2 hSb.2 hSb.1 (by omega)
  unfold worthS
  rw [e1, ← hS]
  have e2 : mulS rate S = (rate * S, 0) := by
    unfold mulS
    rw [if_neg (by simp [may]; omega)]
    split
    · rename_i h; rcases h with h | h <;> simp [h]
    · rw [if_pos (by simp [may]; omega)]
  simp only [e2, ne_eq, not_true_eq_false, if_false]
  unfold addS
  rw [if_neg (by simp [may]; omega), if_neg (by simp [may]; omega)]
theorem leastGo_le {α : Type} {f : α → Int} : ∀ {l : List α} {b : Bool} {out : Int}, (b = false → leastGo f b out l ≤ out) ∧ ∀ x ∈ l, leastGo f b out l ≤ f x := by
  intro l
  induction l with
  | nil => intro b out; exact ⟨fun _ => by simp [leastGo], fun x hx => by simp at hx⟩
  | cons y r ih =>
    intro b out
    simp only [leastGo]
    have h := @ih false (if (b || decide (f y < out)) = true then f y else out)
    have h1 := h.1 rfl
    refine ⟨fun hb => ?_, fun x hx => ?_⟩
    · subst hb
      by_cases hy : f y < out
      · simp [hy] at h1 ⊢; omega
      · simp [hy] at h1 ⊢; omega
    · rcases List.mem_cons.1 hx with rfl | hx
      · by_cases hy : (b || decide (f x < out)) = true
        · simpa [hy] using h1
        · rw [if_neg hy] at h1 ⊢
          simp at hy
          omega
      · exact h.2 x hx
theorem leastS_le {α : Type} {f : α → Int} {l : List α} {x : α} (h : x ∈ l) : leastS f l ≤ f x := leastGo_le.2 x h
theorem leastGo_bound {α : Type} {f : α → Int} {B : Int} : ∀ {l : List α} {b : Bool} {out : Int}, (∀ x ∈ l, 0 ≤ f x ∧ f x ≤ B) → 0 ≤ out → out ≤ B → 0 ≤ leastGo f b out l ∧ leastGo f b out l ≤ B := by
  intro l
  induction l with
  | nil => intro b out _ h0 h1; exact ⟨h0, h1⟩
  | cons y r ih =>
    intro b out h h0 h1
    simp only [leastGo]
    have hy := h y List.mem_cons_self
    refine ih (fun x hx => h x (List.mem_cons_of_mem _ hx)) ?_ ?_ <;> split <;> omega
theorem leastS_bound {α : Type} {f : α → Int} {l : List α} {B : Int} (hB : 0 ≤ B) (h : ∀ x ∈ l, 0 ≤ f x ∧ f x ≤ B) : 0 ≤ leastS f l ∧ leastS f l ≤ B := leastGo_bound h (Int.le_refl _) hB
theorem far_bound {w : Wld} (h0 : worldS w = 0) (a b : Int) : 0 ≤ farS w a b ∧ farS w a b ≤ 1000000 := by
  obtain ⟨d, t, e, hde⟩ : ∃ d t e, (d, t, e) = legS w.n w.dist w.time a b := ⟨_, _, _, rfl⟩
  have := legS_bound h0 hde
  unfold farS
  rw [← hde]
  simp only
  omega
end Go.Abs
namespace Go.Abs
def ordAt (os : List Ord) (id : Int) : Ord := os.getD (findS os id).toNat default
theorem ordersGo_eq {os : List Ord} : ∀ {s : List Int} {acc l : List Ord}, ordersGo os s acc = some l → l = acc ++ s.map (ordAt os) ∧ ∀ id ∈ s, ¬ findS os id < 0 := by
  intro s
  induction s with
  | nil => intro acc l h; simp only [ordersGo, Option.some.injEq] at h; simp [h]
  | cons id r ih =>
    intro acc l h
    simp only [ordersGo] at h
    split at h
    · simp at h
    · rename_i hf
      obtain ⟨h1, h2⟩ := ih h
      refine ⟨by rw [h1]; simp [ordAt], fun x hx => ?_⟩
      rcases List.mem_cons.1 hx with rfl | hx
      · exact hf
      · exact h2 x hx
theorem ordersGo_some {os : List Ord} : ∀ {s : List Int} {acc : List Ord}, (∀ id ∈ s, ¬ findS os id < 0) → ordersGo os s acc = some (acc ++ s.map (ordAt os)) := by
  intro s
  induction s with
  | nil => intro acc _; simp [ordersGo]
  | cons id r ih =>
    intro acc h
    simp only [ordersGo]
    rw [if_neg (h id List.mem_cons_self), ih fun x hx => h x (List.mem_cons_of_mem _ hx)]
    simp [ordAt]
theorem ordAt_ok {os : List Ord} {id : Int} (h : ¬ findS os id < 0) : (ordAt os id).id = id ∧ ordAt os id ∈ os := by
  have hr := findS_range h
  unfold ordAt
  rw [List.getD_eq_getElem?_getD, List.getElem?_eq_getElem hr]
  refine ⟨?_, List.getElem_mem hr⟩
  unfold findS at h hr ⊢
  rcases @idxS_range Ord (fun o => o.id == id) os 0 with h1 | ⟨h1, h2, x, h3, h4⟩
  · omega
  · have : os[(idxS (fun o => o.id == id) 0 os).toNat] = x := by
      have e : (idxS (fun o : Ord => o.id == id) 0 os - 0).toNat = (idxS (fun o : Ord => o.id == id) 0 os).toNat := by omega
      rw [e, List.getElem?_eq_getElem hr] at h3
      simpa using h3
    simp only [Option.getD_some]
    rw [this]
    simpa using h4
theorem runS_ok {w : Wld} {t : Int} {s : List Int} (h : (runS w t s).2 = 0) : worldS w = 0 ∧ s ≠ [] ∧ (∀ id ∈ s, ¬ findS w.orders id < 0) ∧
    ∃ tr ∈ w.trucks, ∃ q vs, runGo w ⟨0, tr.start, 0⟩ [] (s.map (ordAt w.orders)) = (q, vs, true) ∧ (runS w t s).1.cost = tr.fixed + tr.rate * (walkS w q 0).dist := by
  unfold runS at h ⊢
  split at h
  · rename_i h1; exact absurd h h1
  rename_i h1
  rw [if_neg h1]
  split at h
  · simp at h
  rename_i h2
  rw [if_neg h2]
  split at h
  · simp at h
  rename_i h3
  rw [if_neg h3]
  split at h
  · rename_i h4; exact absurd h h4
  rename_i h4
  rw [if_neg h4]
  split at h
  · rename_i h5; exact absurd h h5
  rename_i h5
  rw [if_neg h5]
  have hrange := truckAt_range h3
  obtain ⟨tr, htr⟩ : ∃ tr, tr = w.trucks.getD (truckAt w.trucks t).toNat default := ⟨_, rfl⟩
  have hmem : tr ∈ w.trucks := by
    rw [htr, List.getD_eq_getElem?_getD, List.getElem?_eq_getElem hrange]
    exact List.getElem_mem hrange
  rw [← htr] at h ⊢
  have ho : (ordersS w.orders s).1 = s.map (ordAt w.orders) ∧ ∀ id ∈ s, ¬ findS w.orders id < 0 := by
    unfold ordersS at h4 ⊢
    split at h4
    · simp at h4
    · rename_i l hl
      split at h4
      · simp at h4
      · rename_i hd
        rw [if_neg hd]
        have := ordersGo_eq hl
        simpa using this
  rw [ho.1] at h ⊢
  obtain ⟨⟨q, vs, b⟩, hG⟩ : ∃ G, G = runGo w ⟨0, tr.start, 0⟩ [] (s.map (ordAt w.orders)) := ⟨_, rfl⟩
  unfold tripS at h ⊢
  rw [← hG] at h ⊢
  simp only at h ⊢
  cases b with
  | false => simp at h
  | true =>
    simp only [Bool.true_eq_false, if_false] at h ⊢
    split at h
    · simp at h
    rename_i h6
    rw [if_neg h6]
    refine ⟨by simpa using h1, fun e => h2 (.inl e), ho.2, tr, hmem, q, vs, hG.symm, rfl⟩
theorem runGo_dist {w : Wld} {g : Ord → Int} : ∀ {l : List Ord} {p : Plc} {vs : List Vis} {q : Plc} {vs' : List Vis}, runGo w p vs l = (q, vs', true) → (∀ o ∈ l, g o ≤ farS w p.node o.node) → l.Pairwise (fun o' o => g o ≤ farS w o'.node o.node) →
    p.dist + sumL (l.map g) ≤ q.dist ∧ (l ≠ [] → ∃ o ∈ l, q.node = o.node) := by
  intro l
  induction l with
  | nil =>
    intro p vs q vs' h _ _
    simp only [runGo, Prod.mk.injEq] at h
    obtain ⟨rfl, _⟩ := h
    simp [sumL]
  | cons o r ih =>
    intro p vs q vs' h hf hp
    simp only [runGo] at h
    split at h
    · rw [List.pairwise_cons] at hp
      obtain ⟨h1, h2⟩ := ih h (fun o' ho' => hp.1 o' ho') hp.2
      have h3 := hf o List.mem_cons_self
      have hd : (visitP w p o).dist = p.dist + farS w p.node o.node := rfl
      simp only [List.map_cons, sumL]
      refine ⟨by omega, fun _ => ?_⟩
      by_cases hr : r = []
      · subst hr
        simp only [runGo, Prod.mk.injEq] at h
        obtain ⟨rfl, _⟩ := h
        exact ⟨o, List.mem_cons_self, rfl⟩
      · obtain ⟨o', ho', e⟩ := h2 hr
        exact ⟨o', List.mem_cons_of_mem _ ho', e⟩
    · simp at h
theorem others_mem {a : Int} : ∀ {l : List Ord} {k : Int} {j : Nat} {o : Ord}, l[j]? = some o → k + j ≠ a → o.node ∈ othersGo a k l := by
  intro l
  induction l with
  | nil => intro k j o h; simp at h
  | cons x r ih =>
    intro k j o h hne
    simp only [othersGo]
    cases j with
    | zero =>
      simp only [List.getElem?_cons_zero, Option.some.injEq] at h
      subst h
      rw [if_neg (by simpa using hne)]
      exact List.mem_cons_self
    | succ j =>
      simp only [List.getElem?_cons_succ] at h
      have := ih (k := k + 1) h (by push_cast at hne; omega)
      split
      · exact this
      · exact List.mem_cons_of_mem _ this
theorem idx_get {s : List Int} (hn : s.Nodup) {i : Nat} (hi : i < s.length) : s.idxOf s[i] = i := by
  exact List.Nodup.idxOf_getElem hn i hi
/-- What a certificate says of an order by its number. -/
def inO (w : Wld) (s : List Int) (id : Int) : Int := inS w (s.map (ordAt w.orders)) (s.idxOf id : Int)
theorem ins_eq {w : Wld} {s : List Int} (hn : s.Nodup) : insS w (s.map (ordAt w.orders)) = s.map (inO w s) := by
  unfold insS
  refine List.ext_getElem (by simp) fun i h1 h2 => ?_
  simp only [List.length_map, List.length_range] at h1
  simp only [List.getElem_map, List.getElem_range, inO]
  rw [idx_get hn h1]
theorem getD_idx {w : Wld} {s : List Int} {id : Int} (h : id ∈ s) : ((s.map (ordAt w.orders)).getD (s.idxOf id) default) = ordAt w.orders id := by
  have hlt := List.idxOf_lt_length_iff.2 h
  rw [List.getD_eq_getElem?_getD, List.getElem?_map, List.getElem?_eq_getElem hlt]
  simp
theorem inO_depot {w : Wld} {s : List Int} {id : Int} (h : id ∈ s) : inO w s id ≤ farS w 0 (ordAt w.orders id).node := by
  unfold inO inS
  have e : ((s.idxOf id : Int)).toNat = s.idxOf id := by omega
  rw [e, getD_idx h]
  exact leastS_le (f := fun n => farS w n (ordAt w.orders id).node) List.mem_cons_self
theorem inO_other {w : Wld} {s : List Int} {id id' : Int} (h : id ∈ s) (h' : id' ∈ s) (hne : id' ≠ id) : inO w s id ≤ farS w (ordAt w.orders id').node (ordAt w.orders id).node := by
  unfold inO inS
  have e : ((s.idxOf id : Int)).toNat = s.idxOf id := by omega
  rw [e, getD_idx h]
  refine leastS_le (f := fun n => farS w n (ordAt w.orders id).node) (List.mem_cons_of_mem _ ?_)
  have hlt := List.idxOf_lt_length_iff.2 h'
  refine others_mem (j := s.idxOf id') (by rw [List.getElem?_map, List.getElem?_eq_getElem hlt]; simp) ?_
  intro he
  have : s.idxOf id' = s.idxOf id := by omega
  have h1 := List.getElem_idxOf hlt
  have h2 := List.getElem_idxOf (List.idxOf_lt_length_iff.2 h)
  apply hne
  rw [← h1, ← h2]
  congr 1
theorem inO_bound {w : Wld} (h0 : worldS w = 0) {s : List Int} {id : Int} : 0 ≤ inO w s id ∧ inO w s id ≤ 1000000 := leastS_bound (by decide) fun _ _ => far_bound h0 _ _
def backS (w : Wld) (s : List Int) : Int := leastS (fun o => farS w o.node 0) (s.map (ordAt w.orders))
theorem backS_le {w : Wld} {s : List Int} {id : Int} (h : id ∈ s) : backS w s ≤ farS w (ordAt w.orders id).node 0 :=
  leastS_le (f := fun o : Ord => farS w o.node 0) (List.mem_map.2 ⟨id, h, rfl⟩)
theorem backS_bound {w : Wld} (h0 : worldS w = 0) {s : List Int} : 0 ≤ backS w s ∧ backS w s ≤ 1000000 := leastS_bound (by decide) fun _ _ => far_bound h0 _ _
/-- How far a trip goes, at least. -/
theorem trip_dist {w : Wld} {s : List Int} {t : Int} {st : List Int} (h : (runS w t st).2 = 0) (hs : ∀ id ∈ st, id ∈ s) (hn : st.Nodup) :
    ∃ tr ∈ w.trucks, ∃ d, (runS w t st).1.cost = tr.fixed + tr.rate * d ∧ sumL (st.map (inO w s)) + backS w s ≤ d := by
  obtain ⟨h0, hne, hf, tr, htr, q, vs, hG, hc⟩ := runS_ok h
  refine ⟨tr, htr, _, hc, ?_⟩
  have hid : ∀ id ∈ st, (ordAt w.orders id).id = id := fun id hi => (ordAt_ok (hf id hi)).1
  have hd := runGo_dist (g := fun o => inO w s o.id) hG (fun o ho => by
    obtain ⟨id, hi, rfl⟩ := List.mem_map.1 ho
    simp only [hid id hi]
    exact inO_depot (hs id hi)) (by
    rw [List.pairwise_map]
    refine List.Pairwise.imp_of_mem ?_ hn
    intro a b ha hb hab
    simp only [hid b hb]
    exact inO_other (hs b hb) (hs a ha) hab)
  have e : (st.map (ordAt w.orders)).map (fun o => inO w s o.id) = st.map (inO w s) := by
    rw [List.map_map]
    exact List.map_congr_left fun id hi => by simp [hid id hi]
  rw [e] at hd
  obtain ⟨o, ho, hq⟩ := hd.2 (by simpa using hne)
  obtain ⟨id, hi, rfl⟩ := List.mem_map.1 ho
  have hb := backS_le (w := w) (hs id hi)
  have hw : (walkS w q 0).dist = q.dist + farS w q.node 0 := rfl
  rw [hw, hq]
  have := hd.1
  simp only at this
  omega
end Go.Abs
namespace Go.Abs
theorem compGo_nodup : ∀ {l : List Int} {p : Int}, l.Pairwise (fun x y => x ≤ y) → (∀ x ∈ l, p ≤ x) → ¬ (compGo p l).length < l.length → (p :: l).Nodup := by
  intro l
  induction l with
  | nil => intro p _ _ _; simp
  | cons x r ih =>
    intro p hs hp hl
    rw [List.pairwise_cons] at hs
    simp only [compGo] at hl
    split at hl
    · have := @compGo_le p r
      simp only [List.length_cons] at hl
      omega
    · rename_i hne
      simp only [List.length_cons] at hl
      have h1 := ih hs.2 hs.1 (by omega)
      rw [List.nodup_cons]
      refine ⟨fun hm => ?_, h1⟩
      rcases List.mem_cons.1 hm with rfl | hm
      · exact hne rfl
      · have := hs.1 p hm
        have := hp x List.mem_cons_self
        omega
theorem comp_nodup {l : List Int} (hs : l.Pairwise (fun x y => x ≤ y)) (hl : ¬ (compI l).length < l.length) : l.Nodup := by
  cases l with
  | nil => simp
  | cons x r =>
    rw [List.pairwise_cons] at hs
    simp only [compI, List.length_cons] at hl
    exact compGo_nodup hs.2 hs.1 (by omega)
theorem compGo_of {l : List Int} : ∀ {p : Int}, (p :: l).Nodup → (compGo p l).length = l.length := by
  induction l with
  | nil => intro p _; rfl
  | cons x r ih =>
    intro p h
    rw [List.nodup_cons] at h
    simp only [compGo]
    rw [if_neg (fun e => h.1 (by rw [e]; exact List.mem_cons_self))]
    simp [ih h.2]
theorem comp_of {l : List Int} (h : l.Nodup) : (compI l).length = l.length := by
  cases l with
  | nil => rfl
  | cons x r => simp [compI, compGo_of h]
theorem sortI_idem (l : List Int) : sortI (sortI l) = sortI l := by
  have := sortI_sorted l
  unfold sortI at this ⊢
  exact List.mergeSort_of_pairwise (this.imp fun h => by simpa using h)
theorem sortI_nodup {l : List Int} (h : l.Nodup) : (sortI l).Nodup := (sortI_perm l).nodup_iff.2 h
theorem mem_sortI {l : List Int} {x : Int} : x ∈ sortI l ↔ x ∈ l := (sortI_perm l).mem_iff
/-- What a plan that may be is. -/
theorem checkS_ok {w : Wld} {p : Pln} (h : (checkS w p).2 = 0) : worldS w = 0 ∧ (∀ r ∈ p.routes, (runS w r.truck r.stops).2 = 0) ∧ (flatR p.routes).Nodup ∧ (checkS w p).1 = sumL (p.routes.map fun r => (runS w r.truck r.stops).1.cost) := by
  unfold checkS at h ⊢
  split at h
  · rename_i h1; exact absurd h h1
  rename_i h1
  rw [if_neg h1]
  split at h
  · simp at h
  rename_i h2
  rw [if_neg h2]
  split at h
  · rename_i h3; exact absurd h h3
  rename_i h3
  rw [if_neg h3]
  split at h
  · simp at h
  rename_i h4
  rw [if_neg h4]
  split at h
  · simp at h
  rename_i h5
  rw [if_neg h5]
  split at h
  · rename_i h6
    rw [if_pos h6]
    have ht := tripsGo_len (l := p.routes) (acc := []) (by simpa using h3)
    refine ⟨by simpa using h1, ht.1, ?_, ?_⟩
    · unfold twiceS at h5
      rw [sortI_idem] at h5
      have := comp_nodup (sortI_sorted _) (by simpa using h5)
      exact (sortI_perm _).nodup_iff.1 this
    · rw [sumS_ok h, ht.2]; simp
  · simp at h
theorem checkS_err {w : Wld} {p : Pln} (h : (checkS w p).2 ≠ 0) : (checkS w p).1 = 0 := by
  unfold checkS at h ⊢
  split
  · rfl
  · rename_i h1
    rw [if_neg h1] at h
    split
    · rfl
    · rename_i h2
      rw [if_neg h2] at h
      split
      · rfl
      · rename_i h3
        rw [if_neg h3] at h
        split
        · rfl
        · rename_i h4
          rw [if_neg h4] at h
          split
          · rfl
          · rename_i h5
            rw [if_neg h5] at h
            split
            · rename_i h6
              rw [if_pos h6] at h
              exact sumS_err h
            · rfl
/-- How far the trips go, at least. -/
def farT (w : Wld) (s : List Int) (l : List Rte) : Int := sumL (l.map fun r => sumL (r.stops.map (inO w s)) + backS w s)
theorem farT_flat {w : Wld} (h0 : worldS w = 0) {s : List Int} : ∀ l : List Rte, sumL ((flatR l).map (inO w s)) ≤ farT w s l ∧ (l ≠ [] → sumL ((flatR l).map (inO w s)) + backS w s ≤ farT w s l) := by
  have hb := backS_bound h0 (s := s)
  intro l
  induction l with
  | nil => simp [flatR, farT, sumL]
  | cons r rest ih =>
    have e : (flatR (r :: rest)).map (inO w s) = r.stops.map (inO w s) ++ (flatR rest).map (inO w s) := by simp [flatR]
    rw [e, sumL_append]
    simp only [farT, List.map_cons, sumL] at ih ⊢
    have := ih.1
    exact ⟨by omega, fun _ => by omega⟩
theorem cost_bound {w : Wld} (h0 : worldS w = 0) {s : List Int} {F R : Int} (hF : 0 ≤ F) (hR : 0 ≤ R) (ht : ∀ t ∈ w.trucks, F ≤ t.fixed ∧ R ≤ t.rate) : ∀ l : List Rte, (∀ r ∈ l, (runS w r.truck r.stops).2 = 0) → (flatR l).Nodup → (∀ id ∈ flatR l, id ∈ s) →
    R * farT w s l ≤ sumL (l.map fun r => (runS w r.truck r.stops).1.cost) ∧ (l ≠ [] → F + R * farT w s l ≤ sumL (l.map fun r => (runS w r.truck r.stops).1.cost)) := by
  have hb := backS_bound h0 (s := s)
  intro l
  induction l with
  | nil => intro _ _ _; simp [farT, sumL]
  | cons r rest ih =>
    intro hr hn hs
    have ef : flatR (r :: rest) = r.stops ++ flatR rest := by simp [flatR]
    rw [ef] at hn hs
    obtain ⟨n1, n2, _⟩ := List.nodup_append.1 hn
    obtain ⟨tr, htr, d, hc, hd⟩ := trip_dist (hr r List.mem_cons_self) (fun id hi => hs id (List.mem_append_left _ hi)) n1
    have i1 := (ih (fun x hx => hr x (List.mem_cons_of_mem _ hx)) n2 (fun id hi => hs id (List.mem_append_right _ hi))).1
    have hsum : 0 ≤ sumL (r.stops.map (inO w s)) := (sumL_bound (B := 1000000) (by decide) fun x hx => by
      obtain ⟨id, _, rfl⟩ := List.mem_map.1 hx
      exact inO_bound h0).1
    obtain ⟨D, hD⟩ : ∃ D, D = sumL (r.stops.map (inO w s)) + backS w s := ⟨_, rfl⟩
    have h1 := ht tr htr
    have hm : R * D ≤ tr.rate * d := Int.mul_le_mul h1.2 (by omega) (by omega) (by omega)
    have e2 : farT w s (r :: rest) = D + farT w s rest := by simp only [farT, List.map_cons, sumL]; omega
    have e3 : R * farT w s (r :: rest) = R * D + R * farT w s rest := by rw [e2, Int.mul_add]
    simp only [List.map_cons, sumL]
    rw [e3, hc]
    exact ⟨by omega, fun _ => by omega⟩
end Go.Abs
namespace Go.Abs
theorem ordersGo_none {os : List Ord} {s : List Int} (h : ∀ id ∈ s, ¬ findS os id < 0) : ordersGo os s [] ≠ none := by rw [ordersGo_some h]; simp
/-- What is made. -/
theorem makeS_ok {w : Wld} {ids : List Int} {x : Crt} (h : makeS w ids = (x, 0)) : worldS w = 0 ∧ (sortI ids).Nodup ∧
    ((sortI ids = [] ∧ x = ⟨[], [], 0, 0, 0, 0⟩) ∨ (sortI ids ≠ [] ∧ x = ⟨sortI ids, (sortI ids).map (inO w (sortI ids)), backS w (sortI ids), leastS Trk.rate w.trucks, leastS Trk.fixed w.trucks,
      worthS ((sortI ids).map (inO w (sortI ids))) (backS w (sortI ids)) (leastS Trk.rate w.trucks) (leastS Trk.fixed w.trucks)⟩)) := by
  unfold makeS at h
  split at h
  · rename_i h1; simp only [Prod.mk.injEq] at h; exact absurd h.2 h1
  rename_i h1
  split at h
  · simp at h
  rename_i h2
  have hn : (sortI ids).Nodup := comp_nodup (sortI_sorted _) (by rw [sortI_length]; exact h2)
  split at h
  · simp at h
  rename_i l hl
  obtain ⟨hle, _⟩ := ordersGo_eq hl
  simp only [List.nil_append] at hle
  refine ⟨by simpa using h1, hn, ?_⟩
  split at h
  · rename_i h3
    rw [hle, List.length_map] at h3
    have h4 := List.eq_nil_of_length_eq_zero h3
    simp only [Prod.mk.injEq, and_true] at h
    exact .inl ⟨h4, by rw [← h, h4]⟩
  · rename_i h3
    rw [hle, List.length_map] at h3
    simp only [Prod.mk.injEq, and_true] at h
    refine .inr ⟨fun e => h3 (by rw [e]; rfl), ?_⟩
    rw [← h, hle, fullS, ins_eq hn]
    rfl
theorem makeS_of {w : Wld} {ids : List Int} (h0 : worldS w = 0) (hn : ids.Nodup) (hf : ∀ id ∈ ids, ¬ findS w.orders id < 0) : (makeS w ids).2 = 0 := by
  unfold makeS
  rw [if_neg (by simp [h0]), if_neg (by rw [comp_of (sortI_nodup hn), sortI_length]; omega), ordersGo_some fun id hi => hf id (mem_sortI.1 hi)]
  simp only
  split <;> rfl
/-- What is made is within its bounds. -/
structure TopOk (w : Wld) (x : Crt) : Prop where
  inn : ∀ z ∈ x.inn, 0 ≤ z ∧ z ≤ 1000000
  back : 0 ≤ x.back ∧ x.back ≤ 1000000
  rate : 0 ≤ x.rate ∧ x.rate ≤ 1000
  fixed : 0 ≤ x.fixed ∧ x.fixed ≤ 1000000
  bound : x.bound = worthS x.inn x.back x.rate x.fixed
theorem makeS_top {w : Wld} {ids : List Int} {x : Crt} (h : makeS w ids = (x, 0)) : TopOk w x := by
  obtain ⟨h0, hn, h⟩ := makeS_ok h
  have hw := worldS_ok h0
  have hr : 0 ≤ leastS Trk.rate w.trucks ∧ leastS Trk.rate w.trucks ≤ 1000 := leastS_bound (by decide) fun t ht => (hw.trk t ht).rate
  have hx : 0 ≤ leastS Trk.fixed w.trucks ∧ leastS Trk.fixed w.trucks ≤ 1000000 := leastS_bound (by decide) fun t ht => (hw.trk t ht).fixed
  rcases h with ⟨_, rfl⟩ | ⟨_, rfl⟩
  · exact ⟨by simp, by simp, by simp, by simp, by decide⟩
  · refine ⟨fun z hz => ?_, backS_bound h0, hr, hx, rfl⟩
    obtain ⟨id, _, rfl⟩ := List.mem_map.1 hz
    exact inO_bound h0
theorem winsGo_le : ∀ {a b : List Int}, winsGo a b = true → a.length = b.length → (∀ x ∈ b, 0 ≤ x ∧ x ≤ 1000000) → (∀ x ∈ a, 0 ≤ x ∧ x ≤ 1000000) ∧ sumL a ≤ sumL b := by
  intro a
  induction a with
  | nil =>
    intro b _ hl _
    have : b = [] := List.eq_nil_of_length_eq_zero (by simpa using hl.symm)
    subst this
    exact ⟨by simp, by simp [sumL]⟩
  | cons x r ih =>
    intro b h hl hb
    cases b with
    | nil => simp at hl
    | cons y r' =>
      simp only [winsGo, Bool.and_eq_true, winS, decide_eq_true_eq] at h
      have h1 := hb y List.mem_cons_self
      obtain ⟨i1, i2⟩ := ih h.2 (by simpa using hl) fun z hz => hb z (List.mem_cons_of_mem _ hz)
      refine ⟨fun z hz => ?_, by simp only [sumL]; omega⟩
      rcases List.mem_cons.1 hz with rfl | hz
      · omega
      · exact i1 z hz
theorem winsGo_self : ∀ {a : List Int}, (∀ x ∈ a, 0 ≤ x ∧ x ≤ 1000000) → winsGo a a = true := by
  intro a
  induction a with
  | nil => intro _; rfl
  | cons x r ih =>
    intro h
    have h1 := h x List.mem_cons_self
    simp only [winsGo, Bool.and_eq_true, winS, decide_eq_true_eq]
    exact ⟨by omega, ih fun y hy => h y (List.mem_cons_of_mem _ hy)⟩
/-- A certificate that holds. -/
theorem holdsS_ok {w : Wld} {c : Crt} (h : holdsS w c = true) : ∃ x, makeS w c.ids = (x, 0) ∧ x.ids = c.ids ∧ c.inn.length = x.inn.length ∧ winsGo c.inn x.inn = true ∧ (0 ≤ c.back ∧ c.back ≤ x.back) ∧ (0 ≤ c.rate ∧ c.rate ≤ x.rate) ∧ (0 ≤ c.fixed ∧ c.fixed ≤ x.fixed) ∧ c.bound = worthS c.inn c.back c.rate c.fixed := by
  obtain ⟨⟨x, e⟩, hx⟩ : ∃ m, m = makeS w c.ids := ⟨_, rfl⟩
  unfold holdsS at h
  rw [← hx] at h ⊢
  simp only at h
  split at h
  · simp at h
  rename_i h1
  split at h
  · rename_i h2
    split at h
    · simp at h
    rename_i h3
    split at h
    · rename_i h4
      split at h
      · rename_i h5
        split at h
        · rename_i h6
          split at h
          · rename_i h7
            simp only [winS, decide_eq_true_eq] at h h5 h6 h7
            exact ⟨x, by rw [show e = 0 by simpa using h1], h2, by simpa using h3, h4, h5, h6, h7, h⟩
          · simp at h
        · simp at h
      · simp at h
    · simp at h
  · simp at h
/-- What holds is worth no more than what is made. -/
theorem bound_le {w : Wld} {c x : Crt} (hx : TopOk w x) (hlen : x.inn.length ≤ 1000000) (h1 : c.inn.length = x.inn.length) (h2 : winsGo c.inn x.inn = true) (h3 : 0 ≤ c.back ∧ c.back ≤ x.back) (h4 : 0 ≤ c.rate ∧ c.rate ≤ x.rate) (h5 : 0 ≤ c.fixed ∧ c.fixed ≤ x.fixed)
    (h6 : c.bound = worthS c.inn c.back c.rate c.fixed) : 0 ≤ c.bound ∧ c.bound ≤ x.bound := by
  obtain ⟨i1, i2⟩ := winsGo_le h2 h1 hx.inn
  have t1 := hx.back
  have t2 := hx.rate
  have t3 := hx.fixed
  rw [h6, hx.bound, worth_val i1 (by omega) (by omega) (by omega) (by omega), worth_val hx.inn hlen t1 t2 t3]
  have s1 := (sumL_bound (B := 1000000) (by decide) i1).1
  have m1 : 0 ≤ c.rate * (sumL c.inn + c.back) := Int.mul_nonneg h4.1 (by omega)
  have m2 : c.rate * (sumL c.inn + c.back) ≤ x.rate * (sumL x.inn + x.back) := Int.mul_le_mul h4.2 (by omega) (by omega) (by omega)
  omega
/-- What is made, of what a plan serves, is at most what it costs. -/
theorem made_le {w : Wld} {p : Pln} (h : (checkS w p).2 = 0) {ids : List Int} (hp : ids.Perm (flatR p.routes)) (hlen : ids.length ≤ 1000000) {x : Crt} (hx : makeS w ids = (x, 0)) : 0 ≤ x.bound ∧ x.bound ≤ (checkS w p).1 := by
  obtain ⟨h0, hr, hn, hc⟩ := checkS_ok h
  have ht := makeS_top hx
  obtain ⟨_, hn', hcase⟩ := makeS_ok hx
  have hw := worldS_ok h0
  have hsp : (sortI ids).Perm (flatR p.routes) := (sortI_perm ids).trans hp
  have hmem : ∀ id ∈ flatR p.routes, id ∈ sortI ids := fun id hi => hsp.mem_iff.2 hi
  rw [hc]
  rcases hcase with ⟨_, rfl⟩ | ⟨hne, rfl⟩
  · refine ⟨by simp, ?_⟩
    have := (cost_bound h0 (s := sortI ids) (F := 0) (R := 0) (by decide) (by decide) (fun t ht => ⟨(hw.trk t ht).fixed.1, (hw.trk t ht).rate.1⟩) p.routes hr hn hmem).1
    simpa using this
  · have hF := ht.fixed
    have hR := ht.rate
    simp only at hF hR
    have hrt : p.routes ≠ [] := fun e => by
      rw [e] at hsp
      have : (sortI ids) = [] := List.Perm.eq_nil (by simpa [flatR] using hsp)
      exact hne this
    have hcb := (cost_bound h0 (s := sortI ids) hF.1 hR.1 (fun t ht => ⟨leastS_le (f := Trk.fixed) ht, leastS_le (f := Trk.rate) ht⟩) p.routes hr hn hmem).2 hrt
    have hft := (farT_flat h0 (s := sortI ids) p.routes).2 hrt
    have hsum : sumL ((sortI ids).map (inO w (sortI ids))) = sumL ((flatR p.routes).map (inO w (sortI ids))) := sumL_perm (hsp.map _)
    have hb := ht.back
    have hi := ht.inn
    simp only at hb hi
    simp only
    rw [worth_val hi (by rw [List.length_map, sortI_length]; exact hlen) hb hR hF]
    have s1 := (sumL_bound (B := 1000000) (by decide) hi).1
    have m1 : 0 ≤ leastS Trk.rate w.trucks * (sumL ((sortI ids).map (inO w (sortI ids))) + backS w (sortI ids)) := Int.mul_nonneg hR.1 (by omega)
    have m2 : leastS Trk.rate w.trucks * (sumL ((sortI ids).map (inO w (sortI ids))) + backS w (sortI ids)) ≤ leastS Trk.rate w.trucks * farT w (sortI ids) p.routes := Int.mul_le_mul_of_nonneg_left (by omega) hR.1
    omega
end Go.Abs
namespace Go.Abs
theorem makeS_sort {w : Wld} {ids : List Int} : makeS w (sortI ids) = makeS w ids := by
  unfold makeS
  rw [sortI_idem, sortI_length]
theorem made_ids {w : Wld} {ids : List Int} {x : Crt} (h : makeS w ids = (x, 0)) : x.ids = sortI ids := by
  obtain ⟨_, _, hc⟩ := makeS_ok h
  rcases hc with ⟨h1, rfl⟩ | ⟨_, rfl⟩
  · exact h1.symm
  · rfl
theorem made_holds {w : Wld} {ids : List Int} {x : Crt} (h : makeS w ids = (x, 0)) : holdsS w x = true := by
  have ht := makeS_top h
  have hi := made_ids h
  have e : makeS w x.ids = (x, 0) := by rw [hi, makeS_sort]; exact h
  have t1 := ht.back
  have t2 := ht.rate
  have t3 := ht.fixed
  unfold holdsS
  rw [e]
  simp only [ne_eq, not_true_eq_false, if_false, if_true, winsGo_self ht.inn]
  rw [if_pos (by simp [winS]; omega), if_pos (by simp [winS]; omega), if_pos (by simp [winS]; omega)]
  simp [ht.bound]
theorem cost_nonneg {w : Wld} {p : Pln} : 0 ≤ (checkS w p).1 := by
  by_cases h : (checkS w p).2 = 0
  · obtain ⟨h0, hr, hn, hc⟩ := checkS_ok h
    have hw := worldS_ok h0
    rw [hc]
    have := (cost_bound h0 (s := flatR p.routes) (F := 0) (R := 0) (by decide) (by decide) (fun t ht => ⟨(hw.trk t ht).fixed.1, (hw.trk t ht).rate.1⟩) p.routes hr hn fun id h => h).1
    simpa using this
  · rw [checkS_err h]; exact Int.le_refl 0
theorem lessS_true {w : Wld} {c : Crt} {p : Pln} : lessS w c p = true := by
  unfold lessS
  split
  · rfl
  rename_i h1
  split
  · rfl
  split
  · simp [cost_nonneg]
  rename_i h3
  split
  · rename_i h4
    split
    · rename_i h5
      obtain ⟨x, hx, hi, hl, hw, hb, hr, hf, he⟩ := holdsS_ok h5
      have hlen : c.ids.length ≤ 100 ∧ c.inn.length ≤ 100 := by
        simp [large8S] at h1
        omega
      have h6 := made_le (by simpa using h3) (by rw [← h4]; exact sortI_perm _) (by omega) hx
      have h7 := bound_le (makeS_top hx) (by omega) hl hw hb hr hf he
      simp
      omega
    · simp [cost_nonneg]
  · simp [cost_nonneg]
theorem planS_true {w : Wld} {c : Crt} {p : Pln} : planS w p c = true := by
  unfold planS
  split
  · rfl
  rename_i h1
  split
  · rfl
  rename_i h2
  have l9 := large9_bound (by simpa using h2)
  obtain ⟨⟨x, e⟩, hx⟩ : ∃ m, m = makeS w (sortI (flatR p.routes)) := ⟨_, rfl⟩
  rw [← hx]
  simp only
  split
  · split
    · rfl
    · rename_i he
      have he : e = 0 := by simpa using he
      exact made_holds (by rw [← hx, he])
  rename_i h3
  have h3 : (checkS w p).2 = 0 := by simpa using h3
  obtain ⟨h0, hr, hn, _⟩ := checkS_ok h3
  have he : e = 0 := by
    have := makeS_of (ids := sortI (flatR p.routes)) h0 (sortI_nodup hn) (fun id hi => by
      rw [mem_sortI] at hi
      unfold flatR at hi
      obtain ⟨r, hrm, hid⟩ := List.mem_flatMap.1 hi
      exact (runS_ok (hr r hrm)).2.2.1 id hid)
    rw [← hx] at this
    exact this
  subst he
  rw [if_neg (by simp), if_pos (made_holds hx.symm)]
  have hlen : (sortI (flatR p.routes)).length ≤ 1000000 := by rw [sortI_length]; omega
  have hm := made_le h3 (sortI_perm _) hlen hx.symm
  rw [if_neg (by omega), if_neg (by omega)]
  split
  · rename_i h5
    obtain ⟨y, hy, hi, hl, hw, hb, hr', hf, hbnd⟩ := holdsS_ok h5
    simp only at hy hl hw hb hr' hf hbnd hi
    rw [← hx] at hy
    simp only [Prod.mk.injEq, and_true] at hy
    subst hy
    have hxl : x.inn.length ≤ 1000000 := by
      have := @makeS_inn w (sortI (flatR p.routes))
      rw [← hx] at this
      simp only at this
      omega
    have := bound_le (c := { c with ids := sortI (flatR p.routes) }) (makeS_top hx.symm) hxl hl hw hb hr' hf hbnd
    simp only at this
    simp
    omega
  · rfl
end Go.Abs
namespace Go.Abs
variable {P : Program}
/-- The context of what came in: nobody changes it. -/
def cx0 (w : World) : Cx := { w := w, im := fun k _ => k < w.heap.size, ρ := fun _ => none, us := fun _ => False }
def RelC (c : Cx) : List V → List Value → Prop
  | [], [] => True
  | x :: xs, v :: vs => Rel c x v ∧ RelC c xs vs
  | _, _ => False
theorem RelC.append {c : Cx} : ∀ {a b : List V} {u v : List Value}, RelC c a u → RelC c b v → RelC c (a ++ b) (u ++ v)
  | [], _, [], _, _, h => h
  | _ :: _, _, _ :: _, _, h1, h2 => ⟨h1.1, RelC.append h1.2 h2⟩
  | [], _, _ :: _, _, h, _ => h.elim
  | _ :: _, _, [], _, h, _ => h.elim
theorem RelC.length {c : Cx} : ∀ {a : List V} {u : List Value}, RelC c a u → a.length = u.length
  | [], [], _ => rfl
  | _ :: _, _ :: _, h => by simp [RelC.length h.2]
  | [], _ :: _, h => h.elim
  | _ :: _, [], h => h.elim
theorem RelC.get {c : Cx} : ∀ {a : List V} {u : List Value}, RelC c a u → ∀ i (h : i < a.length) (h' : i < u.length), Rel c a[i] u[i]
  | [], [], _, i, h, _ => by simp at h
  | _ :: _, _ :: _, h, 0, _, _ => h.1
  | _ :: _, _ :: _, h, i + 1, h1, h2 => RelC.get h.2 i (by simpa using h1) (by simpa using h2)
  | [], _ :: _, h, _, _, _ => h.elim
  | _ :: _, [], h, _, _, _ => h.elim
theorem addr_add (k o n : Nat) : (⟨k, o, none⟩ : Addr).add n = ⟨k, o + n, none⟩ := by
  by_cases h : n = 0
  · subst h; simp [Addr.add]
  · simp [Addr.add, h]
theorem addr_add2 {a : Addr} (h : a = ⟨a.block, a.off, none⟩) (n m : Nat) : (a.add n).add m = ⟨a.block, a.off + n + m, none⟩ := by
  obtain ⟨k, o, s⟩ := a
  simp only [Addr.mk.injEq, true_and] at h
  subst h
  rw [addr_add, addr_add]
/-- How a type is read: as something told by these cells. -/
def Reads (P : Program) (w : World) (t : TypeId) {α : Type} (enc : α → List V) (good : α → Prop) : Prop :=
  ∀ (H : Type) (en : TypeId × Value → H) (spare : Nat → Bool) (held : Bool) (fuel : Nat) (cs : List Value) (x : DataW H × List MemPlace), DataW.trod en P w 0 spare held fuel t cs = some x → (∀ k ∈ x.1.weights P t, k ≤ reachBytes) →
    ∃ a, good a ∧ RelC (cx0 w) (enc a) cs
theorem reads_map {w : World} {t : TypeId} {α β : Type} {enc : α → List V} {good : α → Prop} {enc' : β → List V} {good' : β → Prop} (g : α → β) (he : ∀ a, enc' (g a) = enc a) (hg : ∀ a, good a → good' (g a)) (h : Reads P w t enc good) : Reads P w t enc' good' := by
  intro H en spare held fuel cs x ht hw
  obtain ⟨a, h1, h2⟩ := h H en spare held fuel cs x ht hw
  exact ⟨g a, hg a h1, by rw [he]; exact h2⟩
theorem reads_int {w : World} {t : TypeId} (ht : P.underlying t = some (.int .i64)) : Reads P w t (fun n : Int => [.at (.int .i64 n)]) (fun n => n ≤ 9223372036854775807) := by
  intro H en spare held fuel cs x h _
  obtain ⟨n, rfl, rfl, hwf⟩ := DataW.trod_int ht h
  refine ⟨n, ?_, .at _, trivial⟩
  simp only [Lit.wf, Bool.and_eq_true, decide_eq_true_eq] at hwf
  exact hwf.2
theorem weightsAll_mem {H : Type} {e : TypeId} : ∀ {ds : List (DataW H)} {d : DataW H} {k : Nat}, d ∈ ds → k ∈ d.weights P e → k ∈ DataW.weightsAll P e ds := by
  intro ds
  induction ds with
  | nil => intro d k h; simp at h
  | cons y r ih =>
    intro d k h hk
    simp only [DataW.weightsAll, List.mem_append]
    rcases List.mem_cons.1 h with rfl | h
    · exact .inl hk
    · exact .inr (ih h hk)
theorem reads_slice {w : World} {t e : TypeId} {sz : Nat} (ht : P.underlying t = some (.slice e)) (hc : P.cellsOf e = sz) (hsz : 0 < sz) (hb : 8 ≤ P.bytesOf e) {α : Type} {enc : α → List V} {good : α → Prop} (hE : Reads P w e enc good) :
    Reads P w t (fun l : List α => [.row sz (l.map enc)]) (fun l => l.length ≤ 140737488355328 ∧ ∀ a ∈ l, good a) := by
  intro H en spare held fuel cs x h hw
  rcases DataW.trod_slice ht h with ⟨rfl, rfl⟩ | ⟨a, len, cap, elems, rest, n, _, rfl, rfl, _, hle, _, hel, hget, _, _⟩
  · refine ⟨[], ⟨by simp, by simp⟩, ?_, trivial⟩
    exact Rel.row (c := cx0 w) sz [] none 0 0 0 (fun _ _ => undef) (by simp) (by simp) (by simp) (by simp) (by simp)
  · have hw0 : len * 8 ≤ reachBytes := by
      have h1 := hw ((elems.length + rest.length) * P.bytesOf e) (by simp [DataW.weights, ht])
      have h2 : (elems.length + rest.length) * 8 ≤ (elems.length + rest.length) * P.bytesOf e := Nat.mul_le_mul_left _ hb
      omega
    have each : ∀ i : Fin len, ∃ b : α, good b ∧ ∃ us : List Value, w.cells? 0 (a.add (i.1 * sz)) sz = some us ∧ RelC (cx0 w) (enc b) us := fun i => by
      have hg := hget i.1 i.2
      rw [hc] at hg
      have hi : i.1 < elems.length := by rw [hel]; exact i.2
      rw [List.getElem?_eq_getElem hi] at hg
      cases hcs : w.cells? 0 (a.add (i.1 * sz)) sz with
      | none => rw [hcs] at hg; simp at hg
      | some us =>
        rw [hcs] at hg
        simp only [Option.bind_some] at hg
        obtain ⟨b, h1, h2⟩ := hE H en spare held n us elems[i.1] hg (fun k hk => hw k (by
          simp only [DataW.weights, ht, List.mem_cons, List.mem_append]
          exact .inr (.inl (weightsAll_mem (List.mem_map.2 ⟨_, List.getElem_mem hi, rfl⟩) hk))))
        exact ⟨b, h1, us, rfl, h2⟩
    obtain ⟨f, hf⟩ := Classical.axiomOfChoice each
    have hlen : (List.ofFn f).length = len := List.length_ofFn
    refine ⟨List.ofFn f, ⟨by simp only [hlen]; unfold reachBytes at hw0; omega, fun b hb' => ?_⟩, ?_, trivial⟩
    · obtain ⟨i, rfl⟩ := List.mem_ofFn.1 hb'
      exact (hf i).1
    · have hcell : ∀ (i : Nat) (hi : i < len) (j : Nat), j < (enc (f ⟨i, hi⟩)).length → ∃ u, w.cell? ((a.add (i * sz)).add j) = some u ∧ ∀ h : j < (enc (f ⟨i, hi⟩)).length, Rel (cx0 w) (enc (f ⟨i, hi⟩))[j] u := fun i hi j hj => by
        obtain ⟨us, h1, h2⟩ := (hf ⟨i, hi⟩).2
        have hl := h2.length
        obtain ⟨_, hul, hu⟩ := World.cells?_some h1
        have hj' : j < us.length := by omega
        have := hu j (by omega)
        rw [List.getElem?_eq_getElem hj'] at this
        exact ⟨us[j], this, fun h => h2.get j h hj'⟩
      have hsize : ∀ (i : Nat) (hi : i < len), (enc (f ⟨i, hi⟩)).length = sz := fun i hi => by
        obtain ⟨us, h1, h2⟩ := (hf ⟨i, hi⟩).2
        obtain ⟨_, hul, _⟩ := World.cells?_some h1
        rw [h2.length, hul]
      have hspot : 0 < len → a = ⟨a.block, a.off, none⟩ := fun hp => by
        obtain ⟨u, hu, _⟩ := hcell 0 hp 0 (by rw [hsize]; exact hsz)
        have := World.cell?_spot hu
        cases a
        simpa [Addr.add] using this
      have key := Rel.row (c := cx0 w) sz ((List.ofFn f).map enc) (some a) cap a.block a.off (fun i j => (w.cell? ⟨a.block, a.off + i * sz + j, none⟩).getD undef) (by simp; omega) (fun hp => by
        rw [← hspot (by simpa using hp)]) (fun i hi => by
        simp only [List.getElem_map, List.getElem_ofFn]
        exact hsize i (by simpa using hi)) (fun i hi j hj => by
        have hi' : i < len := by simpa using hi
        simp only [List.getElem_map, List.getElem_ofFn] at hj
        obtain ⟨u, hu, _⟩ := hcell i hi' j hj
        have hs := hspot (by omega)
        have e : (a.add (i * sz)).add j = ⟨a.block, a.off + i * sz + j, none⟩ := addr_add2 hs _ _
        rw [e] at hu
        refine ⟨by show w.cell? _ = _; rw [hu]; rfl, ?_⟩
        show a.block < w.heap.size
        simp only [World.cell?] at hu
        split at hu
        · rename_i hq; exact (Array.getElem?_eq_some_iff.1 hq).1
        · simp at hu) (fun i hi j hj => by
        have hi' : i < len := by simpa using hi
        simp only [List.getElem_map, List.getElem_ofFn] at hj ⊢
        obtain ⟨u, hu, hr⟩ := hcell i hi' j hj
        have hs := hspot (by omega)
        have e : (a.add (i * sz)).add j = ⟨a.block, a.off + i * sz + j, none⟩ := addr_add2 hs _ _
        rw [e] at hu
        simp only [hu, Option.getD_some]
        exact hr hj)
      simp only [List.length_map, hlen] at key
      exact key
/-- A struct's fields, from one on. -/
def Tail (P : Program) (w : World) (total : Nat) (L : List (Nat × TypeId)) (o : Nat) {α : Type} (enc : α → List V) (good : α → Prop) : Prop :=
  ∀ (H : Type) (en : TypeId × Value → H) (spare : Nat → Bool) (held : Bool) (n : Nat) (cs : List Value) (xs : List (DataW H × List MemPlace)), cs.length = total → xs.length = L.length →
    (∀ (i : Nat) (f : Nat × TypeId), L[i]? = some f → DataW.trod en P w 0 spare held n f.2 ((cs.drop f.1).take (P.cellsOf f.2)) = xs[i]?) → (∀ k ∈ DataW.weightsEach P (L.map (·.2)) (xs.map (·.1)), k ≤ reachBytes) →
    ∃ a, good a ∧ RelC (cx0 w) (enc a) (cs.drop o)
theorem tail_nil {w : World} {total : Nat} : Tail P w total [] total (fun _ : Unit => []) (fun _ => True) := by
  intro H en spare held n cs xs hl _ _ _
  refine ⟨(), trivial, ?_⟩
  rw [List.drop_eq_nil_of_le (by omega)]
  trivial
theorem tail_cons {w : World} {total o n : Nat} {t : TypeId} {L : List (Nat × TypeId)} {α β : Type} {enc : α → List V} {good : α → Prop} {enc' : β → List V} {good' : β → Prop} (hn : P.cellsOf t = n) (hf : Reads P w t enc good) (hL : Tail P w total L (o + n) enc' good') :
    Tail P w total ((o, t) :: L) o (fun p : α × β => enc p.1 ++ enc' p.2) (fun p => good p.1 ∧ good' p.2) := by
  intro H en spare held m cs xs hl hxl hx hw
  cases xs with
  | nil => simp at hxl
  | cons y ys =>
    have h0 := hx 0 (o, t) rfl
    simp only [List.getElem?_cons_zero] at h0
    obtain ⟨a, g1, r1⟩ := hf H en spare held m _ y h0 (fun k hk => hw k (by simp only [List.map_cons, DataW.weightsEach, List.mem_append]; exact .inl hk))
    obtain ⟨b, g2, r2⟩ := hL H en spare held m cs ys hl (by simpa using hxl) (fun i f hi => by simpa using hx (i + 1) f (by simpa using hi)) (fun k hk => hw k (by simp only [List.map_cons, DataW.weightsEach, List.mem_append]; exact .inr hk))
    refine ⟨(a, b), ⟨g1, g2⟩, ?_⟩
    have e : cs.drop o = (cs.drop o).take n ++ cs.drop (o + n) := by rw [← List.drop_drop, List.take_append_drop]
    rw [e]
    rw [hn] at r1
    exact r1.append r2
theorem reads_struct {w : World} {t : TypeId} {L : List (Nat × TypeId)} {total : Nat} (hk : TkOk P t (.struct L)) (hc : P.cellsOf t = total) {α : Type} {enc : α → List V} {good : α → Prop} (hT : Tail P w total L 0 enc good) : Reads P w t enc good := by
  obtain ⟨fs, hfs, hL⟩ := hk
  intro H en spare held fuel cs x h hw
  obtain ⟨xs, n, _, rfl, hl, hxl, hx⟩ := DataW.trod_struct hfs h
  subst hL
  obtain ⟨a, g, r⟩ := hT H en spare held n cs xs (by rw [hl, hc]) (by simpa using hxl) (fun i f hi => by
    rw [List.getElem?_map] at hi
    cases hq : fs.toList[i]? with
    | none => rw [hq] at hi; simp at hi
    | some y =>
      rw [hq] at hi
      simp only [Option.map_some, Option.some.injEq] at hi
      subst hi
      exact hx i y (by simpa using hq)) (fun k hk => hw k (by
    simp only [DataW.weights, hfs]
    rw [List.map_map] at hk
    exact hk))
  exact ⟨a, g, by simpa using r⟩
theorem cells_of {t : Nat} {ti : TI} (h : TiOk P t ti) : P.cellsOf t = ti.size ∧ P.bytesOf t = ti.bytes := by
  obtain ⟨i, h1, h2, h3, _⟩ := h.info
  simp [Program.cellsOf, Program.bytesOf, h1, h2, h3]
end Go.Abs
namespace Go.Abs
open Go.ChangeShapes Go.RowKit
variable {P : Program}
theorem mem_cx0 (w : World) : MemRel (cx0 w) [] where
  blk := fun b => by simp [Mem.get, BlkRel, cx0]
  inj := fun b b' k h => by simp [cx0] at h
  big := fun b _ => rfl
  imlt := fun k o h => h
/-- A contract that answers true, of what came in: it changes nothing. -/
theorem calls_true {f : FuncId} {xs : List V} {n : Nat} (hs : Sound P f xs 0 [] (.at (.bool true)) [] n) (w : World) (vs : Array Value) (hr : RelL (cx0 w) xs vs) :
    Calls P f vs w fun e w' => e = .returned (.bool true) ∧ Below w.heap.size w w' := by
  refine Calls.mono (hs.2 (cx0 w) vs (mem_cx0 w) (fun b h => h.elim) hr) fun e w' hp => ?_
  obtain ⟨v, c', rfl, rfl, hn, _, hrel⟩ := hp
  cases hrel
  have he := hn.evo
  exact ⟨rfl, he.os, he.tape, he.output, he.size, fun k hk => he.same k hk (fun ⟨b, hb⟩ => by simp [cx0] at hb)⟩
/-- A struct that came in. -/
theorem arg_agg {H : Type} {en : TypeId × Value → H} {w : World} {spare : Nat → Bool} {held : Bool} {t : TypeId} {v : Value} {d : DataW H} {ps : List MemPlace} {α : Type} {enc : α → List V} {good : α → Prop} {base : Nat}
    (hst : ∃ fs, P.underlying t = some (.struct fs)) (hok : Value.okWide P w .any base t v) (h : DataW.Trod en P w 0 spare held t v d ps) (hw : ∀ k ∈ d.weights P t, k ≤ reachBytes) (hR : Reads P w t enc good) :
    ∃ a, good a ∧ Rel (cx0 w) (.agg (enc a)) v := by
  obtain ⟨fs, hfs⟩ := hst
  unfold Value.okWide at hok
  rw [hfs] at hok
  obtain ⟨cs, rfl, _, _⟩ := hok
  obtain ⟨fuel, hf⟩ := h
  obtain ⟨a, h1, h2⟩ := hR H en spare held fuel _ (d, ps) hf hw
  refine ⟨a, h1, .agg _ _ ?_ fun i hi hi' => ?_⟩
  · have := h2.length
    simpa [Value.cells] using this
  · have := h2.get i hi (by simpa [Value.cells] using hi')
    simpa [Value.cells] using this
end Go.Abs
