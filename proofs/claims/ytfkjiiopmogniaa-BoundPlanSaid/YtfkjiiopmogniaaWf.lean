/- Contracts of the functions of layer 12, each walked once over the abstract machine. -/
import Derived.Test.YtfkjiiopmogniaaWe
import Derived.Test.YtfkjiiopmogniaaAb5
import Derived.Test.YtfkjiiopmogniaaRows
import Derived.ProofKit
namespace L12
open Go Go.Abs Go.Proofs
set_option maxRecDepth 100000
theorem boundLess_ok {w : Wld} (hw : WOk w) {c : Crt} {p : Pln} (hu : LOk p.unserved.length) (hrt : LOk p.routes.length) (hst : ∀ r ∈ p.routes, LOk r.stops.length) {r : Bool} (hr : r = lessS w c p) :
    Sound Try.prog 3 [.agg (encW w), .agg (encC c), .agg (encP p)] 0 [] (.at (.bool r)) [] 0 := by
  refine sound_ofL tbl_ok mix Try.func3 rfl rfl (of_decide_eq_true rfl) ?_
  have c1 := awake_ok
  obtain ⟨b1, hb1⟩ : ∃ x, x = (large8S w c.ids.length || decide (100 < c.inn.length)) := ⟨_, rfl⟩
  have c2 := large12_ok hb1
  obtain ⟨b2, hb2⟩ : ∃ x, x = large9S p := ⟨_, rfl⟩
  have c3 := large9_ok hu hrt hst hb2
  obtain ⟨cost, e, hce⟩ : ∃ x y, (x, y) = checkS w p := ⟨_, _, rfl⟩
  have c4 := check_ok hw hu hce
  obtain ⟨sv, hsv⟩ : ∃ x, x = sortI (flatR p.routes) := ⟨_, rfl⟩
  have l9 := fun h : b2 = false => large9_bound (hb2 ▸ h)
  have lsv : sv.length = (flatR p.routes).length := by rw [hsv, sortI_length]
  obtain ⟨ev, hev⟩ : ∃ x, x = sv.map cellI := ⟨_, rfl⟩
  have c5 := fun h => @served_ok p hrt h ev (hsv ▸ hev)
  obtain ⟨b3, hb3⟩ : ∃ x, x = decide (sv = c.ids) := ⟨_, rfl⟩
  obtain ⟨ei, hei⟩ : ∃ x, x = c.ids.map cellI := ⟨_, rfl⟩
  have c6 := fun h => same9_ok hev hei h hb3
  obtain ⟨b4, hb4⟩ : ∃ x, x = holdsS w c := ⟨_, rfl⟩
  have c7 := fun h1 h2 => @holds_ok w hw c h1 h2 b4 hb4
  have l8 : b1 = false → c.ids.length ≤ 1000000 ∧ c.inn.length ≤ 1000000 := fun h => by
    rw [h] at hb1
    simp [large8S] at hb1
    omega
  have hb3' : (sv = c.ids) ↔ b3 = true := by rw [hb3]; simp
  unfold lessS at hr
  rw [← hb1, ← hb2, ← hce, ← hsv, ← hb4] at hr
  simp only [hb3'] at hr
  clear hb1 hb2 hce hb3 hb3' hb4 hsv hev hu hrt hst
  unfold encC encP encW at *
  rw [← hei] at c2 c7 ⊢
  clear hei
  generalize w.dist.map cellI = ed at *
  generalize w.time.map cellI = et at *
  generalize w.orders.map encO = eo at *
  generalize w.trucks.map encT = ek at *
  generalize w.n = wn at *
  generalize p.routes.map encR = er at *
  generalize p.unserved.map cellI = eu at *
  generalize c.inn.map cellI = en at *
  obtain ⟨ci, cn, cb, cr, cf, cw⟩ := c
  simp only at *
  obtain ⟨d1, hd1⟩ : ∃ d, d = decide (0 ≤ cost) := ⟨_, rfl⟩
  obtain ⟨d2, hd2⟩ : ∃ d, d = decide (cw ≤ cost) := ⟨_, rfl⟩
  obtain ⟨d3, hd3⟩ : ∃ d, d = decide (0 ≤ cw) := ⟨_, rfl⟩
  rw [← hd1, ← hd2, ← hd3] at hr
  generalize Try.prog = P at *
  generalize hA : Ar.std = A
  cbv
  repeat refine NeedW.mk trivial ?_
  have g1 : A.le 0 cost = d1 := by subst hA; exact hd1.symm
  have g2 : A.le cw cost = d2 := by subst hA; exact hd2.symm
  have g3 : A.le 0 cw = d3 := by subst hA; exact hd3.symm
  clear hd1 hd2 hd3
  refine call0 c1 rfl rfl ?_
  cbv
  repeat refine NeedW.mk trivial ?_
  split
  · rename_i h
    exact absurd h (by subst hA; decide)
  cbv
  repeat refine NeedW.mk trivial ?_
  refine call0 c2 rfl rfl ?_
  cbv
  repeat refine NeedW.mk trivial ?_
  split <;> cbv
  rotate_left
  · rename_i h
    have h : b1 = true := by cases b1 <;> simp_all
    rw [if_pos h] at hr
    repeat refine NeedW.mk trivial ?_
    refine .mk { t := [(6, .at (.bool r))], m := [], nx := 0 } (le_of hA (mv := []) (τ := []) ?_) ?_
    · cbv; simp [hr]
    · cbv
      refine .mk rfl ?_
      trivial
  rename_i h
  have h : b1 = false := by cases b1 <;> simp_all
  rw [if_neg (by simp [h])] at hr
  repeat refine NeedW.mk trivial ?_
  refine call0 c3 rfl rfl ?_
  cbv
  repeat refine NeedW.mk trivial ?_
  split <;> cbv
  · rename_i g
    have g : b2 = true := by subst hA; cases b2 <;> simp_all [Ar.std]
    rw [if_pos g] at hr
    repeat refine NeedW.mk trivial ?_
    refine .mk { t := [(6, .at (.bool r))], m := [], nx := 0 } (le_of hA (mv := []) (τ := []) ?_) ?_
    · cbv; simp [hr]
    · cbv
      refine .mk rfl ?_
      trivial
  rename_i g
  have g : b2 = false := by subst hA; cases b2 <;> simp_all [Ar.std]
  rw [if_neg (by simp [g])] at hr
  have l9' := l9 g
  have l8' := l8 h
  repeat refine NeedW.mk trivial ?_
  refine call0 c4 rfl rfl ?_
  cbv
  repeat refine NeedW.mk trivial ?_
  refine .mk rfl ?_
  cbv
  repeat refine NeedW.mk trivial ?_
  split <;> cbv
  rotate_left
  · rename_i k
    have k : e ≠ 0 := by subst hA; simpa [Ar.std] using k
    rw [if_pos k] at hr
    repeat refine NeedW.mk trivial ?_
    refine .mk { t := [(6, .at (.bool r))], m := [], nx := 0 } (le_of hA (mv := []) (τ := []) ?_) ?_
    · cbv; subst hA; simp only [Ar.std] at *; simp_all
    · cbv
      refine .mk rfl ?_
      trivial
  rename_i k
  have k : e = 0 := by subst hA; simpa [Ar.std] using k
  rw [if_neg (by simp [k])] at hr
  repeat refine NeedW.mk trivial ?_
  refine call0 (c5 (by omega)) rfl rfl ?_
  cbv
  repeat refine NeedW.mk trivial ?_
  refine call0 (c6 (by show sv.length ≤ _; omega)) rfl rfl ?_
  cbv
  repeat refine NeedW.mk trivial ?_
  split <;> cbv
  rotate_left
  · rename_i q
    have q : b3 = false := by subst hA; cases b3 <;> simp_all [Ar.std]
    rw [if_neg (by simp [q])] at hr
    repeat refine NeedW.mk trivial ?_
    refine .mk { t := [(6, .at (.bool r))], m := [], nx := 0 } (le_of hA (mv := []) (τ := []) ?_) ?_
    · cbv; subst hA; simp only [Ar.std] at *; simp_all
    · cbv
      refine .mk rfl ?_
      trivial
  rename_i q
  have q : b3 = true := by subst hA; cases b3 <;> simp_all [Ar.std]
  rw [if_pos q] at hr
  repeat refine NeedW.mk trivial ?_
  refine call0 (c7 l8'.1 l8'.2) rfl rfl ?_
  cbv
  repeat refine NeedW.mk trivial ?_
  split <;> cbv
  · rename_i y
    have y : b4 = false := by subst hA; cases b4 <;> simp_all [Ar.std]
    rw [if_neg (by simp [y])] at hr
    repeat refine NeedW.mk trivial ?_
    refine .mk { t := [(6, .at (.bool r))], m := [], nx := 0 } (le_of hA (mv := []) (τ := []) ?_) ?_
    · cbv; subst hA; simp only [Ar.std] at *; simp_all
    · cbv
      refine .mk rfl ?_
      trivial
  rename_i y
  have y : b4 = true := by subst hA; cases b4 <;> simp_all [Ar.std]
  rw [if_pos y] at hr
  repeat refine NeedW.mk trivial ?_
  split <;> cbv
  · rename_i z
    have z : d2 = true := by rw [← g2]; exact z
    repeat refine NeedW.mk trivial ?_
    refine .mk { t := [(6, .at (.bool r))], m := [], nx := 0 } (le_of hA (mv := []) (τ := []) ?_) ?_
    · cbv; subst hA; simp only [Ar.std] at *; simp_all
    · cbv
      refine .mk rfl ?_
      trivial
  · rename_i z
    have z : d2 = false := by rw [← g2]; simpa using z
    repeat refine NeedW.mk trivial ?_
    refine .mk { t := [(6, .at (.bool r))], m := [], nx := 0 } (le_of hA (mv := []) (τ := []) ?_) ?_
    · cbv; subst hA; simp only [Ar.std] at *; simp_all
    · cbv
      refine .mk rfl ?_
      trivial
theorem boundPlan_ok {w : Wld} (hw : WOk w) {c : Crt} {p : Pln} (hu : LOk p.unserved.length) (hrt : LOk p.routes.length) (hst : ∀ r ∈ p.routes, LOk r.stops.length) {r : Bool} (hr : r = planS w p c) :
    Sound Try.prog 4 [.agg (encW w), .agg (encP p), .agg (encC c)] 0 [] (.at (.bool r)) [] 0 := by
  refine sound_ofL tbl_ok mix Try.func4 rfl rfl (of_decide_eq_true rfl) ?_
  have c1 := awake_ok
  obtain ⟨b1, hb1⟩ : ∃ x, x = (large8S w c.ids.length || decide (100 < c.inn.length)) := ⟨_, rfl⟩
  have c2 := large12_ok hb1
  obtain ⟨b2, hb2⟩ : ∃ x, x = large9S p := ⟨_, rfl⟩
  have c3 := large9_ok hu hrt hst hb2
  obtain ⟨cost, e, hce⟩ : ∃ x y, (x, y) = checkS w p := ⟨_, _, rfl⟩
  have c4 := check_ok hw hu hce
  obtain ⟨sv, hsv⟩ : ∃ x, x = sortI (flatR p.routes) := ⟨_, rfl⟩
  have l9 := fun h : b2 = false => large9_bound (hb2 ▸ h)
  have lsv : sv.length = (flatR p.routes).length := by rw [hsv, sortI_length]
  obtain ⟨ev, hev⟩ : ∃ x, x = sv.map cellI := ⟨_, rfl⟩
  have c5 := fun h => @served_ok p hrt h ev (hsv ▸ hev)
  obtain ⟨x, xe, hx⟩ : ∃ q e, (q, e) = makeS w sv := ⟨_, _, rfl⟩
  have c6 := fun h => @make_ok w hw sv h ev hev x xe hx _ _ rfl rfl
  have lx1 := @makeS_ids w sv
  have lx2 := @makeS_inn w sv
  rw [← hx] at lx1 lx2
  obtain ⟨b3, hb3⟩ : ∃ q, q = holdsS w x := ⟨_, rfl⟩
  have c7 := fun h1 h2 => @holds_ok w hw x h1 h2 b3 hb3
  obtain ⟨b4, hb4⟩ : ∃ q, q = holdsS w { c with ids := sv } := ⟨_, rfl⟩
  have c8 := fun h1 h2 => @holds_ok w hw { c with ids := sv } h1 h2 b4 hb4
  have l8 : b1 = false → c.ids.length ≤ 1000000 ∧ c.inn.length ≤ 1000000 := fun h => by
    rw [h] at hb1
    simp [large8S] at hb1
    omega
  unfold planS at hr
  rw [← hb1, ← hb2, ← hce, ← hsv, ← hx, ← hb3, ← hb4] at hr
  clear hb1 hb2 hce hb3 hb4 hsv hx hu hrt hst
  obtain ⟨ci, cn, cb, cr, cf, cw⟩ := c
  obtain ⟨xi, xn, xb, xr, xf, xw⟩ := x
  unfold encC encP encW at *
  simp only at *
  rw [← hev] at c8
  clear hev
  generalize ci.map cellI = ei at *
  generalize w.dist.map cellI = ed at *
  generalize w.time.map cellI = et at *
  generalize w.orders.map encO = eo at *
  generalize w.trucks.map encT = ek at *
  generalize w.n = wn at *
  generalize p.routes.map encR = er at *
  generalize p.unserved.map cellI = eu at *
  generalize cn.map cellI = en at *
  generalize xi.map cellI = yi at *
  generalize xn.map cellI = yn at *
  obtain ⟨d1, hd1⟩ : ∃ d, d = decide (cost < xw) := ⟨_, rfl⟩
  obtain ⟨d2, hd2⟩ : ∃ d, d = decide (xw < 0) := ⟨_, rfl⟩
  obtain ⟨d3, hd3⟩ : ∃ d, d = decide (cw ≤ xw) := ⟨_, rfl⟩
  have hr : r = if b1 then true else if b2 then true else if e ≠ 0 then (if xe ≠ 0 then true else b3) else if xe ≠ 0 then false else if b3 then (if d1 then false else if d2 then false else if b4 then d3 else true) else false := by
    rw [hr, hd1, hd2, hd3]; simp
  generalize Try.prog = P at *
  generalize hA : Ar.std = A
  cbv
  repeat refine NeedW.mk trivial ?_
  have g1 : A.lt cost xw = d1 := by subst hA; exact hd1.symm
  have g2 : A.lt xw 0 = d2 := by subst hA; exact hd2.symm
  have g3 : A.le cw xw = d3 := by subst hA; exact hd3.symm
  clear hd1 hd2 hd3
  refine call0 c1 rfl rfl ?_
  cbv
  repeat refine NeedW.mk trivial ?_
  split
  · rename_i h
    exact absurd h (by subst hA; decide)
  cbv
  repeat refine NeedW.mk trivial ?_
  refine call0 c2 rfl rfl ?_
  cbv
  repeat refine NeedW.mk trivial ?_
  split <;> cbv
  rotate_left
  · rename_i h
    have h : b1 = true := by cases b1 <;> simp_all
    rw [if_pos h] at hr
    repeat refine NeedW.mk trivial ?_
    refine .mk { t := [(6, .at (.bool r))], m := [], nx := 0 } (le_of hA (mv := []) (τ := []) ?_) ?_
    · cbv; simp [hr]
    · cbv
      refine .mk rfl ?_
      trivial
  rename_i h
  have h : b1 = false := by cases b1 <;> simp_all
  rw [if_neg (by simp [h])] at hr
  repeat refine NeedW.mk trivial ?_
  refine call0 c3 rfl rfl ?_
  cbv
  repeat refine NeedW.mk trivial ?_
  split <;> cbv
  · rename_i g
    have g : b2 = true := by subst hA; cases b2 <;> simp_all [Ar.std]
    rw [if_pos g] at hr
    repeat refine NeedW.mk trivial ?_
    refine .mk { t := [(6, .at (.bool r))], m := [], nx := 0 } (le_of hA (mv := []) (τ := []) ?_) ?_
    · cbv; simp [hr]
    · cbv
      refine .mk rfl ?_
      trivial
  rename_i g
  have g : b2 = false := by subst hA; cases b2 <;> simp_all [Ar.std]
  rw [if_neg (by simp [g])] at hr
  have l9' := l9 g
  have l8' := l8 h
  repeat refine NeedW.mk trivial ?_
  refine call0 (c5 (by omega)) rfl rfl ?_
  cbv
  repeat refine NeedW.mk trivial ?_
  refine call0 (c6 (by omega)) rfl rfl ?_
  cbv
  repeat refine NeedW.mk trivial ?_
  refine call0 c4 rfl rfl ?_
  cbv
  repeat refine NeedW.mk trivial ?_
  split <;> cbv
  · rename_i k
    have k : e ≠ 0 := by subst hA; simpa [Ar.std] using k
    rw [if_pos k] at hr
    repeat refine NeedW.mk trivial ?_
    split <;> cbv
    · rename_i q
      have q : xe = 0 := by subst hA; simpa [Ar.std] using q
      rw [if_neg (by simp [q])] at hr
      repeat refine NeedW.mk trivial ?_
      refine call0 (c7 (by omega) (by omega)) rfl rfl ?_
      cbv
      repeat refine NeedW.mk trivial ?_
      repeat refine NeedW.mk trivial ?_
      refine .mk { t := [(6, .at (.bool r))], m := [], nx := 0 } (le_of hA (mv := []) (τ := []) ?_) ?_
      · cbv; subst hA; simp only [Ar.std] at *; simp_all
      · cbv
        refine .mk rfl ?_
        trivial
    · rename_i q
      have q : xe ≠ 0 := by subst hA; simpa [Ar.std] using q
      rw [if_pos q] at hr
      repeat refine NeedW.mk trivial ?_
      refine .mk { t := [(6, .at (.bool r))], m := [], nx := 0 } (le_of hA (mv := []) (τ := []) ?_) ?_
      · cbv; subst hA; simp only [Ar.std] at *; simp_all
      · cbv
        refine .mk rfl ?_
        trivial
  rename_i k
  have k : e = 0 := by subst hA; simpa [Ar.std] using k
  rw [if_neg (by simp [k])] at hr
  repeat refine NeedW.mk trivial ?_
  split <;> cbv
  rotate_left
  · rename_i q
    have q : xe ≠ 0 := by subst hA; simpa [Ar.std] using q
    rw [if_pos q] at hr
    repeat refine NeedW.mk trivial ?_
    refine .mk { t := [(6, .at (.bool r))], m := [], nx := 0 } (le_of hA (mv := []) (τ := []) ?_) ?_
    · cbv; subst hA; simp only [Ar.std] at *; simp_all
    · cbv
      refine .mk rfl ?_
      trivial
  rename_i q
  have q : xe = 0 := by subst hA; simpa [Ar.std] using q
  rw [if_neg (by simp [q])] at hr
  repeat refine NeedW.mk trivial ?_
  refine call0 (c7 (by omega) (by omega)) rfl rfl ?_
  cbv
  repeat refine NeedW.mk trivial ?_
  split <;> cbv
  rotate_left
  · rename_i y
    have y : b3 = false := by clear hr c1 c2 c3 c4 c5 c6 c7 c8; subst hA; cases b3 <;> simp_all [Ar.std]
    rw [if_neg (by simp [y])] at hr
    repeat refine NeedW.mk trivial ?_
    refine .mk { t := [(6, .at (.bool r))], m := [], nx := 0 } (le_of hA (mv := []) (τ := []) ?_) ?_
    · cbv; subst hA; simp only [Ar.std] at *; simp_all
    · cbv
      refine .mk rfl ?_
      trivial
  rename_i y
  have y : b3 = true := by clear hr c1 c2 c3 c4 c5 c6 c7 c8; subst hA; cases b3 <;> simp_all [Ar.std]
  rw [if_pos y] at hr
  repeat refine NeedW.mk trivial ?_
  split <;> cbv
  rotate_left
  · rename_i u
    have u : d1 = true := by clear hr c1 c2 c3 c4 c5 c6 c7 c8; subst hA; cases d1 <;> simp_all [Ar.std] <;> omega
    rw [if_pos u] at hr
    repeat refine NeedW.mk trivial ?_
    refine .mk { t := [(6, .at (.bool r))], m := [], nx := 0 } (le_of hA (mv := []) (τ := []) ?_) ?_
    · cbv; subst hA; simp only [Ar.std] at *; simp_all
    · cbv
      refine .mk rfl ?_
      trivial
  rename_i u
  have u : d1 = false := by clear hr c1 c2 c3 c4 c5 c6 c7 c8; subst hA; cases d1 <;> simp_all [Ar.std] <;> omega
  rw [if_neg (by simp [u])] at hr
  repeat refine NeedW.mk trivial ?_
  split <;> cbv
  · rename_i v
    have v : d2 = true := by clear hr c1 c2 c3 c4 c5 c6 c7 c8; subst hA; cases d2 <;> simp_all [Ar.std] <;> omega
    rw [if_pos v] at hr
    repeat refine NeedW.mk trivial ?_
    refine .mk { t := [(6, .at (.bool r))], m := [], nx := 0 } (le_of hA (mv := []) (τ := []) ?_) ?_
    · cbv; subst hA; simp only [Ar.std] at *; simp_all
    · cbv
      refine .mk rfl ?_
      trivial
  rename_i v
  have v : d2 = false := by clear hr c1 c2 c3 c4 c5 c6 c7 c8; subst hA; cases d2 <;> simp_all [Ar.std] <;> omega
  rw [if_neg (by simp [v])] at hr
  repeat refine NeedW.mk trivial ?_
  trace_state
  refine call0 (c8 (by omega) l8'.2) rfl rfl ?_
  cbv
  repeat refine NeedW.mk trivial ?_
  split <;> cbv
  · rename_i z
    have z : b4 = true := by clear hr c1 c2 c3 c4 c5 c6 c7 c8; subst hA; cases b4 <;> simp_all [Ar.std]
    rw [if_pos z] at hr
    repeat refine NeedW.mk trivial ?_
    trace_state
    repeat refine NeedW.mk trivial ?_
    refine .mk { t := [(6, .at (.bool r))], m := [], nx := 0 } (le_of hA (mv := []) (τ := []) ?_) ?_
    · cbv; subst hA; simp only [Ar.std] at *; simp_all
    · cbv
      refine .mk rfl ?_
      trivial
  · rename_i z
    have z : b4 = false := by clear hr c1 c2 c3 c4 c5 c6 c7 c8; subst hA; cases b4 <;> simp_all [Ar.std]
    rw [if_neg (by simp [z])] at hr
    repeat refine NeedW.mk trivial ?_
    refine .mk { t := [(6, .at (.bool r))], m := [], nx := 0 } (le_of hA (mv := []) (τ := []) ?_) ?_
    · cbv; subst hA; simp only [Ar.std] at *; simp_all
    · cbv
      refine .mk rfl ?_
      trivial
end L12
namespace L12
open Go Go.Abs Go.Proofs
set_option maxRecDepth 100000
variable {w : World}
theorem rd_int : Reads Try.prog w 3 (fun n : Int => [V.at (.int .i64 n)]) (fun n => n ≤ 9223372036854775807) := reads_int tok3.k
theorem rd_i64 : Reads Try.prog w 2 (fun n : Int => [V.at (.int .i64 n)]) (fun n => n ≤ 9223372036854775807) := reads_int tok2.k
theorem rd_ints : Reads Try.prog w 29 (fun l : List Int => [V.row 1 (l.map cellI)]) (fun l => l.length ≤ 140737488355328) :=
  reads_map id (fun _ => rfl) (by intro _ h; exact h.1) (reads_slice tok29.k (cells_of tok3).1 (by decide) (by rw [(cells_of tok3).2]; decide) rd_int)
theorem rd_i64s : Reads Try.prog w 22 (fun l : List Int => [V.row 1 (l.map cellI)]) (fun l => l.length ≤ 140737488355328) :=
  reads_map id (fun _ => rfl) (by intro _ h; exact h.1) (reads_slice tok22.k (cells_of tok2).1 (by decide) (by rw [(cells_of tok2).2]; decide) rd_i64)
theorem rd_area : Reads Try.prog w 24 (fun p : Int × List Int × List Int × Unit => [V.at (.int .i64 p.1), .row 1 (p.2.1.map cellI), .row 1 (p.2.2.1.map cellI)]) (fun p => p.1 ≤ 9223372036854775807 ∧ p.2.1.length ≤ 140737488355328 ∧ p.2.2.1.length ≤ 140737488355328) :=
  reads_map id (fun _ => rfl) (by intro _ h; exact ⟨h.1, h.2.1, h.2.2.1⟩) (reads_struct tok24.k (cells_of tok24).1
    (tail_cons (cells_of tok3).1 rd_int (tail_cons (cells_of tok22).1 rd_i64s (tail_cons (cells_of tok22).1 rd_i64s tail_nil))))
theorem rd_order : Reads Try.prog w 48 encO (fun _ => True) :=
  reads_map (fun p : Int × Int × Int × Int × Int × Int × Int × Int × Unit => (⟨p.1, p.2.1, p.2.2.1, p.2.2.2.1, p.2.2.2.2.1, p.2.2.2.2.2.1, p.2.2.2.2.2.2.1, p.2.2.2.2.2.2.2.1⟩ : Ord)) (fun _ => rfl) (fun _ _ => trivial) (reads_struct tok48.k (cells_of tok48).1
    (tail_cons (cells_of tok3).1 rd_int (tail_cons (cells_of tok3).1 rd_int (tail_cons (cells_of tok3).1 rd_int (tail_cons (cells_of tok2).1 rd_i64 (tail_cons (cells_of tok2).1 rd_i64 (tail_cons (cells_of tok2).1 rd_i64 (tail_cons (cells_of tok2).1 rd_i64 (tail_cons (cells_of tok2).1 rd_i64 tail_nil)))))))))
theorem rd_truck : Reads Try.prog w 50 encT (fun _ => True) :=
  reads_map (fun p : Int × Int × Int × Int × Int × Int × Int × Unit => (⟨p.1, p.2.1, p.2.2.1, p.2.2.2.1, p.2.2.2.2.1, p.2.2.2.2.2.1, p.2.2.2.2.2.2.1⟩ : Trk)) (fun _ => rfl) (fun _ _ => trivial) (reads_struct tok50.k (cells_of tok50).1
    (tail_cons (cells_of tok3).1 rd_int (tail_cons (cells_of tok2).1 rd_i64 (tail_cons (cells_of tok2).1 rd_i64 (tail_cons (cells_of tok2).1 rd_i64 (tail_cons (cells_of tok2).1 rd_i64 (tail_cons (cells_of tok2).1 rd_i64 (tail_cons (cells_of tok2).1 rd_i64 tail_nil))))))))
theorem rd_orders : Reads Try.prog w 25 (fun l : List Ord => [V.row 8 (l.map encO)]) (fun l => l.length ≤ 140737488355328) :=
  reads_map id (fun _ => rfl) (by intro _ h; exact h.1) (reads_slice tok25.k (cells_of tok48).1 (by decide) (by rw [(cells_of tok48).2]; decide) rd_order)
theorem rd_trucks : Reads Try.prog w 26 (fun l : List Trk => [V.row 7 (l.map encT)]) (fun l => l.length ≤ 140737488355328) :=
  reads_map id (fun _ => rfl) (by intro _ h; exact h.1) (reads_slice tok26.k (cells_of tok50).1 (by decide) (by rw [(cells_of tok50).2]; decide) rd_truck)
theorem rd_world : Reads Try.prog w 28 encW WOk :=
  reads_map (fun p : (Int × List Int × List Int × Unit) × List Ord × List Trk × Unit => (⟨p.1.1, p.1.2.1, p.1.2.2.1, p.2.1, p.2.2.1⟩ : Wld)) (fun _ => rfl) (by intro _ h; exact ⟨h.1.1, h.1.2.1, h.1.2.2, h.2.1, h.2.2.1⟩) (reads_struct tok28.k (cells_of tok28).1
    (tail_cons (cells_of tok24).1 rd_area (tail_cons (cells_of tok25).1 rd_orders (tail_cons (cells_of tok26).1 rd_trucks tail_nil))))
theorem rd_cert : Reads Try.prog w 31 encC (fun _ => True) :=
  reads_map (fun p : List Int × List Int × Int × Int × Int × Int × Unit => (⟨p.1, p.2.1, p.2.2.1, p.2.2.2.1, p.2.2.2.2.1, p.2.2.2.2.2.1⟩ : Crt)) (fun _ => rfl) (fun _ _ => trivial) (reads_struct tok31.k (cells_of tok31).1
    (tail_cons (cells_of tok29).1 rd_ints (tail_cons (cells_of tok22).1 rd_i64s (tail_cons (cells_of tok2).1 rd_i64 (tail_cons (cells_of tok2).1 rd_i64 (tail_cons (cells_of tok2).1 rd_i64 (tail_cons (cells_of tok2).1 rd_i64 tail_nil)))))))
theorem rd_route : Reads Try.prog w 55 encR (fun r => r.stops.length ≤ 140737488355328) :=
  reads_map (fun p : Int × List Int × Unit => (⟨p.1, p.2.1⟩ : Rte)) (fun _ => rfl) (by intro _ h; exact h.2.1) (reads_struct tok55.k (cells_of tok55).1
    (tail_cons (cells_of tok3).1 rd_int (tail_cons (cells_of tok29).1 rd_ints tail_nil)))
theorem rd_routes : Reads Try.prog w 32 (fun l : List Rte => [V.row 2 (l.map encR)]) (fun l => l.length ≤ 140737488355328 ∧ ∀ r ∈ l, r.stops.length ≤ 140737488355328) :=
  reads_slice tok32.k (cells_of tok55).1 (by decide) (by rw [(cells_of tok55).2]; decide) rd_route
theorem rd_plan : Reads Try.prog w 34 encP (fun p => p.unserved.length ≤ 140737488355328 ∧ p.routes.length ≤ 140737488355328 ∧ ∀ r ∈ p.routes, r.stops.length ≤ 140737488355328) :=
  reads_map (fun p : List Rte × List Int × Unit => (⟨p.1, p.2.1⟩ : Pln)) (fun _ => rfl) (by intro _ h; exact ⟨h.2.1, h.1.1, h.1.2⟩) (reads_struct tok34.k (cells_of tok34).1
    (tail_cons (cells_of tok32).1 rd_routes (tail_cons (cells_of tok29).1 rd_ints tail_nil)))
end L12
namespace L12
open Go Go.Abs Go.Proofs Go.Proofs.Ytfkjiiopmogniaa
open Go.ChangeShapes Go.WideShapes Go.ChangeAt Go.RowKit
theorem own : ownKnob Try.prog.godebug = none := by kernel_rfl
theorem laidOut : laidOutB Try.prog = true := by kernel_rfl
theorem wei {H : Type} {ts : List TypeId} {ds : List (DataW H)} (h : (DataW.weightsEach Try.prog ts ds).all (· ≤ reachBytes) = true) {j : Nat} {t : TypeId} {d : DataW H} (ht : ts[j]? = some t) (hd : ds[j]? = some d) : ∀ k ∈ d.weights Try.prog t, k ≤ reachBytes := fun k hk => by
  have := List.all_eq_true.1 h k (DataW.weights_mem_each ht hd k hk)
  simpa using this
set_option maxRecDepth 100000 in
theorem liftedL (os : Os) (started : os.Started) (H : Type) (enc : TypeId × Value → H) :
    ReturnsInHanded {} Try.checked os 3 .any (Rows.boundLessSpec.pre6 enc Try.prog Try.f3 Rows.boundLessRow.domain false) (Rows.boundLessSpec.post enc Try.prog Try.f3 false true false false) := by
  refine returnsInHanded_of_change_sized (C := Try.checked) own started (by kernel_rfl) Try.func3
    (ChangeSpec.witness6 (enc := enc) (C := Try.checked) false ⟨#[], #[.agg #[.int .i64 0, .slice none 0 0, .slice none 0 0, .slice none 0 0, .slice none 0 0], .agg #[.slice none 0 0, .slice none 0 0, .int .i64 0, .int .i64 0, .int .i64 0, .int .i64 0], .agg #[.slice none 0 0, .slice none 0 0]], []⟩ 8 (by kernel_rfl) (by kernel_rfl) (by kernel_rfl) (by kernel_rfl)) ?_
  intro W base args ds gs before hval0 hW hcnd hsz0 _
  have hval : ∀ (j : Nat) t v, Try.f3.params[j]? = some t → args[j]? = some v → Value.okWide Try.prog W .any base t v := hval0
  have hW' := hW
  obtain ⟨p, q, hA0, hV, rfl, hfz, hnd⟩ := hW
  have hA : DataW.TrodAll enc Try.prog W 0 (fun _ => true) true Try.f3.params.toList args.toList ds p := hA0
  have hsz : (DataW.weightsEach Try.prog (Try.f3.params.toList ++ []) (ds ++ gs)).all (· ≤ reachBytes) = true := hsz0
  rw [Try.params3] at hA hval hsz
  obtain ⟨v0, v1, v2, d0, d1, d2, p0, p1, p2, rfl, rfl, rfl, h0, h1, h2⟩ := trodAll_three hA
  obtain ⟨rfl, rfl⟩ := trodVars_none hV
  have lt0 : ∀ x ∈ p0, x.block < W.heap.size := by obtain ⟨m, hm⟩ := h0; exact DataW.trod_lt m _ _ _ hm
  have lt1 : ∀ x ∈ p1, x.block < W.heap.size := by obtain ⟨m, hm⟩ := h1; exact DataW.trod_lt m _ _ _ hm
  have lt2 : ∀ x ∈ p2, x.block < W.heap.size := by obtain ⟨m, hm⟩ := h2; exact DataW.trod_lt m _ _ _ hm
  obtain ⟨w, hw, r0⟩ := arg_agg (by obtain ⟨fs, h, _⟩ := tok28.k; exact ⟨fs, h⟩) (hval 0 28 v0 rfl rfl) h0 (wei hsz (j := 0) rfl rfl) rd_world
  obtain ⟨c, _, r1⟩ := arg_agg (by obtain ⟨fs, h, _⟩ := tok31.k; exact ⟨fs, h⟩) (hval 1 31 v1 rfl rfl) h1 (wei hsz (j := 1) rfl rfl) rd_cert
  obtain ⟨pl, hp, r2⟩ := arg_agg (by obtain ⟨fs, h, _⟩ := tok34.k; exact ⟨fs, h⟩) (hval 2 34 v2 rfl rfl) h2 (wei hsz (j := 2) rfl rfl) rd_plan
  clear hA0 hval0
  have hs := boundLess_ok hw (c := c) hp.1 hp.2.1 hp.2.2 (lessS_true (w := w) (c := c) (p := pl)).symm
  refine (calls_true hs W #[v0, v1, v2] ⟨rfl, fun i hi hi' => ?_⟩).mono fun e W' ⟨he, bel⟩ => ?_
  · rcases i with _ | _ | _ | i
    · exact r0
    · exact r1
    · exact r2
    · exact absurd hi (by simp)
  subst he
  exact ⟨_, rfl, _, _, _, [], _, [], hW', trodAll_mk1 (shut_bool tok4.k _), (trodAll_mk3 (Below.trod laidOut (by kernel_rfl) (of_decide_eq_true (by kernel_rfl)) h0 bel lt0) (Below.trod laidOut (by kernel_rfl) (of_decide_eq_true (by kernel_rfl)) h1 bel lt1) (Below.trod laidOut (by kernel_rfl) (of_decide_eq_true (by kernel_rfl)) h2 bel lt2)), rfl, bel.frame _, fun h => by cases h⟩
theorem overL : Rows.boundLessRow.holds Try.pinned (OpenSpec.ofChange Rows.boundLessSpec) :=
  OpenClaim.holds_of_wide 3 Try.f3 rfl rfl rfl rfl rfl rfl rfl ⟨rfl, rfl, rfl, rfl, rfl⟩ rfl rfl rfl rfl rfl (by kernel_rfl) Try.func3 (by kernel_rfl)
    (of_decide_eq_true (by kernel_rfl)) (by unfold Func.isWrapper; first | (rw [if_pos (by decide +kernel)]; kernel_rfl) | (rw [if_neg (by decide +kernel)]; exact ⟨rfl, rfl⟩))
    (fun os started H enc _ => liftedL os started H enc)
theorem boundLess_proved : Rows.BoundLessSaid := overL
set_option maxRecDepth 100000 in
theorem liftedP (os : Os) (started : os.Started) (H : Type) (enc : TypeId × Value → H) :
    ReturnsInHanded {} Try.checked os 4 .any (Rows.boundPlanSpec.pre6 enc Try.prog Try.f4 Rows.boundPlanRow.domain false) (Rows.boundPlanSpec.post enc Try.prog Try.f4 false true false false) := by
  refine returnsInHanded_of_change_sized (C := Try.checked) own started (by kernel_rfl) Try.func4
    (ChangeSpec.witness6 (enc := enc) (C := Try.checked) false ⟨#[], #[.agg #[.int .i64 0, .slice none 0 0, .slice none 0 0, .slice none 0 0, .slice none 0 0], .agg #[.slice none 0 0, .slice none 0 0], .agg #[.slice none 0 0, .slice none 0 0, .int .i64 0, .int .i64 0, .int .i64 0, .int .i64 0]], []⟩ 8 (by kernel_rfl) (by kernel_rfl) (by kernel_rfl) (by kernel_rfl)) ?_
  intro W base args ds gs before hval0 hW hcnd hsz0 _
  have hval : ∀ (j : Nat) t v, Try.f4.params[j]? = some t → args[j]? = some v → Value.okWide Try.prog W .any base t v := hval0
  have hW' := hW
  obtain ⟨p, q, hA0, hV, rfl, hfz, hnd⟩ := hW
  have hA : DataW.TrodAll enc Try.prog W 0 (fun _ => true) true Try.f4.params.toList args.toList ds p := hA0
  have hsz : (DataW.weightsEach Try.prog (Try.f4.params.toList ++ []) (ds ++ gs)).all (· ≤ reachBytes) = true := hsz0
  rw [Try.params4] at hA hval hsz
  obtain ⟨v0, v1, v2, d0, d1, d2, p0, p1, p2, rfl, rfl, rfl, h0, h1, h2⟩ := trodAll_three hA
  obtain ⟨rfl, rfl⟩ := trodVars_none hV
  have lt0 : ∀ x ∈ p0, x.block < W.heap.size := by obtain ⟨m, hm⟩ := h0; exact DataW.trod_lt m _ _ _ hm
  have lt1 : ∀ x ∈ p1, x.block < W.heap.size := by obtain ⟨m, hm⟩ := h1; exact DataW.trod_lt m _ _ _ hm
  have lt2 : ∀ x ∈ p2, x.block < W.heap.size := by obtain ⟨m, hm⟩ := h2; exact DataW.trod_lt m _ _ _ hm
  obtain ⟨w, hw, r0⟩ := arg_agg (by obtain ⟨fs, h, _⟩ := tok28.k; exact ⟨fs, h⟩) (hval 0 28 v0 rfl rfl) h0 (wei hsz (j := 0) rfl rfl) rd_world
  obtain ⟨pl, hp, r1⟩ := arg_agg (by obtain ⟨fs, h, _⟩ := tok34.k; exact ⟨fs, h⟩) (hval 1 34 v1 rfl rfl) h1 (wei hsz (j := 1) rfl rfl) rd_plan
  obtain ⟨c, _, r2⟩ := arg_agg (by obtain ⟨fs, h, _⟩ := tok31.k; exact ⟨fs, h⟩) (hval 2 31 v2 rfl rfl) h2 (wei hsz (j := 2) rfl rfl) rd_cert
  clear hA0 hval0
  have hs := boundPlan_ok hw (c := c) hp.1 hp.2.1 hp.2.2 (planS_true (w := w) (c := c) (p := pl)).symm
  refine (calls_true hs W #[v0, v1, v2] ⟨rfl, fun i hi hi' => ?_⟩).mono fun e W' ⟨he, bel⟩ => ?_
  · rcases i with _ | _ | _ | i
    · exact r0
    · exact r1
    · exact r2
    · exact absurd hi (by simp)
  subst he
  exact ⟨_, rfl, _, _, _, [], _, [], hW', trodAll_mk1 (shut_bool tok4.k _), (trodAll_mk3 (Below.trod laidOut (by kernel_rfl) (of_decide_eq_true (by kernel_rfl)) h0 bel lt0) (Below.trod laidOut (by kernel_rfl) (of_decide_eq_true (by kernel_rfl)) h1 bel lt1) (Below.trod laidOut (by kernel_rfl) (of_decide_eq_true (by kernel_rfl)) h2 bel lt2)), rfl, bel.frame _, fun h => by cases h⟩
theorem overP : Rows.boundPlanRow.holds Try.pinned (OpenSpec.ofChange Rows.boundPlanSpec) :=
  OpenClaim.holds_of_wide 4 Try.f4 rfl rfl rfl rfl rfl rfl rfl ⟨rfl, rfl, rfl, rfl, rfl⟩ rfl rfl rfl rfl rfl (by kernel_rfl) Try.func4 (by kernel_rfl)
    (of_decide_eq_true (by kernel_rfl)) (by unfold Func.isWrapper; first | (rw [if_pos (by decide +kernel)]; kernel_rfl) | (rw [if_neg (by decide +kernel)]; exact ⟨rfl, rfl⟩))
    (fun os started H enc _ => liftedP os started H enc)
theorem boundPlan_proved : Rows.BoundPlanSaid := overP
end L12
