/- Contracts of the functions of layer 12, each walked once over the abstract machine. -/
import Derived.Test.YtfkjiiopmogniaaTb
import Derived.Test.YtfkjiiopmogniaaAb5
namespace L12
open Go Go.Abs Go.Proofs
set_option maxRecDepth 100000
theorem mix : Try.prog.follows .mixedOrders = true := by kernel_rfl
theorem may_ok {n : Int} {r : Bool} (hr : r = may n) : Sound Try.prog 45 [.at (.int .i64 n)] 0 [] (.at (.bool r)) [] 0 := by
  refine sound_of tbl_ok mix Try.func45 rfl rfl (of_decide_eq_true rfl) ?_
  generalize Try.prog = P
  generalize hA : Ar.std = A
  cbv
  repeat refine NeedW.mk trivial ?_
  split <;> cbv <;> (repeat refine NeedW.mk trivial ?_) <;> refine .mk ?_ trivial <;> subst hA hr
  · simp_all [Ar.std, may]
  · simp_all [Ar.std, may]
    omega
theorem add_ok {a b r e : Int} (hr : (r, e) = addS a b) : Sound Try.prog 46 [.at (.int .i64 a), .at (.int .i64 b)] 0 [] (.tup [.at (.int .i64 r), .at (.int .i64 e)]) [] 0 := by
  refine sound_of tbl_ok mix Try.func46 rfl rfl (of_decide_eq_true rfl) ?_
  have h45 := @may_ok
  generalize Try.prog = P at h45 ⊢
  generalize hA : Ar.std = A
  obtain ⟨x1, h1⟩ : ∃ x, x = may a := ⟨_, rfl⟩
  obtain ⟨x2, h2⟩ : ∃ x, x = may b := ⟨_, rfl⟩
  obtain ⟨x3, h3⟩ : ∃ x, x = may (Ar.std.add a b) := ⟨_, rfl⟩
  rw [hA] at h3
  cbv
  repeat' (first
    | refine NeedW.mk trivial ?_
    | (refine call0 (h45 h1) rfl rfl ?_; cbv)
    | (refine call0 (h45 h2) rfl rfl ?_; cbv)
    | (refine call0 (h45 h3) rfl rfl ?_; cbv)
    | (split <;> cbv)
    | (refine RetE.mk ?_ trivial; subst hA; simp_all [Ar.std, addS]; done)
    | (refine NeedW.mk (by subst hA; refine inr64 ?_; simp_all [Ar.std, may_iff]; omega) ?_))
theorem sum_ok {l : List Int} {r e : Int} (hlen : l.length ≤ 140737488355328) (hr : (r, e) = sumS l) : Sound Try.prog 20 [.row 1 (l.map fun n => [.at (.int .i64 n)])] 0 [] (.tup [.at (.int .i64 r), .at (.int .i64 e)]) [] 0 := by
  refine sound_of tbl_ok mix Try.func20 rfl rfl (of_decide_eq_true rfl) ?_
  have h45 := @may_ok
  have h46 := @add_ok
  generalize Try.prog = P at h45 h46 ⊢
  generalize hA : Ar.std = A
  generalize hes : (l.map fun n => [V.at (.int .i64 n)]) = es
  have hn : es.length = l.length := by subst hes; simp
  have hget : ∀ z x, l[Int.toNat z]? = some x → es[Int.toNat z]? = some [V.at (.int .i64 x)] := fun z x h => by subst hes; simp [h]
  cbv
  repeat refine NeedW.mk trivial ?_
  refine .mk (fun k s => ∃ z : Int, 0 ≤ z ∧ k + z.toNat = l.length ∧ (l.take z.toNat).all may = true ∧
    s = { t := [(13, .at (.int .i64 z)), (12, .at (.int .i64 (A.nat (A.len es)))), (11, .row 1 es), (0, .row 1 es)], m := [], nx := 0 }) l.length _ (le_of hA (mv := []) (τ := []) ?_) ⟨0, by simp, by simp, by simp, rfl⟩ ?_
  · cbv <;> simp
  · rintro n s ⟨z, h0, hi, hall, rfl⟩
    cbv
    repeat refine NeedW.mk trivial ?_
    split <;> cbv
    · rename_i hlt
      replace hlt := lt_row hA h0 hlt
      obtain ⟨x, hx⟩ := get_lt (l := l) (hn ▸ hlt)
      refine .mk _ h0 (hget z x hx) ?_
      cbv
      repeat refine NeedW.mk trivial ?_
      obtain ⟨x1, h1⟩ : ∃ y, y = may x := ⟨_, rfl⟩
      refine call0 (h45 h1) rfl rfl ?_
      cbv
      repeat refine NeedW.mk trivial ?_
      split <;> cbv
      · repeat refine NeedW.mk trivial ?_
        refine .mk ?_ trivial
        have : l.all may = false := by
          cases hq : l.all may with
          | false => rfl
          | true =>
            have := List.all_eq_true.1 hq x (List.mem_of_getElem? hx)
            subst hA
            simp_all [Ar.std]
        simp_all [sumS]
      · refine NeedW.mk (inc_ok hA h0 hlt (hn ▸ hlen)) ?_
        repeat refine NeedW.mk trivial ?_
        obtain ⟨z', hz⟩ : ∃ z', z' = z + 1 := ⟨_, rfl⟩
        refine ⟨n - 1, _, by omega, le_of hA (mv := []) (τ := []) ?_, z', by omega, by omega, ?_, rfl⟩
        · cbv; subst hA; simp [Ar.std, hz]
        rw [hz]
        refine take_all_succ h0 hall hx ?_
        subst hA; simp_all [Ar.std]
    · rename_i hge
      replace hge := ge_row hA h0 hge
      replace hall : l.all may = true := by rw [List.take_of_length_le (by omega)] at hall; exact hall
      have hr' : (r, e) = sumGo 0 l := by rw [hr]; simp [sumS, hall]
      clear hr
      repeat refine NeedW.mk trivial ?_
      refine .mk (fun k s => ∃ z acc : Int, 0 ≤ z ∧ k + z.toNat = l.length ∧ (r, e) = sumGo acc (l.drop z.toNat) ∧
        s = { t := [(6, .at (.int .i64 acc)), (23, .at (.int .i64 z)), (22, .at (.int .i64 (A.nat (A.len es)))), (21, .row 1 es)], m := [], nx := 0 }) l.length _ (le_of hA (mv := []) (τ := []) ?_) ⟨0, 0, by simp, by simp, by simp [hr'], rfl⟩ ?_
      · cbv <;> simp
      · rintro n s ⟨z, acc, h0, hi, hgo, rfl⟩
        cbv
        repeat refine NeedW.mk trivial ?_
        split <;> cbv
        · rename_i hlt
          replace hlt := lt_row hA h0 hlt
          obtain ⟨x, hx⟩ := get_lt (l := l) (hn ▸ hlt)
          refine .mk _ h0 (hget z x hx) ?_
          cbv
          repeat refine NeedW.mk trivial ?_
          obtain ⟨x1, x2, h1⟩ : ∃ y y', (y, y') = addS acc x := ⟨_, _, rfl⟩
          rw [sumGo_cons h0 hx, ← h1] at hgo
          refine call0 (h46 h1) rfl rfl ?_
          cbv
          repeat refine NeedW.mk trivial ?_
          split <;> cbv
          · repeat refine NeedW.mk trivial ?_
            refine .mk ?_ trivial
            have : ¬ x2 = 0 := by subst hA; simp_all [Ar.std]
            rw [if_neg this] at hgo
            obtain ⟨rfl, rfl⟩ := Prod.mk.inj hgo
            rfl
          · repeat refine NeedW.mk trivial ?_
            refine NeedW.mk (inc_ok hA h0 hlt (hn ▸ hlen)) ?_
            repeat refine NeedW.mk trivial ?_
            obtain ⟨z', hz⟩ : ∃ z', z' = z + 1 := ⟨_, rfl⟩
            refine ⟨n - 1, _, by omega, le_of hA (mv := []) (τ := []) ?_, z', x1, by omega, by omega, ?_, rfl⟩
            · cbv; subst hA; simp [Ar.std, hz]
            rw [hz]
            subst hA; simp_all [Ar.std]
        · rename_i hge
          replace hge := ge_row hA h0 hge
          repeat refine NeedW.mk trivial ?_
          refine .mk ?_ trivial
          rw [List.drop_eq_nil_of_le (by omega)] at hgo
          simp only [sumGo, Prod.mk.injEq] at hgo
          rw [hgo.1, hgo.2]
end L12
namespace L12
open Go Go.Abs Go.Proofs
set_option maxRecDepth 100000
theorem div_ok {A : Ar} (hA : Ar.std = A) {z n : Int} {m : Nat} (h0 : 0 ≤ z) (hz : z.toNat < m) (hm : m ≤ 140737488355328) (hn : 0 < n) : A.pos z n ∧ A.inr .i64 (A.div z n) := by
  subst hA
  refine ⟨⟨h0, hn⟩, inr64 ?_⟩
  have h1 : 0 ≤ z / n := Int.ediv_nonneg h0 (by omega)
  have h2 : z / n ≤ z := Int.ediv_le_self _ h0
  simp only [Ar.std]
  omega
theorem mod_ok {A : Ar} (hA : Ar.std = A) {z n : Int} (h0 : 0 ≤ z) (hn : 0 < n) : A.pos z n := by
  subst hA
  exact ⟨h0, hn⟩
theorem area_ok {n e : Int} {dist time : List Int} (hd : dist.length ≤ 140737488355328) (ht : time.length ≤ 140737488355328) (he : e = areaS n dist time) :
    Sound Try.prog 37 [.agg [.at (.int .i64 n), .row 1 (dist.map fun n => [.at (.int .i64 n)]), .row 1 (time.map fun n => [.at (.int .i64 n)])]] 0 [] (.at (.int .i64 e)) [] 0 := by
  refine sound_of tbl_ok mix Try.func37 rfl rfl (of_decide_eq_true rfl) ?_
  generalize Try.prog = P
  generalize hed : (dist.map fun n => [V.at (.int .i64 n)]) = ed
  generalize het : (time.map fun n => [V.at (.int .i64 n)]) = et
  have hdl : ed.length = dist.length := by subst hed; simp
  have htl : et.length = time.length := by subst het; simp
  have hget : ∀ (l : List Int) es, (l.map fun n => [V.at (.int .i64 n)]) = es → ∀ z x, l[Int.toNat z]? = some x → es[Int.toNat z]? = some [V.at (.int .i64 x)] := fun l es h z x hx => by subst h; simp [hx]
  generalize hA : Ar.std = A
  cbv
  repeat refine NeedW.mk trivial ?_
  repeat' (first
    | refine NeedW.mk trivial ?_
    | (refine NeedW.mk (by subst hA; refine inr64 ?_; simp only [Ar.std] at *; have := @sq_ok n; simp_all; omega) ?_)
    | (split <;> cbv)
    | (refine RetE.mk ?_ trivial; subst hA; simp_all [Ar.std, areaS]; try omega; done))
  have hn : 0 < n := by subst hA; simp_all [Ar.std]; omega
  replace he : e = if (badL n 0 dist || badL n 0 time) = true then 1 else 0 := by
    rw [he, areaS, if_neg]
    subst hA
    simp_all [Ar.std]
    try omega
  refine .mk (fun k s => ∃ (j : Int) (l l' : List Int) (es : List (List V)), ((k = 2 ∧ j = 0 ∧ l = dist ∧ l' = time ∧ es = ed) ∨ (k = 1 ∧ j = 1 ∧ l = time ∧ l' = [] ∧ es = et) ∨ (k = 0 ∧ j = 2 ∧ l = [] ∧ l' = [])) ∧
    (e = if (badL n 0 l || badL n 0 l') = true then 1 else 0) ∧
    s = { t := [(1, .bptr 0 0), (42, .at (.int .i64 j)), (41, .agg [.row 1 ed, .row 1 et])], m := [(0, .box 24 [.at (.int .i64 n), .row 1 ed, .row 1 et])], nx := 1 }) 2 _ (le_of hA (mv := []) (τ := [(0, some 0)]) ?_) ⟨0, dist, time, ed, by simp, he, rfl⟩ ?_
  · cbv <;> simp
  clear he
  rintro k s ⟨j, l, l', es, hc, he, rfl⟩
  rcases hc with ⟨rfl, rfl, rfl, rfl, rfl⟩ | ⟨rfl, rfl, rfl, rfl, rfl⟩ | ⟨rfl, rfl, rfl, rfl⟩
  · cbv
    repeat refine NeedW.mk trivial ?_
    rw [if_pos (by subst hA; rfl)]
    cbv
    refine NeedW.mk (.mk _) ?_
    repeat refine NeedW.mk trivial ?_
    refine .mk (fun k s => ∃ z : Int, 0 ≤ z ∧ k + z.toNat = l.length ∧ (e = if (badL n z (l.drop z.toNat) || badL n 0 l') = true then 1 else 0) ∧
      s = { t := [(47, .at (.int .i64 z)), (46, .at (.int .i64 (A.nat (A.len es)))), (45, .row 1 es), (1, .bptr 0 0), (42, .at (.int .i64 0)), (41, .agg [.row 1 es, .row 1 et])], m := [(0, .box 24 [.at (.int .i64 n), .row 1 es, .row 1 et])], nx := 1 }) l.length _ (le_of hA (mv := []) (τ := [(0, some 0)]) ?_) ⟨0, by simp, by simp, by simpa using he, rfl⟩ ?_
    · cbv <;> simp
    clear he
    rintro k s ⟨z, h0, hk, he, rfl⟩
    cbv
    repeat refine NeedW.mk trivial ?_
    split <;> cbv
    · rename_i hlt
      replace hlt := lt_row hA h0 hlt
      obtain ⟨x, hx⟩ := get_lt (l := l) (hdl ▸ hlt)
      repeat refine NeedW.mk trivial ?_
      refine .mk _ h0 (hget _ _ hed z x hx) ?_
      cbv
      repeat refine NeedW.mk trivial ?_
      refine .mk rfl ?_
      rw [badL_cons h0 hx] at he
      cbv
      obtain ⟨z', hz⟩ : ∃ z', z' = z + 1 := ⟨_, rfl⟩
      have hlen := hd
      have hes := hdl
      rw [← hz] at he
      repeat' (first
        | refine NeedW.mk trivial ?_
        | refine NeedW.mk (div_ok hA h0 hlt (hes ▸ hlen) hn) ?_
        | refine NeedW.mk (mod_ok hA h0 hn) ?_
        | refine NeedW.mk (inc_ok hA h0 hlt (hes ▸ hlen)) ?_
        | (refine RetE.mk ?_ trivial; rw [he, if_pos]; clear he hget; subst hA; simp_all [Ar.std, badAt]; try omega; done)
        | (refine ⟨k - 1, _, by omega, le_of hA (mv := []) (τ := [(0, some 0)]) (by cbv; subst hA; simp [Ar.std, hz]), z', by omega, by omega, ?_, rfl⟩; rw [he]; have : badAt n z x = false := (by clear he hget; subst hA; simp_all [Ar.std, badAt]; try omega); rw [this]; rfl)
        | (split <;> cbv))
    · rename_i hge
      replace hge := ge_row hA h0 hge
      rw [List.drop_eq_nil_of_le (by omega)] at he
      repeat refine NeedW.mk trivial ?_
      refine NeedW.mk (by subst hA; exact inr64 (by simp [Ar.std])) ?_
      repeat refine NeedW.mk trivial ?_
      refine ⟨1, _, by omega, le_of hA (mv := []) (τ := [(0, some 0)]) (by cbv; subst hA; simp [Ar.std]), 1, l', [], et, .inr (.inl ⟨rfl, rfl, rfl, rfl, rfl⟩), by rw [he]; simp [badL], rfl⟩
  · cbv
    repeat refine NeedW.mk trivial ?_
    rw [if_pos (by subst hA; rfl)]
    cbv
    refine NeedW.mk (.mk _) ?_
    repeat refine NeedW.mk trivial ?_
    refine .mk (fun k s => ∃ z : Int, 0 ≤ z ∧ k + z.toNat = l.length ∧ (e = if (badL n z (l.drop z.toNat) || badL n 0 []) = true then 1 else 0) ∧
      s = { t := [(47, .at (.int .i64 z)), (46, .at (.int .i64 (A.nat (A.len es)))), (45, .row 1 es), (1, .bptr 0 0), (42, .at (.int .i64 1)), (41, .agg [.row 1 ed, .row 1 es])], m := [(0, .box 24 [.at (.int .i64 n), .row 1 ed, .row 1 es])], nx := 1 }) l.length _ (le_of hA (mv := []) (τ := [(0, some 0)]) ?_) ⟨0, by simp, by simp, by simpa using he, rfl⟩ ?_
    · cbv <;> simp
    clear he
    rintro k s ⟨z, h0, hk, he, rfl⟩
    cbv
    repeat refine NeedW.mk trivial ?_
    split <;> cbv
    · rename_i hlt
      replace hlt := lt_row hA h0 hlt
      obtain ⟨x, hx⟩ := get_lt (l := l) (htl ▸ hlt)
      repeat refine NeedW.mk trivial ?_
      refine .mk _ h0 (hget _ _ het z x hx) ?_
      cbv
      repeat refine NeedW.mk trivial ?_
      refine .mk rfl ?_
      rw [badL_cons h0 hx] at he
      cbv
      obtain ⟨z', hz⟩ : ∃ z', z' = z + 1 := ⟨_, rfl⟩
      have hlen := ht
      have hes := htl
      rw [← hz] at he
      repeat' (first
        | refine NeedW.mk trivial ?_
        | refine NeedW.mk (div_ok hA h0 hlt (hes ▸ hlen) hn) ?_
        | refine NeedW.mk (mod_ok hA h0 hn) ?_
        | refine NeedW.mk (inc_ok hA h0 hlt (hes ▸ hlen)) ?_
        | (refine RetE.mk ?_ trivial; rw [he, if_pos]; clear he hget; subst hA; simp_all [Ar.std, badAt]; try omega; done)
        | (refine ⟨k - 1, _, by omega, le_of hA (mv := []) (τ := [(0, some 0)]) (by cbv; subst hA; simp [Ar.std, hz]), z', by omega, by omega, ?_, rfl⟩; rw [he]; have : badAt n z x = false := (by clear he hget; subst hA; simp_all [Ar.std, badAt]; try omega); rw [this]; rfl)
        | (split <;> cbv))
    · rename_i hge
      replace hge := ge_row hA h0 hge
      rw [List.drop_eq_nil_of_le (by omega)] at he
      repeat refine NeedW.mk trivial ?_
      refine NeedW.mk (by subst hA; exact inr64 (by simp [Ar.std])) ?_
      repeat refine NeedW.mk trivial ?_
      refine ⟨0, _, by omega, le_of hA (mv := []) (τ := [(0, some 0)]) (by cbv; subst hA; simp [Ar.std]), 2, [], [], [], .inr (.inr ⟨rfl, rfl, rfl, rfl⟩), by rw [he]; simp [badL], rfl⟩
  · cbv
    repeat refine NeedW.mk trivial ?_
    rw [if_neg (by subst hA; simp [Ar.std])]
    cbv
    repeat refine NeedW.mk trivial ?_
    refine .mk ?_ trivial
    rw [he]
    rfl
end L12
namespace L12
open Go Go.Abs Go.Proofs
set_option maxRecDepth 100000
theorem idx_span {es : List (List V)} {k : Nat}  {p : List V → Bool} {r : Int} (hlen : es.length ≤ 140737488355328) (hsh : ∀ el ∈ es, ∃ c0 c1 c2 : Int, el = [.at (.int .i64 c0), .at (.int .i64 c1), .at (.int .i64 c2)])
    (hf : ∀ el ∈ es, Sound Try.prog k [.agg el] 0 [] (.at (.bool (p el))) [] 0) (hr : r = idxOf p 0 es) : Sound Try.prog 93 [.row 3 es, .fn (.func k) [] []] 0 [] (.at (.int .i64 r)) [] 0 := by
  refine sound_of tbl_ok mix Try.func93 rfl rfl (of_decide_eq_true rfl) ?_
  generalize Try.prog = P at hf ⊢
  generalize hA : Ar.std = A
  cbv
  repeat refine NeedW.mk trivial ?_
  refine .mk (fun k' s => ∃ z : Int, 0 ≤ z ∧ k' + z.toNat = es.length ∧ r = idxOf p z (es.drop z.toNat) ∧
    s = { t := [(0, .row 3 es), (1, .fn (.func k) [] []), (8, .at (.int .i64 z)), (7, .at (.int .i64 (A.nat (A.len es))))], m := [], nx := 0 }) es.length _ (le_of hA (mv := []) (τ := []) ?_) ⟨0, by simp, by simp, by simpa using hr, rfl⟩ ?_
  · cbv <;> simp
  clear hr
  rintro k' s ⟨z, h0, hk, hr, rfl⟩
  cbv
  repeat refine NeedW.mk trivial ?_
  split <;> cbv
  · rename_i hlt
    replace hlt := lt_row hA h0 hlt
    obtain ⟨el, hel⟩ := get_lt hlt
    obtain ⟨z', hz⟩ : ∃ z', z' = z + 1 := ⟨_, rfl⟩
    rw [idxOf_cons h0 hel, ← hz] at hr
    have hfe := hf el (List.mem_of_getElem? hel)
    obtain ⟨b, hb⟩ : ∃ b, b = p el := ⟨_, rfl⟩
    rw [← hb] at hr hfe
    obtain ⟨c0, c1, c2, rfl⟩ := hsh el (List.mem_of_getElem? hel)
    repeat refine NeedW.mk trivial ?_
    refine .mk _ h0 hel ?_
    cbv
    repeat refine NeedW.mk trivial ?_
    refine callU hA hfe (by cbv <;> simp) rfl ?_
    cbv
    repeat refine NeedW.mk trivial ?_
    split <;> cbv
    · repeat refine NeedW.mk trivial ?_
      refine .mk ?_ trivial
      rw [hr, if_pos (by assumption)]
    · refine NeedW.mk (inc_ok hA h0 hlt hlen) ?_
      repeat refine NeedW.mk trivial ?_
      refine ⟨k' - 1, _, by omega, le_of hA (mv := []) (τ := []) ?_, z', by omega, by omega, ?_, rfl⟩
      · cbv; subst hA; simp [Ar.std, hz]
      · rw [hr, if_neg (by assumption)]
  · rename_i hge
    replace hge := ge_row hA h0 hge
    repeat refine NeedW.mk trivial ?_
    refine .mk ?_ trivial
    rw [hr, List.drop_eq_nil_of_le hge]
    rfl
theorem idx_order {es : List (List V)} {k : Nat} {id : Int} {p : List V → Bool} {r : Int} (hlen : es.length ≤ 140737488355328) (hsh : ∀ el ∈ es, ∃ c0 c1 c2 c3 c4 c5 c6 c7 : Int, el = [.at (.int .i64 c0), .at (.int .i64 c1), .at (.int .i64 c2), .at (.int .i64 c3), .at (.int .i64 c4), .at (.int .i64 c5), .at (.int .i64 c6), .at (.int .i64 c7)])
    (hf : ∀ el ∈ es, Sound Try.prog k [.agg el, .bptr 0 0] 1 [(0, .box 3 [.at (.int .i64 id)])] (.at (.bool (p el))) [(0, .box 3 [.at (.int .i64 id)])] 1) (hr : r = idxOf p 0 es) : Sound Try.prog 53 [.row 8 es, .fn (.func k) [] [.bptr 0 0]] 1 [(0, .box 3 [.at (.int .i64 id)])] (.at (.int .i64 r)) [(0, .box 3 [.at (.int .i64 id)])] 1 := by
  refine sound_of tbl_ok mix Try.func53 rfl rfl (of_decide_eq_true rfl) ?_
  generalize Try.prog = P at hf ⊢
  generalize hA : Ar.std = A
  cbv
  repeat refine NeedW.mk trivial ?_
  refine .mk (fun k' s => ∃ z : Int, 0 ≤ z ∧ k' + z.toNat = es.length ∧ r = idxOf p z (es.drop z.toNat) ∧
    s = { t := [(0, .row 8 es), (1, .fn (.func k) [] [.bptr 0 0]), (8, .at (.int .i64 z)), (7, .at (.int .i64 (A.nat (A.len es))))], m := [(0, .box 3 [.at (.int .i64 id)])], nx := 1 }) es.length _ (le_of hA (mv := []) (τ := [(0, some 0)]) ?_) ⟨0, by simp, by simp, by simpa using hr, rfl⟩ ?_
  · cbv <;> simp
  clear hr
  rintro k' s ⟨z, h0, hk, hr, rfl⟩
  cbv
  repeat refine NeedW.mk trivial ?_
  split <;> cbv
  · rename_i hlt
    replace hlt := lt_row hA h0 hlt
    obtain ⟨el, hel⟩ := get_lt hlt
    obtain ⟨z', hz⟩ : ∃ z', z' = z + 1 := ⟨_, rfl⟩
    rw [idxOf_cons h0 hel, ← hz] at hr
    have hfe := hf el (List.mem_of_getElem? hel)
    obtain ⟨b, hb⟩ : ∃ b, b = p el := ⟨_, rfl⟩
    rw [← hb] at hr hfe
    obtain ⟨c0, c1, c2, c3, c4, c5, c6, c7, rfl⟩ := hsh el (List.mem_of_getElem? hel)
    repeat refine NeedW.mk trivial ?_
    refine .mk _ h0 hel ?_
    cbv
    repeat refine NeedW.mk trivial ?_
    refine callU hA hfe (by cbv <;> simp) rfl ?_
    cbv
    repeat refine NeedW.mk trivial ?_
    split <;> cbv
    · repeat refine NeedW.mk trivial ?_
      refine .mk ?_ (by simp)
      rw [hr, if_pos (by assumption)]
    · refine NeedW.mk (inc_ok hA h0 hlt hlen) ?_
      repeat refine NeedW.mk trivial ?_
      refine ⟨k' - 1, _, by omega, le_of hA (mv := []) (τ := [(0, some 0)]) ?_, z', by omega, by omega, ?_, rfl⟩
      · cbv; subst hA; simp [Ar.std, hz]
      · rw [hr, if_neg (by assumption)]
  · rename_i hge
    replace hge := ge_row hA h0 hge
    repeat refine NeedW.mk trivial ?_
    refine .mk ?_ (by simp)
    rw [hr, List.drop_eq_nil_of_le hge]
    rfl
theorem idx_truck {es : List (List V)} {k : Nat} {id : Int} {p : List V → Bool} {r : Int} (hlen : es.length ≤ 140737488355328) (hsh : ∀ el ∈ es, ∃ c0 c1 c2 c3 c4 c5 c6 : Int, el = [.at (.int .i64 c0), .at (.int .i64 c1), .at (.int .i64 c2), .at (.int .i64 c3), .at (.int .i64 c4), .at (.int .i64 c5), .at (.int .i64 c6)])
    (hf : ∀ el ∈ es, Sound Try.prog k [.agg el, .bptr 2 0] 3 [(2, .box 3 [.at (.int .i64 id)])] (.at (.bool (p el))) [(2, .box 3 [.at (.int .i64 id)])] 3) (hr : r = idxOf p 0 es) : Sound Try.prog 67 [.row 7 es, .fn (.func k) [] [.bptr 2 0]] 3 [(2, .box 3 [.at (.int .i64 id)])] (.at (.int .i64 r)) [(2, .box 3 [.at (.int .i64 id)])] 3 := by
  refine sound_of tbl_ok mix Try.func67 rfl rfl (of_decide_eq_true rfl) ?_
  generalize Try.prog = P at hf ⊢
  generalize hA : Ar.std = A
  cbv
  repeat refine NeedW.mk trivial ?_
  refine .mk (fun k' s => ∃ z : Int, 0 ≤ z ∧ k' + z.toNat = es.length ∧ r = idxOf p z (es.drop z.toNat) ∧
    s = { t := [(0, .row 7 es), (1, .fn (.func k) [] [.bptr 2 0]), (8, .at (.int .i64 z)), (7, .at (.int .i64 (A.nat (A.len es))))], m := [(2, .box 3 [.at (.int .i64 id)])], nx := 3 }) es.length _ (le_of hA (mv := []) (τ := [(2, some 2)]) ?_) ⟨0, by simp, by simp, by simpa using hr, rfl⟩ ?_
  · cbv <;> simp
  clear hr
  rintro k' s ⟨z, h0, hk, hr, rfl⟩
  cbv
  repeat refine NeedW.mk trivial ?_
  split <;> cbv
  · rename_i hlt
    replace hlt := lt_row hA h0 hlt
    obtain ⟨el, hel⟩ := get_lt hlt
    obtain ⟨z', hz⟩ : ∃ z', z' = z + 1 := ⟨_, rfl⟩
    rw [idxOf_cons h0 hel, ← hz] at hr
    have hfe := hf el (List.mem_of_getElem? hel)
    obtain ⟨b, hb⟩ : ∃ b, b = p el := ⟨_, rfl⟩
    rw [← hb] at hr hfe
    obtain ⟨c0, c1, c2, c3, c4, c5, c6, rfl⟩ := hsh el (List.mem_of_getElem? hel)
    repeat refine NeedW.mk trivial ?_
    refine .mk _ h0 hel ?_
    cbv
    repeat refine NeedW.mk trivial ?_
    refine callU hA hfe (by cbv <;> simp) rfl ?_
    cbv
    repeat refine NeedW.mk trivial ?_
    split <;> cbv
    · repeat refine NeedW.mk trivial ?_
      refine .mk ?_ (by simp)
      rw [hr, if_pos (by assumption)]
    · refine NeedW.mk (inc_ok hA h0 hlt hlen) ?_
      repeat refine NeedW.mk trivial ?_
      refine ⟨k' - 1, _, by omega, le_of hA (mv := []) (τ := [(2, some 2)]) ?_, z', by omega, by omega, ?_, rfl⟩
      · cbv; subst hA; simp [Ar.std, hz]
      · rw [hr, if_neg (by assumption)]
  · rename_i hge
    replace hge := ge_row hA h0 hge
    repeat refine NeedW.mk trivial ?_
    refine .mk ?_ (by simp)
    rw [hr, List.drop_eq_nil_of_le hge]
    rfl
end L12
namespace L12
open Go Go.Abs Go.Proofs
set_option maxRecDepth 100000
def pSpan (el : List V) : Bool := match el with | [.at (.int _ a), .at (.int _ b), .at (.int _ c)] => spanBad (a, b, c) | _ => false
theorem within1_ok {a b c : Int} {r : Bool} (hr : r = spanBad (a, b, c)) : Sound Try.prog 91 [.agg [.at (.int .i64 a), .at (.int .i64 b), .at (.int .i64 c)]] 0 [] (.at (.bool r)) [] 0 := by
  refine sound_of tbl_ok mix Try.func91 rfl rfl (of_decide_eq_true rfl) ?_
  generalize Try.prog = P
  generalize hA : Ar.std = A
  cbv
  repeat refine NeedW.mk trivial ?_
  split <;> cbv <;> (repeat refine NeedW.mk trivial ?_) <;> refine .mk ?_ trivial <;> subst hA hr
  · simp_all [Ar.std, spanBad]
    try (intros; omega)
  · simp_all [Ar.std, spanBad]
    try (intros; omega)
theorem contains_ok {l : List (Int × Int × Int)} {r : Bool} (hlen : l.length ≤ 140737488355328) (hr : r = l.any spanBad) :
    Sound Try.prog 90 [.row 3 (l.map encS), .fn (.func 91) [] []] 0 [] (.at (.bool r)) [] 0 := by
  refine sound_of tbl_ok mix Try.func90 rfl rfl (of_decide_eq_true rfl) ?_
  have hidx := @idx_span (l.map encS) 91 pSpan _ (by simpa using hlen) (fun el he => by
    obtain ⟨s, _, rfl⟩ := List.mem_map.1 he
    exact ⟨_, _, _, rfl⟩) (fun el he => by
    obtain ⟨s, _, rfl⟩ := List.mem_map.1 he
    exact within1_ok rfl) rfl
  obtain ⟨i, hi⟩ : ∃ i, i = idxOf pSpan 0 (l.map encS) := ⟨_, rfl⟩
  rw [← hi] at hidx
  replace hr : r = decide (i ≥ 0) := by rw [hr, hi, idxOf_any encS spanBad pSpan (fun x => rfl) l 0 (by omega)]
  generalize hes : l.map encS = es at hidx ⊢
  clear hi
  generalize Try.prog = P at hidx ⊢
  generalize hA : Ar.std = A
  cbv
  repeat refine NeedW.mk trivial ?_
  refine call0 hidx rfl rfl ?_
  cbv
  repeat refine NeedW.mk trivial ?_
  refine .mk ?_ trivial
  subst hA hr
  simp [Ar.std]
theorem within_ok {l : List (Int × Int × Int)} {r : Int} (hlen : l.length ≤ 140737488355328) (hr : r = withinS l) :
    Sound Try.prog 83 [.row 3 (l.map encS)] 0 [] (.at (.int .i64 r)) [] 0 := by
  refine sound_of tbl_ok mix Try.func83 rfl rfl (of_decide_eq_true rfl) ?_
  obtain ⟨b, hb⟩ : ∃ b, b = l.any spanBad := ⟨_, rfl⟩
  have hc := contains_ok hlen hb
  generalize hes : l.map encS = es at hc ⊢
  generalize Try.prog = P at hc ⊢
  generalize hA : Ar.std = A
  cbv
  repeat refine NeedW.mk trivial ?_
  refine call0 hc rfl rfl ?_
  cbv
  repeat refine NeedW.mk trivial ?_
  rw [withinS, ← hb] at hr
  split <;> cbv <;> (repeat refine NeedW.mk trivial ?_) <;> refine .mk ?_ trivial <;> simp_all
theorem order_ok {o : Ord} {n r : Int} (hn : -9223372036854775807 ≤ n ∧ n ≤ 9223372036854775807) (hr : r = orderS o n) : Sound Try.prog 60 [.agg (encO o), .at (.int .i64 n)] 0 [] (.at (.int .i64 r)) [] 0 := by
  refine sound_of tbl_ok mix Try.func60 rfl rfl (of_decide_eq_true rfl) ?_
  have hw := within_ok (by simp) hr
  simp only [List.map, encS] at hw
  unfold encO
  obtain ⟨a0, a1, a2, a3, a4, a5, a6, a7⟩ := o
  obtain ⟨n1, hn1⟩ : ∃ m, m = n - 1 := ⟨_, rfl⟩
  simp only at hw ⊢
  rw [← hn1] at hw
  clear hr
  generalize Try.prog = P at hw ⊢
  generalize hA : Ar.std = A
  cbv
  repeat refine NeedW.mk trivial ?_
  refine NeedW.mk (by subst hA; refine inr64 ?_; simp only [Ar.std]; omega) ?_
  repeat refine NeedW.mk trivial ?_
  refine callV hA [31] hw (by cbv; subst hA; simp [Ar.std, ClE, V.cl]) (by cbv; subst hA; simp [Ar.std, hn1]) rfl rfl ?_
  cbv
  repeat refine NeedW.mk trivial ?_
  exact .mk rfl trivial
theorem truck_ok {t : Trk} {r : Int} (hr : r = truckS t) : Sound Try.prog 62 [.agg (encT t)] 0 [] (.at (.int .i64 r)) [] 0 := by
  refine sound_of tbl_ok mix Try.func62 rfl rfl (of_decide_eq_true rfl) ?_
  have hw := within_ok (by simp) hr
  simp only [List.map, encS] at hw
  unfold encT
  obtain ⟨a0, a1, a2, a3, a4, a5, a6⟩ := t
  simp only at hw ⊢
  clear hr
  generalize Try.prog = P at hw ⊢
  generalize hA : Ar.std = A
  cbv
  repeat refine NeedW.mk trivial ?_
  refine callV hA [26] hw (by cbv; subst hA; simp [Ar.std, ClE, V.cl]) (by cbv; subst hA; simp [Ar.std]) rfl rfl ?_
  cbv
  repeat refine NeedW.mk trivial ?_
  exact .mk rfl trivial
theorem each_order {es : List (List V)} {k : Nat} {n : Int} {ed et eo ek : List (List V)} {p : List V → Int} {r : Int} (hlen : es.length ≤ 140737488355328) (hsh : ∀ el ∈ es, ∃ c0 c1 c2 c3 c4 c5 c6 c7 : Int, el = [.at (.int .i64 c0), .at (.int .i64 c1), .at (.int .i64 c2), .at (.int .i64 c3), .at (.int .i64 c4), .at (.int .i64 c5), .at (.int .i64 c6), .at (.int .i64 c7)])
    (hf : ∀ el ∈ es, Sound Try.prog k [.agg el, .bptr 0 0] 1 [(0, .box 28 [.at (.int .i64 n), .row 1 ed, .row 1 et, .row 8 eo, .row 7 ek])] (.at (.int .i64 (p el))) [(0, .box 28 [.at (.int .i64 n), .row 1 ed, .row 1 et, .row 8 eo, .row 7 ek])] 1) (hr : r = eachS p es) : Sound Try.prog 58 [.row 8 es, .fn (.func k) [] [.bptr 0 0]] 1 [(0, .box 28 [.at (.int .i64 n), .row 1 ed, .row 1 et, .row 8 eo, .row 7 ek])] (.at (.int .i64 r)) [(0, .box 28 [.at (.int .i64 n), .row 1 ed, .row 1 et, .row 8 eo, .row 7 ek])] 1 := by
  refine sound_of tbl_ok mix Try.func58 rfl rfl (of_decide_eq_true rfl) ?_
  generalize Try.prog = P at hf ⊢
  generalize hA : Ar.std = A
  cbv
  repeat refine NeedW.mk trivial ?_
  refine .mk (fun k' s => ∃ z : Int, 0 ≤ z ∧ k' + z.toNat = es.length ∧ r = eachS p (es.drop z.toNat) ∧
    s = { t := [(1, .fn (.func k) [] [.bptr 0 0]), (8, .row 8 es), (10, .at (.int .i64 z)), (9, .at (.int .i64 (A.nat (A.len es))))], m := [(0, .box 28 [.at (.int .i64 n), .row 1 ed, .row 1 et, .row 8 eo, .row 7 ek])], nx := 1 }) es.length _ (le_of hA (mv := []) (τ := [(0, some 0)]) ?_) ⟨0, by simp, by simp, by simpa using hr, rfl⟩ ?_
  · cbv <;> simp
  clear hr
  rintro k' s ⟨z, h0, hk, hr, rfl⟩
  cbv
  repeat refine NeedW.mk trivial ?_
  split <;> cbv
  · rename_i hlt
    replace hlt := lt_row hA h0 hlt
    obtain ⟨el, hel⟩ := get_lt hlt
    obtain ⟨z', hz⟩ : ∃ z', z' = z + 1 := ⟨_, rfl⟩
    rw [drop_cons h0 hel, eachS, ← hz] at hr
    have hfe := hf el (List.mem_of_getElem? hel)
    obtain ⟨b, hb⟩ : ∃ b, b = p el := ⟨_, rfl⟩
    rw [← hb] at hr hfe
    obtain ⟨c0, c1, c2, c3, c4, c5, c6, c7, rfl⟩ := hsh el (List.mem_of_getElem? hel)
    repeat refine NeedW.mk trivial ?_
    refine .mk _ h0 hel ?_
    cbv
    repeat refine NeedW.mk trivial ?_
    refine callU hA hfe (by cbv <;> simp) rfl ?_
    cbv
    repeat refine NeedW.mk trivial ?_
    split <;> cbv
    · rename_i hne
      replace hne : b ≠ 0 := by subst hA; simpa [Ar.std] using hne
      repeat refine NeedW.mk trivial ?_
      refine .mk ?_ (by simp)
      rw [hr, if_neg hne]
    · rename_i hne
      replace hne : b = 0 := by subst hA; simpa [Ar.std] using hne
      repeat refine NeedW.mk trivial ?_
      refine NeedW.mk (inc_ok hA h0 hlt hlen) ?_
      repeat refine NeedW.mk trivial ?_
      refine ⟨k' - 1, _, by omega, le_of hA (mv := []) (τ := [(0, some 0)]) ?_, z', by omega, by omega, ?_, rfl⟩
      · cbv; subst hA; simp [Ar.std, hz]
      · rw [hr, if_pos hne]
  · rename_i hge
    replace hge := ge_row hA h0 hge
    repeat refine NeedW.mk trivial ?_
    refine .mk ?_ (by simp)
    rw [hr, List.drop_eq_nil_of_le hge]
    rfl
theorem each_truck {es : List (List V)} {k : Nat}  {p : List V → Int} {r : Int} (hlen : es.length ≤ 140737488355328) (hsh : ∀ el ∈ es, ∃ c0 c1 c2 c3 c4 c5 c6 : Int, el = [.at (.int .i64 c0), .at (.int .i64 c1), .at (.int .i64 c2), .at (.int .i64 c3), .at (.int .i64 c4), .at (.int .i64 c5), .at (.int .i64 c6)])
    (hf : ∀ el ∈ es, Sound Try.prog k [.agg el] 0 [] (.at (.int .i64 (p el))) [] 0) (hr : r = eachS p es) : Sound Try.prog 61 [.row 7 es, .fn (.func k) [] []] 0 [] (.at (.int .i64 r)) [] 0 := by
  refine sound_of tbl_ok mix Try.func61 rfl rfl (of_decide_eq_true rfl) ?_
  generalize Try.prog = P at hf ⊢
  generalize hA : Ar.std = A
  cbv
  repeat refine NeedW.mk trivial ?_
  refine .mk (fun k' s => ∃ z : Int, 0 ≤ z ∧ k' + z.toNat = es.length ∧ r = eachS p (es.drop z.toNat) ∧
    s = { t := [(1, .fn (.func k) [] []), (8, .row 7 es), (10, .at (.int .i64 z)), (9, .at (.int .i64 (A.nat (A.len es))))], m := [], nx := 0 }) es.length _ (le_of hA (mv := []) (τ := []) ?_) ⟨0, by simp, by simp, by simpa using hr, rfl⟩ ?_
  · cbv <;> simp
  clear hr
  rintro k' s ⟨z, h0, hk, hr, rfl⟩
  cbv
  repeat refine NeedW.mk trivial ?_
  split <;> cbv
  · rename_i hlt
    replace hlt := lt_row hA h0 hlt
    obtain ⟨el, hel⟩ := get_lt hlt
    obtain ⟨z', hz⟩ : ∃ z', z' = z + 1 := ⟨_, rfl⟩
    rw [drop_cons h0 hel, eachS, ← hz] at hr
    have hfe := hf el (List.mem_of_getElem? hel)
    obtain ⟨b, hb⟩ : ∃ b, b = p el := ⟨_, rfl⟩
    rw [← hb] at hr hfe
    obtain ⟨c0, c1, c2, c3, c4, c5, c6, rfl⟩ := hsh el (List.mem_of_getElem? hel)
    repeat refine NeedW.mk trivial ?_
    refine .mk _ h0 hel ?_
    cbv
    repeat refine NeedW.mk trivial ?_
    refine callU hA hfe (by cbv <;> simp) rfl ?_
    cbv
    repeat refine NeedW.mk trivial ?_
    split <;> cbv
    · rename_i hne
      replace hne : b ≠ 0 := by subst hA; simpa [Ar.std] using hne
      repeat refine NeedW.mk trivial ?_
      refine .mk ?_ trivial
      rw [hr, if_neg hne]
    · rename_i hne
      replace hne : b = 0 := by subst hA; simpa [Ar.std] using hne
      repeat refine NeedW.mk trivial ?_
      refine NeedW.mk (inc_ok hA h0 hlt hlen) ?_
      repeat refine NeedW.mk trivial ?_
      refine ⟨k' - 1, _, by omega, le_of hA (mv := []) (τ := []) ?_, z', by omega, by omega, ?_, rfl⟩
      · cbv; subst hA; simp [Ar.std, hz]
      · rw [hr, if_pos hne]
  · rename_i hge
    replace hge := ge_row hA h0 hge
    repeat refine NeedW.mk trivial ?_
    refine .mk ?_ trivial
    rw [hr, List.drop_eq_nil_of_le hge]
    rfl
end L12
namespace L12
open Go Go.Abs Go.Proofs
set_option maxRecDepth 100000
theorem worldf1_ok {o : Ord} {n r : Int} {ed et eo ek : List (List V)} (hn : -9223372036854775807 ≤ n ∧ n ≤ 9223372036854775807) (hr : r = orderS o n) :
    Sound Try.prog 59 [.agg (encO o), .bptr 0 0] 1 [(0, .box 28 [.at (.int .i64 n), .row 1 ed, .row 1 et, .row 8 eo, .row 7 ek])] (.at (.int .i64 r)) [(0, .box 28 [.at (.int .i64 n), .row 1 ed, .row 1 et, .row 8 eo, .row 7 ek])] 1 := by
  refine sound_of tbl_ok mix Try.func59 rfl rfl (of_decide_eq_true rfl) ?_
  have ho := order_ok hn hr
  unfold encO at ho ⊢
  clear hr
  generalize Try.prog = P at ho ⊢
  generalize hA : Ar.std = A
  cbv
  repeat refine NeedW.mk trivial ?_
  refine call0 ho rfl rfl ?_
  cbv
  repeat refine NeedW.mk trivial ?_
  exact .mk rfl (by simp)
theorem worldf2_ok {o : Ord} : Sound Try.prog 64 [.agg (encO o)] 0 [] (.at (.int .i64 o.id)) [] 0 := by
  refine sound_of tbl_ok mix Try.func64 rfl rfl (of_decide_eq_true rfl) ?_
  unfold encO
  obtain ⟨r, hr⟩ : ∃ r, r = o.id := ⟨_, rfl⟩
  rw [← hr]
  clear hr
  generalize Try.prog = P
  generalize hA : Ar.std = A
  cbv
  repeat refine NeedW.mk trivial ?_
  exact .mk rfl trivial
theorem worldf3_ok {o : Trk} : Sound Try.prog 66 [.agg (encT o)] 0 [] (.at (.int .i64 o.id)) [] 0 := by
  refine sound_of tbl_ok mix Try.func66 rfl rfl (of_decide_eq_true rfl) ?_
  unfold encT
  obtain ⟨r, hr⟩ : ∃ r, r = o.id := ⟨_, rfl⟩
  rw [← hr]
  clear hr
  generalize Try.prog = P
  generalize hA : Ar.std = A
  cbv
  repeat refine NeedW.mk trivial ?_
  exact .mk rfl trivial
theorem alike_order {es : List (List V)} {k : Nat} {q : List V → Int} {r : Bool} (hlen : es.length ≤ 140737488355328) (hsh : ∀ el ∈ es, ∃ c0 c1 c2 c3 c4 c5 c6 c7 : Int, el = [.at (.int .i64 c0), .at (.int .i64 c1), .at (.int .i64 c2), .at (.int .i64 c3), .at (.int .i64 c4), .at (.int .i64 c5), .at (.int .i64 c6), .at (.int .i64 c7)])
    (hf : ∀ el ∈ es, Sound Try.prog k [.agg el] 0 [] (.at (.int .i64 (q el))) [] 0) (hr : r = alikeS (es.map q)) : Sound Try.prog 63 [.row 8 es, .fn (.func k) [] []] 0 [] (.at (.bool r)) [] 0 := by
  refine sound_of tbl_ok mix Try.func63 rfl rfl (of_decide_eq_true rfl) ?_
  generalize Try.prog = P at hf ⊢
  generalize hA : Ar.std = A
  cbv
  repeat refine NeedW.mk trivial ?_
  unfold alikeS at hr
  rw [List.length_map] at hr
  obtain ⟨fin, hfin⟩ : ∃ fin, fin = putAll [] (es.map q) := ⟨_, rfl⟩
  rw [← hfin] at hr
  refine .mk (fun k' s => ∃ (z : Int) (kvs : List (Int × Value)), 0 ≤ z ∧ k' + z.toNat = es.length ∧ fin = putAll kvs ((es.drop z.toNat).map q) ∧
    s = { t := [(0, .row 8 es), (1, .fn (.func k) [] []), (5, .mp 0), (9, .row 8 es), (11, .at (.int .i64 z)), (10, .at (.int .i64 (A.nat (A.len es))))], m := [(0, .map .i64 kvs)], nx := 1 }) es.length _ (le_of hA (mv := []) (τ := [(0, some 1)]) ?_) ⟨0, [], by simp, by simp, by simpa using hfin, rfl⟩ ?_
  · cbv <;> simp
  clear hfin
  rintro k' s ⟨z, kvs, h0, hk, hfin, rfl⟩
  cbv
  repeat refine NeedW.mk trivial ?_
  split <;> cbv
  · rename_i hlt
    replace hlt := lt_row hA h0 hlt
    obtain ⟨el, hel⟩ := get_lt hlt
    obtain ⟨z', hz⟩ : ∃ z', z' = z + 1 := ⟨_, rfl⟩
    rw [drop_cons h0 hel, List.map_cons, putAll, ← hz] at hfin
    have hfe := hf el (List.mem_of_getElem? hel)
    obtain ⟨b, hb⟩ : ∃ b, b = q el := ⟨_, rfl⟩
    rw [← hb] at hfin hfe
    obtain ⟨c0, c1, c2, c3, c4, c5, c6, c7, rfl⟩ := hsh el (List.mem_of_getElem? hel)
    repeat refine NeedW.mk trivial ?_
    refine .mk _ h0 hel ?_
    cbv
    repeat refine NeedW.mk trivial ?_
    refine call0 hfe rfl rfl ?_
    cbv
    repeat refine NeedW.mk trivial ?_
    refine NeedW.mk (inc_ok hA h0 hlt hlen) ?_
    repeat refine NeedW.mk trivial ?_
    refine ⟨k' - 1, _, by omega, le_of hA (mv := []) (τ := [(0, some 0)]) ?_, z', A.mput kvs b (.bool true), by omega, by omega, ?_, rfl⟩
    · cbv; subst hA; simp [Ar.std, hz]
    · rw [hfin]; subst hA; rfl
  · rename_i hge
    replace hge := ge_row hA h0 hge
    repeat refine NeedW.mk trivial ?_
    refine .mk ?_ trivial
    rw [List.drop_eq_nil_of_le hge] at hfin
    subst hA
    simp only [List.map_nil, putAll] at hfin
    subst hfin
    rw [hr]
    simp [Ar.std]
theorem alike_truck {es : List (List V)} {k : Nat} {q : List V → Int} {r : Bool} (hlen : es.length ≤ 140737488355328) (hsh : ∀ el ∈ es, ∃ c0 c1 c2 c3 c4 c5 c6 : Int, el = [.at (.int .i64 c0), .at (.int .i64 c1), .at (.int .i64 c2), .at (.int .i64 c3), .at (.int .i64 c4), .at (.int .i64 c5), .at (.int .i64 c6)])
    (hf : ∀ el ∈ es, Sound Try.prog k [.agg el] 0 [] (.at (.int .i64 (q el))) [] 0) (hr : r = alikeS (es.map q)) : Sound Try.prog 65 [.row 7 es, .fn (.func k) [] []] 0 [] (.at (.bool r)) [] 0 := by
  refine sound_of tbl_ok mix Try.func65 rfl rfl (of_decide_eq_true rfl) ?_
  generalize Try.prog = P at hf ⊢
  generalize hA : Ar.std = A
  cbv
  repeat refine NeedW.mk trivial ?_
  unfold alikeS at hr
  rw [List.length_map] at hr
  obtain ⟨fin, hfin⟩ : ∃ fin, fin = putAll [] (es.map q) := ⟨_, rfl⟩
  rw [← hfin] at hr
  refine .mk (fun k' s => ∃ (z : Int) (kvs : List (Int × Value)), 0 ≤ z ∧ k' + z.toNat = es.length ∧ fin = putAll kvs ((es.drop z.toNat).map q) ∧
    s = { t := [(0, .row 7 es), (1, .fn (.func k) [] []), (5, .mp 0), (9, .row 7 es), (11, .at (.int .i64 z)), (10, .at (.int .i64 (A.nat (A.len es))))], m := [(0, .map .i64 kvs)], nx := 1 }) es.length _ (le_of hA (mv := []) (τ := [(0, some 1)]) ?_) ⟨0, [], by simp, by simp, by simpa using hfin, rfl⟩ ?_
  · cbv <;> simp
  clear hfin
  rintro k' s ⟨z, kvs, h0, hk, hfin, rfl⟩
  cbv
  repeat refine NeedW.mk trivial ?_
  split <;> cbv
  · rename_i hlt
    replace hlt := lt_row hA h0 hlt
    obtain ⟨el, hel⟩ := get_lt hlt
    obtain ⟨z', hz⟩ : ∃ z', z' = z + 1 := ⟨_, rfl⟩
    rw [drop_cons h0 hel, List.map_cons, putAll, ← hz] at hfin
    have hfe := hf el (List.mem_of_getElem? hel)
    obtain ⟨b, hb⟩ : ∃ b, b = q el := ⟨_, rfl⟩
    rw [← hb] at hfin hfe
    obtain ⟨c0, c1, c2, c3, c4, c5, c6, rfl⟩ := hsh el (List.mem_of_getElem? hel)
    repeat refine NeedW.mk trivial ?_
    refine .mk _ h0 hel ?_
    cbv
    repeat refine NeedW.mk trivial ?_
    refine call0 hfe rfl rfl ?_
    cbv
    repeat refine NeedW.mk trivial ?_
    refine NeedW.mk (inc_ok hA h0 hlt hlen) ?_
    repeat refine NeedW.mk trivial ?_
    refine ⟨k' - 1, _, by omega, le_of hA (mv := []) (τ := [(0, some 0)]) ?_, z', A.mput kvs b (.bool true), by omega, by omega, ?_, rfl⟩
    · cbv; subst hA; simp [Ar.std, hz]
    · rw [hfin]; subst hA; rfl
  · rename_i hge
    replace hge := ge_row hA h0 hge
    repeat refine NeedW.mk trivial ?_
    refine .mk ?_ trivial
    rw [List.drop_eq_nil_of_le hge] at hfin
    subst hA
    simp only [List.map_nil, putAll] at hfin
    subst hfin
    rw [hr]
    simp [Ar.std]
end L12
namespace L12
open Go Go.Abs Go.Proofs
set_option maxRecDepth 100000
theorem load_ok {w : Wld} {r : Int} (hw : WOk w) (hn : -9223372036854775807 ≤ w.n) (hr : r = loadS w) : Sound Try.prog 38 [.agg (encW w)] 0 [] (.at (.int .i64 r)) [] 0 := by
  refine sound_of tbl_ok mix Try.func38 rfl rfl (of_decide_eq_true rfl) ?_
  have e1 := fun ed et => @each_order (w.orders.map encO) 59 w.n ed et (w.orders.map encO) (w.trucks.map encT) (onO fun o => orderS o w.n) _ (by simpa using hw.o) encO_shape (fun el he => by
    obtain ⟨o, _, rfl⟩ := List.mem_map.1 he
    rw [onO_enc]
    exact worldf1_ok ⟨hn, hw.n⟩ rfl) rfl
  have e2 := @each_truck (w.trucks.map encT) 62 (onT truckS) _ (by simpa using hw.k) encT_shape (fun el he => by
    obtain ⟨o, _, rfl⟩ := List.mem_map.1 he
    rw [onT_enc]
    exact truck_ok rfl) rfl
  have e3 := @alike_order (w.orders.map encO) 64 (onO Ord.id) _ (by simpa using hw.o) encO_shape (fun el he => by
    obtain ⟨o, _, rfl⟩ := List.mem_map.1 he
    rw [onO_enc]
    exact worldf2_ok) rfl
  have e4 := @alike_truck (w.trucks.map encT) 66 (onT Trk.id) _ (by simpa using hw.k) encT_shape (fun el he => by
    obtain ⟨o, _, rfl⟩ := List.mem_map.1 he
    rw [onT_enc]
    exact worldf3_ok) rfl
  rw [eachS_map encO _ (fun o => orderS o w.n) (onO_enc _)] at e1
  rw [eachS_map encT _ truckS (onT_enc _)] at e2
  rw [List.map_map, show onO Ord.id ∘ encO = Ord.id from funext (onO_enc _)] at e3
  rw [List.map_map, show onT Trk.id ∘ encT = Trk.id from funext (onT_enc _)] at e4
  unfold loadS at hr
  obtain ⟨x1, h1⟩ : ∃ x, x = eachS (fun o => orderS o w.n) w.orders := ⟨_, rfl⟩
  obtain ⟨x2, h2⟩ : ∃ x, x = eachS truckS w.trucks := ⟨_, rfl⟩
  obtain ⟨x3, h3⟩ : ∃ x, x = alikeS (w.orders.map Ord.id) := ⟨_, rfl⟩
  obtain ⟨x4, h4⟩ : ∃ x, x = alikeS (w.trucks.map Trk.id) := ⟨_, rfl⟩
  rw [← h1] at e1 hr
  rw [← h2] at e2 hr
  rw [← h3] at e3 hr
  rw [← h4] at e4 hr
  clear h1 h2 h3 h4
  unfold encW
  obtain ⟨eo, heo⟩ : ∃ x, x = w.orders.map encO := ⟨_, rfl⟩
  obtain ⟨ek, hek⟩ : ∃ x, x = w.trucks.map encT := ⟨_, rfl⟩
  have l1 : eo.length = w.orders.length := by rw [heo]; simp
  have l2 : ek.length = w.trucks.length := by rw [hek]; simp
  rw [← l1, ← l2] at hr
  rw [← heo, ← hek] at e1 ⊢
  rw [← hek] at e2 e4
  rw [← heo] at e3
  generalize w.dist.map cellI = ed
  generalize w.time.map cellI = et
  replace e1 := e1 ed et
  clear heo hek l1 l2
  obtain ⟨n, hn⟩ : ∃ n, n = w.n := ⟨_, rfl⟩
  rw [← hn] at e1 ⊢
  clear hn hw
  generalize Try.prog = P at e1 e2 e3 e4 ⊢
  generalize hA : Ar.std = A
  cbv
  repeat refine NeedW.mk trivial ?_
  repeat' (first
    | refine NeedW.mk trivial ?_
    | (refine callU hA e1 (by cbv <;> simp) rfl ?_; cbv)
    | (refine call0 e2 rfl rfl ?_; cbv)
    | (refine call0 e3 rfl rfl ?_; cbv)
    | (refine call0 e4 rfl rfl ?_; cbv)
    | (split <;> cbv)
    | (refine RetE.mk ?_ trivial; subst hA; simp_all [Ar.std]; try omega; done))
end L12
