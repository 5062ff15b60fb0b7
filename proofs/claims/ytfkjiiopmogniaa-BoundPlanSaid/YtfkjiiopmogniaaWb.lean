/- Contracts of the functions of layer 12, each walked once over the abstract machine. -/
import Derived.Test.YtfkjiiopmogniaaWa
import Derived.Test.YtfkjiiopmogniaaAb5
import Derived.Test.YtfkjiiopmogniaaLs
namespace L12
open Go Go.Abs Go.Proofs
set_option maxRecDepth 100000
theorem world_ok {w : Wld} {r : Int} (hw : WOk w) (hr : r = worldS w) : Sound Try.prog 15 [.agg (encW w)] 0 [] (.at (.int .i64 r)) [] 0 := by
  refine sound_of tbl_ok mix Try.func15 rfl rfl (of_decide_eq_true rfl) ?_
  have e1 := area_ok (n := w.n) hw.d hw.t rfl
  have hn : areaS w.n w.dist w.time = 0 → -9223372036854775807 ≤ w.n := fun h => by
    unfold areaS at h
    split at h
    · contradiction
    · rename_i hh; omega
  have e2 := fun h => load_ok hw (hn h) rfl
  unfold worldS at hr
  obtain ⟨x1, h1⟩ : ∃ x, x = areaS w.n w.dist w.time := ⟨_, rfl⟩
  obtain ⟨x2, h2⟩ : ∃ x, x = loadS w := ⟨_, rfl⟩
  rw [← h1] at e1 e2 hr
  rw [← h2] at e2 hr
  clear h1 h2 hn
  unfold encW at e2 ⊢
  unfold cellI at e2 ⊢
  generalize w.orders.map encO = eo at e2 ⊢
  generalize w.trucks.map encT = ek at e2 ⊢
  generalize (w.dist.map fun n => [V.at (.int .i64 n)]) = ed at e1 e2 ⊢
  generalize (w.time.map fun n => [V.at (.int .i64 n)]) = et at e1 e2 ⊢
  generalize w.n = n at e1 e2 ⊢
  generalize Try.prog = P at e1 e2 ⊢
  generalize hA : Ar.std = A
  cbv
  repeat refine NeedW.mk trivial ?_
  repeat' (first
    | refine NeedW.mk trivial ?_
    | (refine call0 e1 rfl rfl ?_; cbv)
    | (refine call0 (e2 (by subst hA; simp_all [Ar.std])) rfl rfl ?_; cbv)
    | (split <;> cbv)
    | (refine RetE.mk ?_ trivial; subst hA; simp_all [Ar.std]; try omega; done))
theorem find1_ok {o : Ord} {id : Int} {r : Bool} (hr : r = (o.id == id)) : Sound Try.prog 54 [.agg (encO o), .bptr 0 0] 1 [(0, .box 3 [.at (.int .i64 id)])] (.at (.bool r)) [(0, .box 3 [.at (.int .i64 id)])] 1 := by
  refine sound_of tbl_ok mix Try.func54 rfl rfl (of_decide_eq_true rfl) ?_
  unfold encO
  obtain ⟨x, hx⟩ : ∃ x, x = o.id := ⟨_, rfl⟩
  rw [← hx] at hr ⊢
  clear hx
  generalize Try.prog = P
  generalize hA : Ar.std = A
  cbv
  repeat refine NeedW.mk trivial ?_
  refine .mk ?_ (by simp)
  subst hA hr
  rfl
theorem truck1_ok {o : Trk} {id : Int} {r : Bool} (hr : r = (o.id == id)) : Sound Try.prog 68 [.agg (encT o), .bptr 2 0] 3 [(2, .box 3 [.at (.int .i64 id)])] (.at (.bool r)) [(2, .box 3 [.at (.int .i64 id)])] 3 := by
  refine sound_of tbl_ok mix Try.func68 rfl rfl (of_decide_eq_true rfl) ?_
  unfold encT
  obtain ⟨x, hx⟩ : ∃ x, x = o.id := ⟨_, rfl⟩
  rw [← hx] at hr ⊢
  clear hx
  generalize Try.prog = P
  generalize hA : Ar.std = A
  cbv
  repeat refine NeedW.mk trivial ?_
  refine .mk ?_ (by simp)
  subst hA hr
  rfl
theorem find_ok {l : List Ord} {id r : Int} (hl : LOk l.length) (hr : r = findS l id) : Sound Try.prog 28 [.row 8 (l.map encO), .at (.int .i64 id)] 0 [] (.at (.int .i64 r)) [] 0 := by
  refine sound_of tbl_ok mix Try.func28 rfl rfl (of_decide_eq_true rfl) ?_
  have e1 := @idx_order (l.map encO) 54 id (onO fun o => o.id == id) _ (by simpa using hl) encO_shape (fun el he => by
    obtain ⟨o, _, rfl⟩ := List.mem_map.1 he
    rw [onO_enc]
    exact find1_ok rfl) rfl
  rw [idxOf_map encO _ (fun o => o.id == id) (onO_enc _), show idxS (fun o : Ord => o.id == id) 0 l = r from hr.symm] at e1
  clear hr
  generalize l.map encO = es at e1 ⊢
  generalize Try.prog = P at e1 ⊢
  generalize hA : Ar.std = A
  cbv
  repeat refine NeedW.mk trivial ?_
  refine callU hA e1 (by cbv <;> simp) rfl ?_
  cbv
  repeat refine NeedW.mk trivial ?_
  exact .mk rfl trivial
theorem truckAt_ok {w : Wld} {id r : Int} (hl : LOk w.trucks.length) (hr : r = truckAt w.trucks id) : Sound Try.prog 39 [.agg (encW w), .at (.int .i64 id)] 0 [] (.at (.int .i64 r)) [] 0 := by
  refine sound_of tbl_ok mix Try.func39 rfl rfl (of_decide_eq_true rfl) ?_
  have e1 := @idx_truck (w.trucks.map encT) 68 id (onT fun o => o.id == id) _ (by simpa using hl) encT_shape (fun el he => by
    obtain ⟨o, _, rfl⟩ := List.mem_map.1 he
    rw [onT_enc]
    exact truck1_ok rfl) rfl
  rw [idxOf_map encT _ (fun o => o.id == id) (onT_enc _), show idxS (fun o : Trk => o.id == id) 0 w.trucks = r from hr.symm] at e1
  clear hr
  unfold encW
  generalize w.trucks.map encT = es at e1 ⊢
  generalize w.orders.map encO = eo
  generalize w.dist.map cellI = ed
  generalize w.time.map cellI = et
  generalize w.n = n
  generalize Try.prog = P at e1 ⊢
  generalize hA : Ar.std = A
  cbv
  repeat refine NeedW.mk trivial ?_
  refine callU hA e1 (by cbv <;> simp) rfl ?_
  cbv
  repeat refine NeedW.mk trivial ?_
  exact .mk rfl trivial
theorem all_ok {n : Int} {dist time nodes : List Int} {r : Int} (hd : LOk dist.length) (ht : LOk time.length) (hl : LOk nodes.length) (hr : r = allS n dist time nodes) :
    Sound Try.prog 57 [.agg [.at (.int .i64 n), .row 1 (dist.map cellI), .row 1 (time.map cellI)], .row 1 (nodes.map cellI)] 0 [] (.at (.int .i64 r)) [] 0 := by
  refine sound_of tbl_ok mix Try.func57 rfl rfl (of_decide_eq_true rfl) ?_
  have e1 := area_ok (n := n) hd ht rfl
  unfold allS at hr
  obtain ⟨x1, h1⟩ : ∃ x, x = areaS n dist time := ⟨_, rfl⟩
  rw [← h1] at e1 hr
  clear h1
  unfold cellI
  generalize (dist.map fun n => [V.at (.int .i64 n)]) = ed at e1 ⊢
  generalize (time.map fun n => [V.at (.int .i64 n)]) = et at e1 ⊢
  generalize hes : (nodes.map fun n => [V.at (.int .i64 n)]) = es
  have hn : es.length = nodes.length := by subst hes; simp
  have hget : ∀ z x, nodes[Int.toNat z]? = some x → es[Int.toNat z]? = some [V.at (.int .i64 x)] := fun z x h => by subst hes; simp [h]
  generalize Try.prog = P at e1 ⊢
  generalize hA : Ar.std = A
  cbv
  repeat refine NeedW.mk trivial ?_
  refine call0 e1 rfl rfl ?_
  cbv
  repeat refine NeedW.mk trivial ?_
  split <;> cbv
  · rename_i hne
    replace hne : x1 ≠ 0 := by subst hA; simpa [Ar.std] using hne
    repeat refine NeedW.mk trivial ?_
    refine .mk ?_ trivial
    rw [hr, if_pos hne]
  · rename_i hne
    replace hne : x1 = 0 := by subst hA; simpa [Ar.std] using hne
    rw [if_neg (by omega)] at hr
    repeat refine NeedW.mk trivial ?_
    refine .mk (fun k s => ∃ z : Int, 0 ≤ z ∧ k + z.toNat = nodes.length ∧ (r = if ((nodes.drop z.toNat).any fun x => decide (x < 0) || decide (n ≤ x)) = true then 5 else 0) ∧
      s = { t := [(2, .bptr 0 0), (13, .row 1 es), (15, .at (.int .i64 z)), (14, .at (.int .i64 (A.nat (A.len es))))], m := [(0, .box 24 [.at (.int .i64 n), .row 1 ed, .row 1 et])], nx := 1 }) nodes.length _ (le_of hA (mv := []) (τ := [(0, some 0)]) ?_) ⟨0, by simp, by simp, by simpa using hr, rfl⟩ ?_
    · cbv <;> simp
    clear hr
    rintro k s ⟨z, h0, hi, hr, rfl⟩
    cbv
    repeat refine NeedW.mk trivial ?_
    split <;> cbv
    · rename_i hlt
      replace hlt := lt_row hA h0 hlt
      obtain ⟨x, hx⟩ := get_lt (l := nodes) (hn ▸ hlt)
      obtain ⟨z', hz⟩ : ∃ z', z' = z + 1 := ⟨_, rfl⟩
      rw [drop_cons h0 hx, List.any_cons, ← hz] at hr
      repeat refine NeedW.mk trivial ?_
      refine .mk _ h0 (hget z x hx) ?_
      cbv
      repeat refine NeedW.mk trivial ?_
      repeat' (first
        | refine NeedW.mk trivial ?_
        | refine NeedW.mk (inc_ok hA h0 hlt (hn ▸ hl)) ?_
        | (refine RetE.mk ?_ trivial; rw [hr, if_pos]; clear hr hget; subst hA; simp_all [Ar.std]; done)
        | (refine ⟨k - 1, _, by omega, le_of hA (mv := []) (τ := [(0, some 0)]) (by cbv; subst hA; simp [Ar.std, hz]), z', by omega, by omega, ?_, rfl⟩; rw [hr]; have : (decide (x < 0) || decide (n ≤ x)) = false := (by clear hr hget; subst hA; simp_all [Ar.std]; done); rw [this]; rfl)
        | (split <;> cbv))
    · rename_i hge
      replace hge := ge_row hA h0 hge
      repeat refine NeedW.mk trivial ?_
      refine .mk ?_ trivial
      rw [hr, List.drop_eq_nil_of_le (by omega)]
      rfl
end L12
namespace L12
open Go Go.Abs Go.Proofs
set_option maxRecDepth 100000
theorem leg_ok {n a b : Int} {dist time : List Int} {d t e : Int} (hd : LOk dist.length) (ht : LOk time.length) (hr : (d, t, e) = legS n dist time a b) :
    Sound Try.prog 32 [.agg [.at (.int .i64 n), .row 1 (dist.map cellI), .row 1 (time.map cellI)], .at (.int .i64 a), .at (.int .i64 b)] 0 [] (.tup [.at (.int .i64 d), .at (.int .i64 t), .at (.int .i64 e)]) [] 0 := by
  refine sound_of tbl_ok mix Try.func32 rfl rfl (of_decide_eq_true rfl) ?_
  have e1 := all_ok (n := n) (nodes := [a, b]) hd ht (by simp) rfl
  unfold legS at hr
  obtain ⟨x1, h1⟩ : ∃ x, x = allS n dist time [a, b] := ⟨_, rfl⟩
  rw [← h1] at e1 hr
  simp only [List.map, cellI] at e1
  unfold cellI at e1 ⊢
  have hgd : ∀ z : Int, z.toNat < dist.length → (dist.map fun n => [V.at (.int .i64 n)])[z.toNat]? = some [.at (.int .i64 (dist.getD z.toNat 0))] := fun z h => by
    rw [List.getElem?_map, List.getElem?_eq_getElem h, List.getD_eq_getElem?_getD, List.getElem?_eq_getElem h]; rfl
  have hgt : ∀ z : Int, z.toNat < time.length → (time.map fun n => [V.at (.int .i64 n)])[z.toNat]? = some [.at (.int .i64 (time.getD z.toNat 0))] := fun z h => by
    rw [List.getElem?_map, List.getElem?_eq_getElem h, List.getD_eq_getElem?_getD, List.getElem?_eq_getElem h]; rfl
  generalize (dist.map fun n => [V.at (.int .i64 n)]) = ed at e1 hgd ⊢
  generalize (time.map fun n => [V.at (.int .i64 n)]) = et at e1 hgt ⊢
  generalize Try.prog = P at e1 ⊢
  generalize hA : Ar.std = A
  cbv
  repeat refine NeedW.mk trivial ?_
  refine callV hA [8] e1 (by cbv; subst hA; simp [Ar.std, ClE, V.cl]) (by cbv; subst hA; simp [Ar.std]) rfl rfl ?_
  cbv
  repeat refine NeedW.mk trivial ?_
  split <;> cbv
  · rename_i hne
    replace hne : x1 ≠ 0 := by subst hA; simpa [Ar.std] using hne
    repeat refine NeedW.mk trivial ?_
    refine .mk ?_ trivial
    rw [if_pos hne] at hr
    obtain ⟨rfl, rfl, rfl⟩ : d = 0 ∧ t = 0 ∧ e = x1 := by simpa using hr
    rfl
  · rename_i hne
    replace hne : x1 = 0 := by subst hA; simpa [Ar.std] using hne
    rw [if_neg (by omega)] at hr
    rw [hne] at h1
    obtain ⟨q0, q1, q2, q3, q4⟩ := legS_ok h1.symm
    obtain ⟨p1, p2, p3, p4⟩ := areaS_ok q4
    obtain ⟨s1, s2, s3, s4⟩ := at_ok q0 q1 q2 q3 p2
    obtain ⟨m, hm⟩ : ∃ m, m = a * n := ⟨_, rfl⟩
    obtain ⟨z, hz⟩ : ∃ z, z = m + b := ⟨_, rfl⟩
    rw [← hm] at hr s1 s2 s3 s4
    rw [← hz] at hr s3 s4
    have hzd : z.toNat < dist.length := by omega
    have hzt : z.toNat < time.length := by omega
    have hz' : A.add (A.mul a n) b = z := by subst hA; simp [Ar.std, hz, hm]
    repeat refine NeedW.mk trivial ?_
    refine NeedW.mk (by subst hA; refine inr64 ?_; simp only [Ar.std]; omega) ?_
    repeat refine NeedW.mk trivial ?_
    refine NeedW.mk (by subst hA; refine inr64 ?_; simp only [Ar.std]; omega) ?_
    repeat refine NeedW.mk trivial ?_
    simp only [Prod.mk.injEq] at hr
    have gd := hgd z hzd
    have gt := hgt z hzt
    rw [← hr.1] at gd
    rw [← hr.2.1] at gt
    refine .mk rfl ?_
    cbv
    repeat refine NeedW.mk trivial ?_
    refine ElW.at hz' s3 gd ?_
    cbv
    repeat refine NeedW.mk trivial ?_
    refine ElW.at hz' s3 gt ?_
    cbv
    repeat refine NeedW.mk trivial ?_
    refine .mk ?_ trivial
    rw [hr.2.2]
end L12
namespace L12
open Go Go.Abs Go.Proofs
set_option maxRecDepth 100000
theorem clone_int {es : List (List V)} (hlen : es.length * 8 ≤ 140737488355328) (hone : OneE es) (hcl : ClE es) :
    Sound Try.prog 27 [.row 1 es] 0 [] (.msl 1 0 0 es.length) [(0, .arr 3 1 es)] 1 := by
  refine sound_ofL tbl_ok mix Try.func27 rfl rfl (of_decide_eq_true rfl) ?_
  obtain ⟨n, hn⟩ : ∃ n, n = es.length := ⟨_, rfl⟩
  rw [← hn]
  generalize Try.prog = P
  generalize hA : Ar.std = A
  cbv
  repeat refine NeedW.mk trivial ?_
  refine .mk fun b hb => ?_
  cbv
  repeat refine NeedW.mk trivial ?_
  split <;> cbv
  · rename_i h
    have he : es = [] := hb (by subst hA; simpa [Ar.std] using h)
    have h0 : n = 0 := by rw [hn, he]; rfl
    repeat refine NeedW.mk trivial ?_
    refine .mk { t := [(2, .msl 1 0 0 n)], m := [(0, .arr 3 1 es)], nx := 1 } (le_of hA (mv := []) (τ := [(0, none)]) ?_) ?_
    · cbv; simp [h0, he]
    · cbv
      refine .mk rfl ?_
      simp
      exact hcl
  · repeat refine NeedW.mk trivial ?_
    refine NeedW.mk (by subst hA; exact ⟨rfl, hone, by simpa [Ar.std] using hlen⟩) ?_
    repeat refine NeedW.mk trivial ?_
    refine .mk { t := [(2, .msl 1 0 0 n)], m := [(0, .arr 3 1 es)], nx := 1 } (le_of hA (mv := []) (τ := [(0, some 6)]) ?_) ?_
    · cbv; subst hA; simp [Ar.std, hn]; exact hcl
    · cbv
      refine .mk rfl ?_
      simp
      exact hcl
theorem clone_i64 {es : List (List V)} (hlen : es.length * 8 ≤ 140737488355328) (hone : OneE es) (hcl : ClE es) :
    Sound Try.prog 49 [.row 1 es] 5 [] (.msl 1 5 0 es.length) [(5, .arr 2 1 es)] 6 := by
  refine sound_ofL tbl_ok mix Try.func49 rfl rfl (of_decide_eq_true rfl) ?_
  obtain ⟨n, hn⟩ : ∃ n, n = es.length := ⟨_, rfl⟩
  rw [← hn]
  generalize Try.prog = P
  generalize hA : Ar.std = A
  cbv
  repeat refine NeedW.mk trivial ?_
  refine .mk fun b hb => ?_
  cbv
  repeat refine NeedW.mk trivial ?_
  split <;> cbv
  · rename_i h
    have he : es = [] := hb (by subst hA; simpa [Ar.std] using h)
    have h0 : n = 0 := by rw [hn, he]; rfl
    repeat refine NeedW.mk trivial ?_
    refine .mk { t := [(2, .msl 1 5 0 n)], m := [(5, .arr 2 1 es)], nx := 6 } (le_of hA (mv := []) (τ := [(5, none)]) ?_) ?_
    · cbv; simp [h0, he]
    · cbv
      refine .mk rfl ?_
      simp
      exact hcl
  · repeat refine NeedW.mk trivial ?_
    refine NeedW.mk (by subst hA; exact ⟨rfl, hone, by simpa [Ar.std] using hlen⟩) ?_
    repeat refine NeedW.mk trivial ?_
    refine .mk { t := [(2, .msl 1 5 0 n)], m := [(5, .arr 2 1 es)], nx := 6 } (le_of hA (mv := []) (τ := [(5, some 11)]) ?_) ?_
    · cbv; subst hA; simp [Ar.std, hn]; exact hcl
    · cbv
      refine .mk rfl ?_
      simp
      exact hcl
theorem mul_ok {a b r e : Int} (hr : (r, e) = mulS a b) : Sound Try.prog 50 [.at (.int .i64 a), .at (.int .i64 b)] 0 [] (.tup [.at (.int .i64 r), .at (.int .i64 e)]) [] 0 := by
  refine sound_of tbl_ok mix Try.func50 rfl rfl (of_decide_eq_true rfl) ?_
  have h45 := @may_ok
  generalize Try.prog = P at h45 ⊢
  generalize hA : Ar.std = A
  obtain ⟨x1, h1⟩ : ∃ x, x = may a := ⟨_, rfl⟩
  obtain ⟨x2, h2⟩ : ∃ x, x = may b := ⟨_, rfl⟩
  cbv
  repeat' (first
    | refine NeedW.mk trivial ?_
    | (refine call0 (h45 h1) rfl rfl ?_; cbv)
    | (refine call0 (h45 h2) rfl rfl ?_; cbv)
    | (refine RetE.mk ?_ trivial; subst hA; simp_all [Ar.std, mulS]; done)
    | (refine NeedW.mk (by subst hA; refine inr64 ?_; simp_all [Ar.std, may_iff]; omega) ?_)
    | (split <;> cbv))
  · refine .mk ?_ trivial
    subst hA
    simp only [Ar.std] at *
    have : b = 0 := by simp_all
    have ha : may a = true := by rw [← h1]; simpa using ‹(!x1) = false›
    have hb : may b = true := by rw [← h2]; simp_all
    have h0 : may 0 = true := rfl
    simp [mulS, ha, hb, this, h0] at hr
    rw [hr.1, hr.2]
  · have ha : may a = true := by subst hA; simp_all [Ar.std]
    have hb : may b = true := by subst hA; simp_all [Ar.std]
    have ha0 : a ≠ 0 := by subst hA; simp_all [Ar.std]
    have hb0 : b ≠ 0 := by subst hA; simp_all [Ar.std]
    have hd := div_in b hb0
    have hm := mul_le a b hb0
    rename_i hlt
    have hq : may (a * b) = false := by
      subst hA
      simp only [Ar.std, mx_abs, decide_eq_true_eq] at hlt
      cases h : may (a * b) with
      | false => rfl
      | true =>
        have := hm.2 h
        omega
    refine NeedW.mk ?_ ?_
    · subst hA
      simp only [Ar.std, mx_abs]
      exact ⟨⟨by omega, hd.1⟩, inr64 (by omega)⟩
    repeat refine NeedW.mk trivial ?_
    refine .mk ?_ trivial
    simp [mulS, ha, hb, ha0, hb0, hq] at hr
    rw [hr.1, hr.2]
  · have ha : may a = true := by subst hA; simp_all [Ar.std]
    have hb : may b = true := by subst hA; simp_all [Ar.std]
    have ha0 : a ≠ 0 := by subst hA; simp_all [Ar.std]
    have hb0 : b ≠ 0 := by subst hA; simp_all [Ar.std]
    have hd := div_in b hb0
    have hm := mul_le a b hb0
    rename_i hlt
    have hq : may (a * b) = true := by
      subst hA
      simp only [Ar.std, mx_abs, decide_eq_true_eq] at hlt
      exact hm.1 (by omega)
    refine NeedW.mk ?_ ?_
    · subst hA
      simp only [Ar.std, mx_abs]
      exact ⟨⟨by omega, hd.1⟩, inr64 (by omega)⟩
    repeat refine NeedW.mk trivial ?_
    refine NeedW.mk ?_ ?_
    · subst hA
      have := may_iff.1 hq
      exact inr64 (by simp only [Ar.std]; omega)
    repeat refine NeedW.mk trivial ?_
    refine .mk ?_ trivial
    simp [mulS, ha, hb, ha0, hb0, hq] at hr
    rw [hr.1, hr.2]
    subst hA
    rfl
  · refine .mk ?_ trivial
    have ha : may a = true := by subst hA; simp_all [Ar.std]
    have hb : may b = true := by subst hA; simp_all [Ar.std]
    have ha0 : a = 0 := by subst hA; simp_all [Ar.std]
    have h0 : may 0 = true := rfl
    simp [mulS, ha, hb, ha0, h0] at hr
    rw [hr.1, hr.2]
end L12
namespace L12
open Go Go.Abs Go.Proofs
set_option maxRecDepth 100000
theorem worth_ok {ei : List (List V)} {inn : List Int} {back rate fixed bound r : Int} (hlen : (inn.length + 1) * 8 ≤ 140737488355328) (hr : r = worthS inn back rate fixed) :
    Sound Try.prog 23 [.agg [.row 1 ei, .row 1 (inn.map cellI), .at (.int .i64 back), .at (.int .i64 rate), .at (.int .i64 fixed), .at (.int .i64 bound)]] 0 [] (.at (.int .i64 r)) [] 0 := by
  refine sound_of tbl_ok mix Try.func23 rfl rfl (of_decide_eq_true rfl) ?_
  unfold worthS at hr
  have hcl : ClE (inn.map cellI) := by intro e he x hx; obtain ⟨y, _, rfl⟩ := List.mem_map.1 he; simp [cellI] at hx; subst hx; rfl
  have e1 := @clone_i64 (inn.map cellI) (by simp; omega) (by intro e he x hx; obtain ⟨y, _, rfl⟩ := List.mem_map.1 he; simp [cellI] at hx; subst hx; rfl) (by intro e he x hx; obtain ⟨y, _, rfl⟩ := List.mem_map.1 he; simp [cellI] at hx; subst hx; rfl)
  obtain ⟨s, s', h1⟩ : ∃ s s', (s, s') = sumS (inn ++ [back]) := ⟨_, _, rfl⟩
  have e2 := sum_ok (by simp; omega) h1
  rw [← h1] at hr
  obtain ⟨m, m', h2⟩ : ∃ y y', (y, y') = mulS rate s := ⟨_, _, rfl⟩
  have e3 := mul_ok h2
  simp only at hr
  rw [← h2] at hr
  obtain ⟨t, t', h3⟩ : ∃ y y', (y, y') = addS fixed m := ⟨_, _, rfl⟩
  have e4 := add_ok h3
  simp only at hr
  rw [← h3] at hr
  clear h1 h2 h3
  have hl : (inn.map cellI).length = inn.length := by simp
  have ha : ((inn ++ [back]).map fun n => [V.at (.int .i64 n)]) = inn.map cellI ++ [[.at (.int .i64 back)]] := by simp [cellI]
  rw [ha] at e2
  generalize inn.map cellI = es at *
  obtain ⟨n, hn⟩ : ∃ n, n = es.length := ⟨_, rfl⟩
  rw [← hn] at e1 hl
  clear ha
  obtain ⟨es2, hes2⟩ : ∃ x, x = es ++ [[V.at (.int .i64 back)]] := ⟨_, rfl⟩
  rw [← hes2] at e2
  generalize Try.prog = P at *
  generalize hA : Ar.std = A
  cbv
  repeat refine NeedW.mk trivial ?_
  refine .mk rfl ?_
  cbv
  repeat refine NeedW.mk trivial ?_
  refine callC hA (mi := []) (mv := []) (nx' := 6) (by cbv <;> simp) rfl e1 ?_
  cbv
  repeat refine NeedW.mk trivial ?_
  refine NeedW.mk ?_ ?_
  · subst hA
    simp [Ar.std, hn, V.one, Value.oneCell']
    omega
  refine callV hA [11] e2 (by
    cbv; subst hA; simp [Ar.std, hn]
    intro e he x hx
    rcases he with he | rfl
    · exact hcl e he x hx
    · simp at hx; subst hx; rfl) (by cbv; subst hA; simp [Ar.std, hn, hes2]; rw [List.take_of_length_le (by simp)]) rfl rfl ?_
  cbv
  repeat refine NeedW.mk trivial ?_
  clear e1 e2
  repeat' (first
    | refine NeedW.mk trivial ?_
    | (refine call0 e3 rfl rfl ?_; cbv)
    | (refine call0 e4 rfl rfl ?_; cbv)
    | (split <;> cbv)
    | (refine RetE.mk ?_ trivial; rw [hr]; subst hA; simp_all [Ar.std]; try omega; done))
end L12
namespace L12
open Go Go.Abs Go.Proofs
set_option maxRecDepth 100000
theorem least_truck {es : List (List V)} {k : Nat}  {p : List V → Int} {r : Int} (hlen : LOk es.length) (hsh : ∀ el ∈ es, ∃ c0 c1 c2 c3 c4 c5 c6 : Int, el = [.at (.int .i64 c0), .at (.int .i64 c1), .at (.int .i64 c2), .at (.int .i64 c3), .at (.int .i64 c4), .at (.int .i64 c5), .at (.int .i64 c6)])
    (hf : ∀ c0 c1 c2 c3 c4 c5 c6 : Int, [.at (.int .i64 c0), .at (.int .i64 c1), .at (.int .i64 c2), .at (.int .i64 c3), .at (.int .i64 c4), .at (.int .i64 c5), .at (.int .i64 c6)] ∈ es → Sound Try.prog k [.agg [.at (.int .i64 c0), .at (.int .i64 c1), .at (.int .i64 c2), .at (.int .i64 c3), .at (.int .i64 c4), .at (.int .i64 c5), .at (.int .i64 c6)]] 0 [] (.at (.int .i64 (p [.at (.int .i64 c0), .at (.int .i64 c1), .at (.int .i64 c2), .at (.int .i64 c3), .at (.int .i64 c4), .at (.int .i64 c5), .at (.int .i64 c6)]))) [] 0) (hr : r = leastS p es) : Sound Try.prog 33 [.row 7 es, .fn (.func k) [] []] 0 [] (.at (.int .i64 r)) [] 0 := by
  refine sound_of tbl_ok mix Try.func33 rfl rfl (of_decide_eq_true rfl) ?_
  generalize Try.prog = P at hf ⊢
  generalize hA : Ar.std = A
  cbv
  repeat refine NeedW.mk trivial ?_
  refine .mk (fun k' s => ∃ z out : Int, 0 ≤ z ∧ k' + z.toNat = es.length ∧ r = leastGo p (decide (z = 0)) out (es.drop z.toNat) ∧
    s = { t := [(1, .fn (.func k) [] []), (9, .row 7 es), (11, .at (.int .i64 z)), (10, .at (.int .i64 (A.nat (A.len es)))), (5, .at (.int .i64 out))], m := [], nx := 0 }) es.length _ (le_of hA (mv := []) (τ := []) ?_) ⟨0, 0, by simp, by simp, by simpa [leastS] using hr, rfl⟩ ?_
  · cbv <;> simp
  clear hr
  rintro k' s ⟨z, out, h0, hk, hr, rfl⟩
  cbv
  repeat refine NeedW.mk trivial ?_
  split <;> cbv
  · rename_i hlt
    replace hlt := lt_row hA h0 hlt
    obtain ⟨el, hel⟩ := get_lt hlt
    obtain ⟨z', hz⟩ : ∃ z', z' = z + 1 := ⟨_, rfl⟩
    rw [drop_cons h0 hel, leastGo, ← hz] at hr
    obtain ⟨c0, c1, c2, c3, c4, c5, c6, rfl⟩ := hsh el (List.mem_of_getElem? hel)
    have hfe := hf c0 c1 c2 c3 c4 c5 c6 (List.mem_of_getElem? hel)
    obtain ⟨b, hb⟩ : ∃ b, b = p [.at (.int .i64 c0), .at (.int .i64 c1), .at (.int .i64 c2), .at (.int .i64 c3), .at (.int .i64 c4), .at (.int .i64 c5), .at (.int .i64 c6)] := ⟨_, rfl⟩
    rw [← hb] at hr hfe
    repeat refine NeedW.mk trivial ?_
    refine .mk _ h0 hel ?_
    cbv
    repeat refine NeedW.mk trivial ?_
    refine callU hA hfe (by cbv <;> simp) rfl ?_
    cbv
    repeat refine NeedW.mk trivial ?_
    repeat' (first
      | refine NeedW.mk trivial ?_
      | refine NeedW.mk (inc_ok hA h0 hlt hlen) ?_
      | (refine ⟨k' - 1, _, by omega, le_of hA (mv := []) (τ := []) ?le, z', b, by omega, by omega, ?eq, rfl⟩
         case le => cbv; subst hA; simp [Ar.std, hz]
         case eq =>
           rw [hr, show decide (z' = 0) = false from by simp; omega]
           congr 1
           clear hr hf hsh hel hb
           subst hA
           simp_all [Ar.std]
           try (intros; omega)
           done)
      | (refine ⟨k' - 1, _, by omega, le_of hA (mv := []) (τ := []) ?le, z', out, by omega, by omega, ?eq, rfl⟩
         case le => cbv; subst hA; simp [Ar.std, hz]
         case eq =>
           rw [hr, show decide (z' = 0) = false from by simp; omega]
           congr 1
           clear hr hf hsh hel hb
           subst hA
           simp_all [Ar.std]
           try (intros; omega)
           done)
      | (split <;> cbv))
  · rename_i hge
    replace hge := ge_row hA h0 hge
    repeat refine NeedW.mk trivial ?_
    refine .mk ?_ trivial
    rw [hr, List.drop_eq_nil_of_le hge]
    rfl
end L12
namespace L12
open Go Go.Abs Go.Proofs
set_option maxRecDepth 100000
theorem values_ok {es : List (List V)} : Sound Try.prog 25 [.row 1 es] 0 [] (.fn (.func 52) [] [.bptr 0 0]) [(0, .box 29 [.row 1 es])] 1 := by
  refine sound_of tbl_ok mix Try.func25 rfl rfl (of_decide_eq_true rfl) ?_
  generalize Try.prog = P
  generalize hA : Ar.std = A
  cbv
  repeat refine NeedW.mk trivial ?_
  refine .mk rfl (by simp)
/-- The memory that AppendSeq's rounds see. -/
def memA (lc : LoopC) (es : List (List V)) (b : Nat) (n : Nat) (pre : List (List V)) : Mem := [(0, .box 29 [.row 1 es]), (3, .loop [0, 1] lc none), (1, .box 29 [.msl 1 b 0 n]), (b, .arr 3 1 pre)]
def memAt (z : Nat) (l : List Int) (n : Nat) (pre : List (List V)) : Prop := n = z ∧ pre = (l.take z).map cellI
theorem memAt_cl {z : Nat} {l : List Int} {n : Nat} {pre : List (List V)} (h : memAt z l n pre) : ClE pre := by
  intro e he x hx
  rw [h.2] at he
  obtain ⟨y, _, rfl⟩ := List.mem_map.1 he
  simp [cellI] at hx
  subst hx
  rfl
theorem values1_ok {lc : LoopC} {l : List Int} {es : List (List V)} (hes : es = l.map cellI) (hlen : LOk l.length)
    (hy : ∀ (z : Nat) (x : Int) n pre n' pre', l[z]? = some x → memAt z l n pre → memAt (z + 1) l n' pre' → SoundY Try.prog 3 [.at (.int .i64 x)] 4 (memA lc es 2 n pre) (.at (.bool true)) (memA lc es 4 n' pre') 5) {n pre} (hn : memAt l.length l n pre) :
    Sound Try.prog 52 [.yld 3, .bptr 0 0] 4 (memA lc es 2 0 []) (.tup []) (memA lc es 4 n pre) 5 := by
  refine sound_ofL tbl_ok mix Try.func52 rfl rfl (of_decide_eq_true rfl) ?_
  have hl : es.length = l.length := by subst hes; simp
  have hget : ∀ z x, l[Int.toNat z]? = some x → es[Int.toNat z]? = some [V.at (.int .i64 x)] := fun z x h => by subst hes; simp [h, cellI]
  generalize Try.prog = P at *
  generalize hA : Ar.std = A
  cbv
  repeat refine NeedW.mk trivial ?_
  refine .mk (fun k s => ∃ (z : Int) (n : Nat) (pre : List (List V)), 0 ≤ z ∧ k + z.toNat = es.length ∧ memAt z.toNat l n pre ∧
    s = { t := [(7, .at (.int .i64 z)), (6, .at (.int .i64 (A.nat (A.len es)))), (5, .row 1 es), (0, .yld 3), (1, .bptr 0 0)], m := memA lc es 5 n pre, nx := 6 }) es.length _ (le_of hA (mv := []) (τ := [(0, some 0), (1, some 1), (5, some 2), (3, some 3)]) ?_) ⟨0, 0, [], by simp, by simp, ⟨rfl, rfl⟩, rfl⟩ ?_
  · cbv
    simp [ClE]
  rintro k s ⟨z, n1, pre1, h0, hk, hpre, rfl⟩
  cbv
  repeat refine NeedW.mk trivial ?_
  split <;> cbv
  · rename_i hlt
    replace hlt := lt_row hA h0 hlt
    obtain ⟨x, hx⟩ := get_lt (l := l) (hl ▸ hlt)
    obtain ⟨z', hz⟩ : ∃ z', z' = z + 1 := ⟨_, rfl⟩
    repeat refine NeedW.mk trivial ?_
    refine .mk _ h0 (hget z x hx) ?_
    cbv
    repeat refine NeedW.mk trivial ?_
    obtain ⟨n2, pre2, hpre2⟩ : ∃ n2 pre2, memAt (z.toNat + 1) l n2 pre2 := ⟨_, _, rfl, rfl⟩
    have hc1 := memAt_cl hpre
    have hc2 := memAt_cl hpre2
    refine callYR hA 13 [(0, 0), (1, 1), (2, 5), (3, 3)] (hy z.toNat x n1 pre1 n2 pre2 hx hpre hpre2) (by cbv; simp; exact ⟨hc1, hc2⟩) rfl rfl (by cbv; simp; exact hc1) ?_
    cbv
    repeat refine NeedW.mk trivial ?_
    rw [if_neg (by subst hA; simp [Ar.std])]
    cbv
    repeat refine NeedW.mk trivial ?_
    refine NeedW.mk (inc_ok hA h0 hlt (hl ▸ hlen)) ?_
    repeat refine NeedW.mk trivial ?_
    refine ⟨k - 1, _, by omega, le_of hA (mv := []) (τ := [(0, some 0), (1, some 1), (5, some 12), (3, some 3)]) ?_, z', n2, pre2, by omega, by omega, by rw [show z'.toNat = z.toNat + 1 by omega]; exact hpre2, rfl⟩
    cbv; subst hA; simp [Ar.std, hz]; exact hc2
  · rename_i hge
    replace hge := ge_row hA h0 hge
    repeat refine NeedW.mk trivial ?_
    have h1 : n1 = n ∧ pre1 = pre := by
      obtain ⟨e1, e2⟩ := hpre
      obtain ⟨e3, e4⟩ := hn
      have : z.toNat = l.length := by omega
      rw [e1, e2, e3, e4, this]
      exact ⟨rfl, rfl⟩
    obtain ⟨rfl, rfl⟩ := h1
    have hc := memAt_cl hpre
    refine .mk { t := [], m := memA lc es 4 n1 pre1, nx := 5 } (le_of hA (mv := []) (τ := [(0, some 0), (1, some 1), (4, some 5), (3, some 3)]) ?_) ?_
    · cbv; simp; exact hc
    · cbv
      refine .mk rfl ?_
      simp
      exact hc
theorem app_ok {l : List Int} {es : List (List V)} (hes : es = l.map cellI) (hlen : LOk l.length) (hlen8 : l.length * 8 ≤ 140737488355328) {n} (hn : n = l.length) :
    Sound Try.prog 82 [.at (.slice none 0 0), .fn (.func 52) [] [.bptr 0 0]] 1 [(0, .box 29 [.row 1 es])] (.msl 1 4 0 n) [(4, .arr 3 1 es)] 5 := by
  refine sound_of tbl_ok mix Try.func82 rfl rfl (of_decide_eq_true rfl) ?_
  have hv := fun lc => @values1_ok lc l es hes hlen
  have hT := tbl_ok
  have hmix := mix
  generalize Try.prog = P at *
  generalize hA : Ar.std = A
  cbv
  repeat refine NeedW.mk trivial ?_
  refine rangeC hA [] [(1, some 1), (2, none), (0, some 0)] { t := [(6, .fn (.func 52) [] [.bptr 0 0]), (2, .bptr 1 0)], m := [(0, .box 29 [.row 1 es]), (1, .box 29 [.msl 1 2 0 0]), (2, .arr 3 1 [])], nx := 3 } 52 [.bptr 0 0] ?_ rfl [0, 1] ?_ fun lc hlc => ?_
  · cbv; simp [ClE]
  · cbv
  obtain ⟨n1, pre1, hpre1⟩ : ∃ n1 pre1, memAt l.length l n1 pre1 := ⟨_, _, rfl, rfl⟩
  refine ⟨memA lc es 2 0 [], memA lc es 4 n1 pre1, .tup [], 5, none, hv lc ?_ hpre1, ?_, ?_⟩
  · intro z x n pre n' pre' hx hpre hpre'
    refine soundY_of hA hT hmix hlc rfl (by cbv) ?_
    cbv
    repeat refine NeedW.mk trivial ?_
    obtain ⟨hpn, hpp⟩ := hpre
    have hz : z < l.length := (List.getElem?_eq_some_iff.1 hx).1
    have hpl : ((l.take z).map cellI).length = z := by simp; omega
    have hp' : pre' = (l.take z).map cellI ++ [[.at (.int .i64 x)]] := by rw [hpre'.2, List.take_add_one, hx]; simp [cellI]
    rw [← hpp] at hpl hp'
    refine NeedW.mk ?_ ?_
    · subst hA
      simp [Ar.std, hpl, hpn, V.one, Value.oneCell']
      omega
    have hc := memAt_cl hpre'
    refine .mk { t := [], m := [(0, .box 29 [.row 1 es]), (1, .box 29 [.msl 1 4 0 n']), (4, .arr 3 1 pre')], nx := 12 } (le_of hA (mv := []) (τ := [(0, some 0), (1, some 1), (4, some 9)]) ?_) rfl ?_
    · cbv; subst hA; simp [Ar.std, hpl, hpre'.1, ← hp']
      exact hc
    · cbv; simp
      exact hc
  · cbv; simp [ClE]
  · cbv
    repeat refine NeedW.mk trivial ?_
    have h1 : n1 = n ∧ pre1 = es := by
      obtain ⟨e1, e2⟩ := hpre1
      rw [e1, e2, hes, hn, List.take_length]
      exact ⟨rfl, rfl⟩
    obtain ⟨rfl, rfl⟩ := h1
    refine .mk rfl ?_
    simp
    exact memAt_cl hpre1
end L12
namespace L12
open Go Go.Abs Go.Proofs
set_option maxRecDepth 100000
theorem sort_ok {l : List Int} (hl : l.length < 4611686018427387904) {b nx n : Nat} (hn : n = l.length) {es es' : List (List V)} (hes : es = l.map cellI) (hes' : es' = (sortI l).map cellI) :
    Sound Try.prog 21 [.msl 1 b 0 n] nx [(b, .arr 3 1 es)] (.tup []) [(b, .arr 3 1 es')] nx :=
  sort_sound ⟨_, Try.func21, rfl, rfl⟩ (fun blk off cap zs w h1 h2 h3 => Any.slices_Sort_int lays189 blk off cap zs w h1 h2 h3) (fun p cap w => Any.slices_Sort_int_none lays189 p cap w) hl hn hes hes'
theorem cl_int {l : List Int} {es : List (List V)} (hes : es = l.map cellI) : ClE es := by
  rw [hes]
  intro e he x hx
  obtain ⟨y, _, rfl⟩ := List.mem_map.1 he
  simp [cellI] at hx
  subst hx
  rfl
theorem collect_ok {l : List Int} {es : List (List V)} (hes : es = l.map cellI) (hlen : LOk l.length) (hlen8 : l.length * 8 ≤ 140737488355328) {n} (hn : n = l.length) :
    Sound Try.prog 51 [.fn (.func 52) [] [.bptr 0 0]] 1 [(0, .box 29 [.row 1 es])] (.msl 1 6 0 n) [(6, .arr 3 1 es)] 9 := by
  refine sound_of tbl_ok mix Try.func51 rfl rfl (of_decide_eq_true rfl) ?_
  have ha := app_ok hes hlen hlen8 hn
  have hc := cl_int hes
  generalize Try.prog = P at *
  generalize hA : Ar.std = A
  cbv
  repeat refine NeedW.mk trivial ?_
  refine callR hA 7 [(0, 0)] ha (by cbv; simp; exact hc) rfl (by cbv) ?_
  cbv
  repeat refine NeedW.mk trivial ?_
  refine .mk rfl ?_
  simp
  exact hc
theorem sorted_ok {l : List Int} {es es' : List (List V)} (hes : es = l.map cellI) (hes' : es' = (sortI l).map cellI) (hlen : LOk l.length) (hlen8 : l.length * 8 ≤ 140737488355328) {n} (hn : n = l.length) :
    Sound Try.prog 24 [.fn (.func 52) [] [.bptr 0 0]] 1 [(0, .box 29 [.row 1 es])] (.msl 1 1 0 n) [(1, .arr 3 1 es')] 2 := by
  refine sound_ofL tbl_ok mix Try.func24 rfl rfl (of_decide_eq_true rfl) ?_
  have ha := collect_ok hes hlen hlen8 hn
  have hs := fun b nx => @sort_ok l (by unfold LOk at hlen; omega) b nx n hn es es' hes hes'
  have hc := cl_int hes
  have hc' : ClE es' := cl_int hes'
  generalize Try.prog = P at *
  generalize hA : Ar.std = A
  cbv
  repeat refine NeedW.mk trivial ?_
  refine callR hA 12 [(0, 0)] ha (by cbv; simp; exact hc) rfl (by cbv) ?_
  cbv
  repeat refine NeedW.mk trivial ?_
  refine callC hA (mi := [(8, .arr 3 1 es)]) (mv := []) (nx' := 15) (by cbv; simp; exact hc) rfl (hs 8 15) ?_
  cbv
  repeat refine NeedW.mk trivial ?_
  refine .mk { t := [(2, .msl 1 1 0 n)], m := [(1, .arr 3 1 es')], nx := 2 } (le_of hA (mv := []) (τ := [(1, some 8)]) ?_) ?_
  · cbv; simp; exact hc'
  · cbv
    refine .mk rfl ?_
    simp
    exact hc'
end L12
namespace L12
open Go Go.Abs Go.Proofs
set_option maxRecDepth 100000
theorem equal_ok {l l' : List Int} {es es' : List (List V)} (hes : es = l.map cellI) (hes' : es' = l'.map cellI) (hlen : LOk l.length) {r : Bool} (hr : r = decide (l = l')) :
    Sound Try.prog 18 [.row 1 es, .row 1 es'] 0 [] (.at (.bool r)) [] 0 := by
  refine sound_of tbl_ok mix Try.func18 rfl rfl (of_decide_eq_true rfl) ?_
  have h1 : es.length = l.length := by subst hes; simp
  have h2 : es'.length = l'.length := by subst hes'; simp
  have hget : ∀ z x, l[Int.toNat z]? = some x → es[Int.toNat z]? = some [V.at (.int .i64 x)] := fun z x h => by subst hes; simp [h, cellI]
  have hget' : ∀ z x, l'[Int.toNat z]? = some x → es'[Int.toNat z]? = some [V.at (.int .i64 x)] := fun z x h => by subst hes'; simp [h, cellI]
  generalize Try.prog = P
  generalize hA : Ar.std = A
  cbv
  repeat refine NeedW.mk trivial ?_
  split <;> cbv
  · rename_i h
    replace h : l.length ≠ l'.length := by subst hA; simp [Ar.std] at h; omega
    repeat refine NeedW.mk trivial ?_
    refine .mk ?_ trivial
    rw [hr, decide_eq_false]
    intro e; exact h (by rw [e])
  · rename_i h
    replace h : l.length = l'.length := by subst hA; simp [Ar.std] at h; omega
    repeat refine NeedW.mk trivial ?_
    refine .mk (fun k s => ∃ z : Int, 0 ≤ z ∧ k + z.toNat = es.length ∧ r = decide (l.drop z.toNat = l'.drop z.toNat) ∧
      s = { t := [(13, .at (.int .i64 z)), (12, .at (.int .i64 (A.nat (A.len es)))), (0, .row 1 es), (1, .row 1 es')], m := [], nx := 0 }) es.length _ (le_of hA (mv := []) (τ := []) ?_) ⟨0, by simp, by simp, by simpa using hr, rfl⟩ ?_
    · cbv <;> simp
    clear hr
    rintro k s ⟨z, h0, hk, hr, rfl⟩
    cbv
    repeat refine NeedW.mk trivial ?_
    split <;> cbv
    · rename_i hlt
      replace hlt := lt_row hA h0 hlt
      obtain ⟨x, hx⟩ := get_lt (l := l) (h1 ▸ hlt)
      obtain ⟨y, hy⟩ := get_lt (l := l') (z := z) (by omega)
      obtain ⟨z', hz⟩ : ∃ z', z' = z + 1 := ⟨_, rfl⟩
      rw [drop_cons h0 hx, drop_cons h0 hy, ← hz] at hr
      repeat refine NeedW.mk trivial ?_
      refine .mk rfl ?_
      cbv
      repeat refine NeedW.mk trivial ?_
      refine .mk _ h0 (hget z x hx) ?_
      cbv
      repeat refine NeedW.mk trivial ?_
      refine .mk _ h0 (hget' z y hy) ?_
      cbv
      repeat refine NeedW.mk trivial ?_
      split <;> cbv
      · rename_i hne
        replace hne : x ≠ y := by subst hA; simpa [Ar.std] using hne
        repeat refine NeedW.mk trivial ?_
        refine .mk ?_ trivial
        rw [hr, decide_eq_false]
        simp [hne]
      · rename_i hne
        replace hne : x = y := by subst hA; simpa [Ar.std] using hne
        repeat refine NeedW.mk trivial ?_
        refine NeedW.mk (inc_ok hA h0 hlt (h1 ▸ hlen)) ?_
        repeat refine NeedW.mk trivial ?_
        refine ⟨k - 1, _, by omega, le_of hA (mv := []) (τ := []) ?_, z', by omega, by omega, ?_, rfl⟩
        · cbv; subst hA; simp [Ar.std, hz]
        · rw [hr]; simp [hne]
    · rename_i hge
      replace hge := ge_row hA h0 hge
      repeat refine NeedW.mk trivial ?_
      refine .mk ?_ trivial
      rw [hr, List.drop_eq_nil_of_le (by omega), List.drop_eq_nil_of_le (by omega)]
      rfl
theorem nan1_ok {x : Int} : Sound Try.prog 84 [.at (.int .i64 x)] 0 [] (.at (.bool false)) [] 0 := by
  refine sound_of tbl_ok mix Try.func84 rfl rfl (of_decide_eq_true rfl) ?_
  generalize Try.prog = P
  generalize hA : Ar.std = A
  cbv
  repeat refine NeedW.mk trivial ?_
  refine .mk ?_ trivial
  subst hA
  simp [Ar.std]
theorem nan2_ok {x : Int} : Sound Try.prog 71 [.at (.int .i64 x)] 0 [] (.at (.bool false)) [] 0 := by
  refine sound_of tbl_ok mix Try.func71 rfl rfl (of_decide_eq_true rfl) ?_
  generalize Try.prog = P
  generalize hA : Ar.std = A
  cbv
  repeat refine NeedW.mk trivial ?_
  refine .mk ?_ trivial
  subst hA
  simp [Ar.std]
theorem less_ok {x y : Int} : Sound Try.prog 70 [.at (.int .i64 x), .at (.int .i64 y)] 0 [] (.at (.bool (decide (x < y)))) [] 0 := by
  refine sound_of tbl_ok mix Try.func70 rfl rfl (of_decide_eq_true rfl) ?_
  have h1 := @nan1_ok
  obtain ⟨r, hr⟩ : ∃ r, r = decide (x < y) := ⟨_, rfl⟩
  rw [← hr]
  generalize Try.prog = P at h1 ⊢
  generalize hA : Ar.std = A
  cbv
  repeat refine NeedW.mk trivial ?_
  refine call0 h1 rfl rfl ?_
  cbv
  repeat refine NeedW.mk trivial ?_
  refine .mk ?_ trivial
  rw [hr]
  subst hA
  simp [Ar.std]
theorem bs_ok {l : List Int} {es : List (List V)} (hes : es = l.map cellI) (hlen : LOk l.length) (hs : l.Pairwise (fun x y => x ≤ y)) {t : Int} {i : Int} {r : Bool} (hi : i = lowI l t) (hr : r = l.contains t) :
    Sound Try.prog 44 [.row 1 es, .at (.int .i64 t)] 0 [] (.tup [.at (.int .i64 i), .at (.bool r)]) [] 0 := by
  refine sound_of tbl_ok mix Try.func44 rfl rfl (of_decide_eq_true rfl) ?_
  have h1 : es.length = l.length := by subst hes; simp
  have hget : ∀ z x, l[Int.toNat z]? = some x → es[Int.toNat z]? = some [V.at (.int .i64 x)] := fun z x h => by subst hes; simp [h, cellI]
  have hn := @nan2_ok
  have hl := @less_ok
  generalize Try.prog = P at *
  generalize hA : Ar.std = A
  cbv
  repeat refine NeedW.mk trivial ?_
  obtain ⟨low, hlow⟩ : ∃ low, low = lowI l t := ⟨_, rfl⟩
  have hb := @low_le l t
  rw [← hlow] at hb hi
  obtain ⟨N, hN⟩ : ∃ N : Int, N = l.length := ⟨_, rfl⟩
  have hN0 : 0 ≤ N ∧ N ≤ 140737488355328 ∧ N.toNat = l.length ∧ N.toNat = es.length := by have : l.length ≤ 140737488355328 := hlen; omega
  rw [← hN] at hb
  clear hN
  have hiff : ∀ (k : Nat) (x : Int), l[k]? = some x → (x < t ↔ k < low.toNat) := fun k x hx => by have := low_iff hs (t := t) hx; have := @low_le l t; rw [hlow]; omega
  have hs' : ∀ (i j : Nat) (x y : Int), l[i]? = some x → l[j]? = some y → i ≤ j → x ≤ y := fun i j x y hx hy hij => by
    obtain ⟨q1, q2⟩ := List.getElem?_eq_some_iff.1 hx
    obtain ⟨q3, q4⟩ := List.getElem?_eq_some_iff.1 hy
    rcases Nat.lt_or_eq_of_le hij with h | h
    · have := List.pairwise_iff_getElem.1 hs i j q1 q3 h
      omega
    · subst h; omega
  clear hlow hs
  refine .mk (fun k s => ∃ i j : Int, 0 ≤ i ∧ i ≤ low ∧ low ≤ j ∧ j ≤ N ∧ k = (j - i).toNat ∧
    s = { t := [(8, .at (.int .i64 j)), (7, .at (.int .i64 i)), (6, .at (.int .i64 (A.nat (A.len es)))), (0, .row 1 es), (1, .at (.int .i64 t))], m := [], nx := 8 }) N.toNat _ (le_of hA (mv := []) (τ := []) ?_) ⟨0, N, by omega, by omega, by omega, by omega, by omega, rfl⟩ ?_
  · cbv
    subst hA
    simp [Ar.std]
    omega
  rintro k s ⟨a, b, h0, h2, h3, h4, hk, rfl⟩
  cbv
  repeat refine NeedW.mk trivial ?_
  split <;> cbv
  · rename_i hlt
    replace hlt : a < b := by subst hA; simpa [Ar.std] using hlt
    repeat refine NeedW.mk trivial ?_
    obtain ⟨h, hh⟩ : ∃ h, h = (a + b) / 2 := ⟨_, rfl⟩
    have hh1 : a ≤ h := by omega
    have hh2 : h < b := by omega
    have hh' : A.shr (A.add a b) 1 = h := by subst hA; simp [Ar.std, hh]
    refine NeedW.mk (by subst hA; refine inr64 ?_; clear hh'; simp only [Ar.std]; omega) ?_
    repeat refine NeedW.mk trivial ?_
    refine NeedW.mk (by subst hA; refine inru64 ?_; clear hh'; simp only [Ar.std]; omega) ?_
    repeat refine NeedW.mk trivial ?_
    refine NeedW.mk (by subst hA; simp [Ar.std, IntKind.bits]) ?_
    repeat refine NeedW.mk trivial ?_
    refine NeedW.mk (by subst hA; refine inr64 ?_; simp only [Ar.std] at hh' ⊢; omega) ?_
    repeat refine NeedW.mk trivial ?_
    obtain ⟨x, hx⟩ := get_lt (l := l) (z := h) (by omega)
    refine ElW.at hh' (by omega) (hget h x hx) ?_
    cbv
    repeat refine NeedW.mk trivial ?_
    obtain ⟨r1, hr1⟩ : ∃ r, r = decide (x < t) := ⟨_, rfl⟩
    have hl' := @hl x t
    rw [← hr1] at hl'
    refine call0 hl' rfl rfl ?_
    cbv
    repeat refine NeedW.mk trivial ?_
    have hx2 := hiff h.toNat x hx
    split <;> cbv
    · rename_i hr2
      rw [hr1] at hr2
      have : x < t := by simpa using hr2
      repeat refine NeedW.mk trivial ?_
      refine NeedW.mk (by subst hA; refine inr64 ?_; simp only [Ar.std] at hh' ⊢; omega) ?_
      repeat refine NeedW.mk trivial ?_
      refine ⟨(b - (h + 1)).toNat, _, by omega, le_of hA (mv := []) (τ := []) ?_, h + 1, b, by omega, by omega, by omega, by omega, rfl, rfl⟩
      obtain ⟨h', hh''⟩ : ∃ h', h' = h + 1 := ⟨_, rfl⟩
      rw [← hh'']
      cbv; subst hA; simp only [Ar.std] at hh'; simp [Ar.std, hh', hh'']
    · rename_i hr2
      rw [hr1] at hr2
      have : ¬ x < t := by simpa using hr2
      repeat refine NeedW.mk trivial ?_
      refine ⟨(h - a).toNat, _, by omega, le_of hA (mv := []) (τ := []) ?_, a, h, by omega, by omega, by omega, by omega, rfl, rfl⟩
      cbv; subst hA; simp only [Ar.std] at hh'; simp [Ar.std, hh']
  · rename_i hge
    replace hge : ¬ a < b := by subst hA; simpa [Ar.std] using hge
    obtain rfl : a = i := by omega
    obtain ⟨n, hn'⟩ : ∃ n, n = l.length := ⟨_, rfl⟩
    have none_of : (∀ k, l[k]? ≠ some t) → l.contains t = false := fun h => by
      cases hq : l.contains t with
      | false => rfl
      | true =>
        obtain ⟨k, hk⟩ := List.getElem?_of_mem (List.contains_iff_mem.1 hq)
        exact absurd hk (h k)
    split <;> cbv
    · rename_i hlt
      replace hlt := lt_row hA h0 hlt
      obtain ⟨x, hx⟩ := get_lt (l := l) (h1 ▸ hlt)
      have hx2 := hiff a.toNat x hx
      repeat refine NeedW.mk trivial ?_
      refine ElW.at rfl h0 (hget a x hx) ?_
      cbv
      repeat refine NeedW.mk trivial ?_
      split <;> cbv
      · rename_i hne
        replace hne : ¬ x = t := by subst hA; simpa [Ar.std] using hne
        repeat refine NeedW.mk trivial ?_
        refine ElW.at rfl h0 (hget a x hx) ?_
        cbv
        repeat refine NeedW.mk trivial ?_
        refine call0 hn rfl rfl ?_
        cbv
        repeat refine NeedW.mk trivial ?_
        refine .mk ?_ trivial
        have : l.contains t = false := none_of fun k hk => by
          have h5 := hiff k t hk
          have h8 : k ≠ a.toNat := fun e => by
            subst e
            rw [hx] at hk
            exact hne (by simpa using hk)
          have := hs' a.toNat k x t hx hk
          omega
        rw [hr]
        subst hA
        simp [Ar.std]
        simpa using this
      · rename_i hne
        replace hne : x = t := by subst hA; simpa [Ar.std] using hne
        repeat refine NeedW.mk trivial ?_
        refine .mk ?_ trivial
        have : l.contains t = true := List.contains_iff_mem.2 (hne ▸ List.mem_of_getElem? hx)
        rw [hr]
        subst hA
        simp [Ar.std]
        simpa using this
    · rename_i hge
      replace hge := ge_row hA h0 hge
      repeat refine NeedW.mk trivial ?_
      refine .mk ?_ trivial
      have : l.contains t = false := none_of fun k hk => by
        have h5 := hiff k t hk
        have h6 := (List.getElem?_eq_some_iff.1 hk).1
        omega
      rw [hr]
      simpa using this
end L12
