/- Part of the proof of LabelMakesCardSaid. -/
import Derived.Test.YtclnbgdojccheaaGreatDoorLabCard4M14
import Derived.Test.YtclnbgdojccheaaGreatDoorLabCard4M11
section
set_option linter.all false
set_option linter.unusedVariables false
set_option linter.unusedSimpArgs false
set_option maxRecDepth 100000
set_option maxHeartbeats 8000000
attribute [local irreducible] Go.Den.W Go.Den.WL Go.Den.WX Go.Den.WQ Go.Den.QR Go.Den.WG Go.Den.WO Go.Den.WK Go.Den.grows Go.Den.stepOp Go.Den.callV Go.Den.den
namespace Go.Den
@[go_sem] theorem ids_cv (H : Hp) (k : Nat) (x : Value) : ids H k (.v x) = [] := by cases k <;> rfl
@[go_sem] theorem ids_ro (H : Hp) (k : Nat) (cs n) : ids H k (.ro cs n) = [] := by cases k <;> rfl
@[go_sem] theorem ids_sl (H : Hp) (k : Nat) (b cs n) : ids H k (sl b cs n) = [] := by rcases sl_cases b cs n with ⟨h, _, rfl⟩ | h <;> rw [h] <;> cases k <;> rfl
@[go_sem] theorem ids_agg (H : Hp) (k : Nat) (cs) : ids H (k + 1) (.agg cs) = cs.flatMap (ids H k) := rfl
@[go_sem] theorem ids_cown (H : Hp) (k id off n sz : Nat) : ids H (k + 1) (.own id off n sz) = id :: (match getR H id with
      | some r => ((r.cells.drop off).take (n * sz)).flatMap (ids H k)
      | none => []) := rfl
@[go_sem] theorem lookup_eq (E : Env) (t x k ok H) : lookupC E t x k ok H = (match mapT E t, mapCells H x with
  | some (kk, vt), some cs => if isKeyC kk k = true ∧ keysOk kk cs = true then match findM k cs 0 with
      | some j => match cs[2 * j + 1]? with
        | some v => some (if ok then .tup [v, .v (.bool true)] else v)
        | none => none
      | none => match E.ty vt with
        | some i => some (if ok then .tup [i.zv, .v (.bool false)] else i.zv)
        | none => none
    else none
  | _, _ => none) := rfl
@[go_sem] theorem update_eq (E : Env) (t id k v H) : updateC E t (.mp id) k v H = (match mapT E t with
  | some (kk, _) => match getM H id with
    | some r => if r.live = true ∧ isKeyC kk k = true ∧ keysOk kk r.cells = true then match findM k r.cells 0 with
        | some j => some (H.set id (.row { r with cells := r.cells.set (2 * j + 1) v }))
        | none => some (H.set id (.row { r with cells := r.cells ++ [k, v] }))
      else none
    | none => none
  | none => none) := by
  unfold updateC
  cases mapT E t with
  | none => rfl
  | some q => rfl
@[go_sem] theorem mapT_eq (E : Env) (t) : mapT E t = (match E.ty t with
  | some i => match i.k with
    | .map k v => match kT E k with
      | some kk => some (kk, v)
      | none => none
    | _ => none
  | none => none) := rfl
@[go_sem] theorem mapCells_mp (H : Hp) (id) : mapCells H (.mp id) = (getM H id).map (·.cells) := rfl
@[go_sem] theorem isKey_int (k k' n) : isKeyC (.int k) (.v (.int k' n)) = decide (k' = k) := rfl
@[go_sem] theorem keysOk_nil (k) : keysOk k [] = true := rfl
@[go_sem] theorem keysOk_cons (k y v l) : keysOk k (y :: v :: l) = (isKeyC k y && keysOk k l) := rfl
@[go_sem] theorem findM_nil (x i) : findM x [] i = none := rfl
@[go_sem] theorem findM_cons (x y v l i) : findM x (y :: v :: l) i = if keyEqC x y then some i else findM x l (i + 1) := rfl
@[go_sem] theorem keyEq_int (k a k' b) : keyEqC (.v (.int k a)) (.v (.int k' b)) = (a == b) := rfl
@[go_sem] theorem kind_self (k : IntKind) : (k = k) = True := by simp
theorem callV_share {E : Env} {d : Nat} {g : FuncId} {H H1 : Hp} {r r' : CV} {args args' : List CV} (hp : E.prim g = none) (hi : E.inl g = false) (hf : E.frz g = false) (hs : omap (snap H depth) args = some args') (hd : den E d g args' [] = some (r, H1)) (hr : release H1 r = some r') (hv : args.flatMap (ids H depth) = []) : callV E (den E d) g args H = some (install H r') := by
  have e : callV E (den E d) g args H = callB E (den E d) g args H := by simp only [callV, hp, hi]; rfl
  rw [e]
  unfold callB
  simp only [hs, hd, hr, hf, hv, Bool.false_eq_true, if_false, List.isEmpty_nil, if_true]
  split <;> rfl
end Go.Den
namespace Go.Age
open Go.Den Go.Proofs
theorem c61 (d : Nat) (r0 r1 r2 r3 : Row) : callV E (den E (d + 7)) 187 [.agg [nilSl, nilSl, nilSl, i64 0]] [.row r0, .row r1, .row r2, .row r3] =
    some (.op 5 0, [.row r0, .row r1, .row r2, .row r3, .row ⟨[nilSl, nilSl, nilSl, i64 0], 25, 4, true⟩, .row ⟨[nilSl, nilSl, nilSl, i64 0, i64 0], 202, 5, true⟩]) := callV_inl rfl rfl (k61 d r0 r1 r2 r3)
theorem c83 (d : Nat) (id : Int) (r0 r1 r2 r3 r4 r6 r7 r8 : Row) : callV E (den E (d + 9)) 213 [.op 5 0, i64 1, .agg [i64 0, i64 1, i64 1, .own 9 0 1 2]]
      [.row r0, .row r1, .row r2, .row r3, .row r4, .row ⟨[nilSl, nilSl, nilSl, i64 0, i64 0], 202, 5, true⟩, .row r6, .row r7, .row r8, .row ⟨[i64 id, i64 1], 66, 2, true⟩] =
    some (.tup [], [.row r0, .row r1, .row r2, .row r3, .row r4, .row ⟨[nilSl, .own 14 0 1 4, nilSl, i64 0, i64 0], 202, 5, true⟩, .row r6, .row r7, .row r8, .row ⟨[i64 id, i64 1], 66, 2, false⟩,
      .row ⟨[i64 1, i64 1, i64 1, .own 9 0 1 2], 53, 4, true⟩, .row ⟨[i64 0, i64 0, i64 0, nilSl], 53, 4, true⟩, .row ⟨[i64 1, i64 1, i64 1, .own 9 0 1 2], 53, 4, true⟩, .row ⟨[i64 1, i64 1, i64 1, .own 9 0 1 2], 53, 4, false⟩, .row ⟨[i64 1, i64 1, i64 1, .ro [i64 id, i64 1] 1], 53, 4, true⟩]) := callV_inl rfl rfl (k83 d id r0 r1 r2 r3 r4 r6 r7 r8)
theorem f56 (d : Nat) (f : FillD) (hs : FillSm f) : ∃ H0, den E (d + 3) 182 [.agg (stepC f)] [] = some (bl (fillS f), H0) := by
  refine den_ex Tryz.func182 rfl Tryz.ntmps182 (by simp) _ Tryz.results182 ?_
  have kf := fun H => c81 d f H hs
  repeat' (first | refine i_seq ?_ | refine k_seq ?_ | refine i_region ?_ | refine l_o ?_ | refine l_nil ?_ | (show RD _ _; refine e_do (by simp (disch := omega) only [go_sem, seval, kf, id_t (n := 1) (by omega)]; exact IsX.mk) ?_) | refine s_f ?_ | refine f_s ?_ | refine f_n ?_ | refine st2 ?_)
  rfl
@[go_sem] theorem c56 (d : Nat) (f : FillD) (H : Hp) (hs : FillSm f) : callV E (den E (d + 3)) 182 [.agg (stepC f)] H = some (bl (fillS f), H) := callV_plain rfl rfl rfl (by simp (disch := omega) only [go_sem, seval]) (f56 d f hs) rfl
theorem f85 (d : Nat) (m : Nat) (H : Hp) : den E (d + 1) 215 [.mp m] H = some (.fn 236 [.op H.length 0], H ++ [.row ⟨[.mp m], 151, 1, true⟩]) := by
  refine den_eq Tryz.func215 rfl Tryz.ntmps215 (by simp) _ Tryz.results215 ?_
  repeat' (first | refine i_seq ?_ | refine k_seq ?_ | refine i_region ?_ | refine l_o ?_ | refine l_nil ?_ | (show RD _ _; refine e_do (by simp (disch := omega) only [go_sem, seval]; exact IsX.mk) ?_) | refine s_f ?_ | refine f_s ?_ | refine f_n ?_ | refine st2 ?_)
  exact ⟨rfl, rfl⟩
@[go_sem] theorem c85 (d : Nat) (m : Nat) (H : Hp) : callV E (den E (d + 1)) 215 [.mp m] H = some (.fn 236 [.op H.length 0], H ++ [.row ⟨[.mp m], 151, 1, true⟩]) := callV_inl rfl rfl (f85 d m H)
@[go_sem] theorem c84 (d : Nat) (b : Nat) (H : Hp) : callV E (den E d) 214 [.fn 236 [.op b 0]] H = sortedP [.fn 236 [.op b 0]] H := by
  simp only [callV, show E.prim 214 = some sortedP from rfl]
@[go_sem] theorem sorted_eq (b : Nat) (H : Hp) : sortedP [.fn 236 [.op b 0]] H = (match getR H b with
    | some r => match r.cells with
      | [.mp id] => match getM H id with
        | some m => match m.cells with
          | [.v (.int .i64 k), _] => if -9223372036854775808 ≤ k ∧ k ≤ 9223372036854775807 then some (.own H.length 0 1 1, H ++ [.row ⟨[.v (.int .i64 k)], 3, 1, true⟩]) else none
          | _ => none
        | none => none
      | _ => none
    | none => none) := rfl

theorem id_rg {f : FillD} (h : fillS f = true) : -9223372036854775808 ≤ f.id ∧ f.id ≤ 9223372036854775807 := by
  simp only [fillS, idS, Bool.and_eq_true, decide_eq_true_eq] at h
  omega
abbrev tla (f : FillD) : Hp := [.row ⟨stepC f, 87, 11, true⟩, .row ⟨[i64 f.id, .agg [i64 f.id, i64 f.cls, i64 f.day, strC f.org, nilSl]], 0, 0, true⟩, .row ⟨[i64 0, i64 0, i64 0, strC ⟨#[]⟩, nilSl], 69, 5, true⟩, .row ⟨[i64 f.id, i64 1], 66, 2, false⟩, .row ⟨[i64 1, i64 1, i64 1, .own 9 0 1 2], 53, 4, true⟩, .row ⟨[i64 0, i64 0, i64 0, nilSl], 53, 4, true⟩, .row ⟨[i64 1, i64 1, i64 1, .own 9 0 1 2], 53, 4, true⟩, .row ⟨[i64 1, i64 1, i64 1, .own 9 0 1 2], 53, 4, false⟩, .row ⟨[i64 1, i64 1, i64 1, .ro [i64 f.id, i64 1] 1], 53, 4, true⟩, .row ⟨[i64 f.id, i64 f.cls, i64 f.day, strC f.org, nilSl], 69, 5, true⟩, .row ⟨[.mp 7], 151, 1, true⟩, .row ⟨[i64 f.id], 3, 1, true⟩]
abbrev tla' (f : FillD) : Hp := [.row ⟨stepC f, 87, 11, true⟩, .row ⟨[i64 f.id, .agg [i64 f.id, i64 f.cls, i64 f.day, strC f.org, nilSl]], 0, 0, true⟩, .row ⟨[i64 0, i64 0, i64 0, strC ⟨#[]⟩, nilSl], 69, 5, true⟩, .row ⟨[i64 f.id, i64 1], 66, 2, false⟩, .row ⟨[i64 1, i64 1, i64 1, .own 9 0 1 2], 53, 4, true⟩, .row ⟨[i64 0, i64 0, i64 0, nilSl], 53, 4, true⟩, .row ⟨[i64 1, i64 1, i64 1, .own 9 0 1 2], 53, 4, true⟩, .row ⟨[i64 1, i64 1, i64 1, .own 9 0 1 2], 53, 4, false⟩, .row ⟨[i64 1, i64 1, i64 1, .ro [i64 f.id, i64 1] 1], 53, 4, true⟩, .row ⟨[i64 f.id, i64 f.cls, i64 f.day, strC f.org, nilSl], 69, 5, true⟩, .row ⟨[.mp 7], 151, 1, true⟩, .row ⟨[i64 f.id], 3, 1, true⟩, .row ⟨[i64 f.id, i64 f.cls, i64 f.day, strC f.org, nilSl], 69, 5, true⟩, .row ⟨[i64 f.id, i64 f.cls, i64 f.day, strC f.org, nilSl], 69, 5, true⟩]
theorem f57a (d : Nat) (f : FillD) (hf : fillS f = true) (hs : FillSm f) (hn : nilS f.nilA f.al.length = true) (r0 r1 r2 r3 r4 : Row) : den E (d + 10) 183 [.op 5 0, .agg (stepC f)] [.row r0, .row r1, .row r2, .row r3, .row r4, .row ⟨[nilSl, nilSl, nilSl, i64 0, i64 0], 202, 5, true⟩] =
    some (.tup [], [.row r0, .row r1, .row r2, .row r3, .row r4, .row ⟨[.own 19 0 1 5, .own 14 0 1 4, nilSl, i64 0, i64 0], 202, 5, true⟩] ++ tla' f) := by
  refine den_eq Tryz.func183 rfl Tryz.ntmps183 (by simp) _ Tryz.results183 ?_
  have s2 := hs.len
  have hI := id_rg hf
  have k8 := c83 d f.id r0 r1 r2 r3 r4 ⟨stepC f, 87, 11, true⟩ ⟨[], 0, 0, true⟩ ⟨[i64 0, i64 0, i64 0, strC ⟨#[]⟩, nilSl], 69, 5, true⟩
  have k4 := fun H => c43n (d + 8) f.nilA f.al H s2 hn
  repeat' (first | refine i_seq ?_ | refine k_seq ?_ | refine i_region ?_ | refine l_o ?_ | refine l_nil ?_ | (show RD _ _; refine e_do (by simp (disch := omega) only [go_sem, seval]; exact IsX.mk) ?_) | refine s_f ?_ | refine f_s ?_ | refine f_n ?_ | refine st2 ?_)
  refine i_loop (fun i : Int => upd (upd (upd (upd (upd (upd jk 19 (i64 i)) 18 (i64 0)) 17 nilSl) 4 (.mp 7)) 3 (.op 6 0)) 0 (.op 5 0)) (fun i : Int => [.row r0, .row r1, .row r2, .row r3, .row r4, .row ⟨[nilSl, nilSl, nilSl, i64 0, i64 0], 202, 5, true⟩, .row ⟨stepC f, 87, 11, true⟩, .row ⟨[], 0, 0, true⟩]) (fun i => 0) (fun i => i = 0) 0 (by decide) (by simp (disch := omega) only [go_sem, seval]; try rfl) (by simp (disch := omega) only [go_sem, seval]) rfl ?_
  rintro i rfl
  repeat' (first | refine i_seq ?_ | refine k_seq ?_ | refine i_region ?_ | refine l_o ?_ | refine l_nil ?_ | (show RD _ _; refine e_do (by simp (disch := omega) only [go_sem, seval, k8, k4, hI]; exact IsX.mk) ?_) | refine s_f ?_ | refine f_s ?_ | refine f_n ?_ | refine st2 ?_)
  refine i_loop (fun a : Int × Hp => upd (upd (upd (upd (upd jk 81 (i64 a.1)) 80 (i64 1)) 79 (.own 17 0 1 1)) 4 (.mp 7)) 0 (.op 5 0)) (fun a : Int × Hp => a.2) (fun a => (2 - a.1).toNat)
    (fun a => (a.1 = 0 ∧ a.2 = [.row r0, .row r1, .row r2, .row r3, .row r4, .row ⟨[nilSl, .own 14 0 1 4, nilSl, i64 0, i64 0], 202, 5, true⟩] ++ tla f) ∨ (a.1 = 1 ∧ a.2 = [.row r0, .row r1, .row r2, .row r3, .row r4, .row ⟨[.own 19 0 1 5, .own 14 0 1 4, nilSl, i64 0, i64 0], 202, 5, true⟩] ++ tla' f)) (0, _) (by simp only [rounds]; omega) (by simp (disch := omega) only [go_sem, seval]; try rfl) rfl (.inl ⟨rfl, rfl⟩) ?_
  rintro ⟨i, G⟩ hG
  simp only at hG
  rcases hG with ⟨rfl, rfl⟩ | ⟨rfl, rfl⟩
  · repeat' (first | refine i_seq ?_ | refine k_seq ?_ | refine i_region ?_ | refine l_o ?_ | refine l_nil ?_ | (show RD _ _; refine e_do (by simp (disch := omega) only [go_sem, seval, wr64]; exact IsX.mk) ?_) | refine s_f ?_ | refine f_s ?_ | refine f_n ?_ | refine st2 ?_)
    exact k_loop (1, _) (by simp only; omega) (by simp (disch := omega) only [go_sem, seval, wr64]) rfl (.inr ⟨rfl, rfl⟩)
  · repeat' (first | refine i_seq ?_ | refine k_seq ?_ | refine i_region ?_ | refine l_o ?_ | refine l_nil ?_ | (show RD _ _; refine e_do (by simp (disch := omega) only [go_sem, seval, wr64]; exact IsX.mk) ?_) | refine s_f ?_ | refine f_s ?_ | refine f_n ?_ | refine st2 ?_)
    exact ⟨rfl, rfl⟩
abbrev tlb (f : FillD) : Hp := [.row ⟨stepC f, 87, 11, true⟩, .row ⟨[i64 f.id, .agg [i64 f.id, i64 f.cls, i64 f.day, strC f.org, .own 16 0 f.al.length 1]], 0, 0, true⟩, .row ⟨[i64 0, i64 0, i64 0, strC ⟨#[]⟩, nilSl], 69, 5, true⟩, .row ⟨[i64 f.id, i64 1], 66, 2, false⟩, .row ⟨[i64 1, i64 1, i64 1, .own 9 0 1 2], 53, 4, true⟩, .row ⟨[i64 0, i64 0, i64 0, nilSl], 53, 4, true⟩, .row ⟨[i64 1, i64 1, i64 1, .own 9 0 1 2], 53, 4, true⟩, .row ⟨[i64 1, i64 1, i64 1, .own 9 0 1 2], 53, 4, false⟩, .row ⟨[i64 1, i64 1, i64 1, .ro [i64 f.id, i64 1] 1], 53, 4, true⟩, .row ⟨[i64 f.id, i64 f.cls, i64 f.day, strC f.org, .own 16 0 f.al.length 1], 69, 5, true⟩, .row ⟨f.al.map strC, 9, 1, true⟩, .row ⟨[.mp 7], 151, 1, true⟩, .row ⟨[i64 f.id], 3, 1, true⟩]
abbrev tlb' (f : FillD) : Hp := [.row ⟨stepC f, 87, 11, true⟩, .row ⟨[i64 f.id, .agg [i64 f.id, i64 f.cls, i64 f.day, strC f.org, .own 16 0 f.al.length 1]], 0, 0, true⟩, .row ⟨[i64 0, i64 0, i64 0, strC ⟨#[]⟩, nilSl], 69, 5, true⟩, .row ⟨[i64 f.id, i64 1], 66, 2, false⟩, .row ⟨[i64 1, i64 1, i64 1, .own 9 0 1 2], 53, 4, true⟩, .row ⟨[i64 0, i64 0, i64 0, nilSl], 53, 4, true⟩, .row ⟨[i64 1, i64 1, i64 1, .own 9 0 1 2], 53, 4, true⟩, .row ⟨[i64 1, i64 1, i64 1, .own 9 0 1 2], 53, 4, false⟩, .row ⟨[i64 1, i64 1, i64 1, .ro [i64 f.id, i64 1] 1], 53, 4, true⟩, .row ⟨[i64 f.id, i64 f.cls, i64 f.day, strC f.org, .own 16 0 f.al.length 1], 69, 5, true⟩, .row ⟨f.al.map strC, 9, 1, true⟩, .row ⟨[.mp 7], 151, 1, true⟩, .row ⟨[i64 f.id], 3, 1, true⟩, .row ⟨[i64 f.id, i64 f.cls, i64 f.day, strC f.org, .own 16 0 f.al.length 1], 69, 5, true⟩, .row ⟨[i64 f.id, i64 f.cls, i64 f.day, strC f.org, .own 16 0 f.al.length 1], 69, 5, true⟩]
theorem f57b (d : Nat) (f : FillD) (hf : fillS f = true) (hs : FillSm f) (hn : nilS f.nilA f.al.length = false) (r0 r1 r2 r3 r4 : Row) : den E (d + 10) 183 [.op 5 0, .agg (stepC f)] [.row r0, .row r1, .row r2, .row r3, .row r4, .row ⟨[nilSl, nilSl, nilSl, i64 0, i64 0], 202, 5, true⟩] =
    some (.tup [], [.row r0, .row r1, .row r2, .row r3, .row r4, .row ⟨[.own 20 0 1 5, .own 14 0 1 4, nilSl, i64 0, i64 0], 202, 5, true⟩] ++ tlb' f) := by
  refine den_eq Tryz.func183 rfl Tryz.ntmps183 (by simp) _ Tryz.results183 ?_
  have s2 := hs.len
  have hI := id_rg hf
  have k8 := c83 d f.id r0 r1 r2 r3 r4 ⟨stepC f, 87, 11, true⟩ ⟨[], 0, 0, true⟩ ⟨[i64 0, i64 0, i64 0, strC ⟨#[]⟩, nilSl], 69, 5, true⟩
  have k4 := fun H => c43y (d + 8) f.nilA f.al H s2 hn
  repeat' (first | refine i_seq ?_ | refine k_seq ?_ | refine i_region ?_ | refine l_o ?_ | refine l_nil ?_ | (show RD _ _; refine e_do (by simp (disch := omega) only [go_sem, seval]; exact IsX.mk) ?_) | refine s_f ?_ | refine f_s ?_ | refine f_n ?_ | refine st2 ?_)
  refine i_loop (fun i : Int => upd (upd (upd (upd (upd (upd jk 19 (i64 i)) 18 (i64 0)) 17 nilSl) 4 (.mp 7)) 3 (.op 6 0)) 0 (.op 5 0)) (fun i : Int => [.row r0, .row r1, .row r2, .row r3, .row r4, .row ⟨[nilSl, nilSl, nilSl, i64 0, i64 0], 202, 5, true⟩, .row ⟨stepC f, 87, 11, true⟩, .row ⟨[], 0, 0, true⟩]) (fun i => 0) (fun i => i = 0) 0 (by decide) (by simp (disch := omega) only [go_sem, seval]; try rfl) (by simp (disch := omega) only [go_sem, seval]) rfl ?_
  rintro i rfl
  repeat' (first | refine i_seq ?_ | refine k_seq ?_ | refine i_region ?_ | refine l_o ?_ | refine l_nil ?_ | (show RD _ _; refine e_do (by simp (disch := omega) only [go_sem, seval, k8, k4, hI]; exact IsX.mk) ?_) | refine s_f ?_ | refine f_s ?_ | refine f_n ?_ | refine st2 ?_)
  refine i_loop (fun a : Int × Hp => upd (upd (upd (upd (upd jk 81 (i64 a.1)) 80 (i64 1)) 79 (.own 18 0 1 1)) 4 (.mp 7)) 0 (.op 5 0)) (fun a : Int × Hp => a.2) (fun a => (2 - a.1).toNat)
    (fun a => (a.1 = 0 ∧ a.2 = [.row r0, .row r1, .row r2, .row r3, .row r4, .row ⟨[nilSl, .own 14 0 1 4, nilSl, i64 0, i64 0], 202, 5, true⟩] ++ tlb f) ∨ (a.1 = 1 ∧ a.2 = [.row r0, .row r1, .row r2, .row r3, .row r4, .row ⟨[.own 20 0 1 5, .own 14 0 1 4, nilSl, i64 0, i64 0], 202, 5, true⟩] ++ tlb' f)) (0, _) (by simp only [rounds]; omega) (by simp (disch := omega) only [go_sem, seval]; try rfl) rfl (.inl ⟨rfl, rfl⟩) ?_
  rintro ⟨i, G⟩ hG
  simp only at hG
  rcases hG with ⟨rfl, rfl⟩ | ⟨rfl, rfl⟩
  · repeat' (first | refine i_seq ?_ | refine k_seq ?_ | refine i_region ?_ | refine l_o ?_ | refine l_nil ?_ | (show RD _ _; refine e_do (by simp (disch := omega) only [go_sem, seval, wr64]; exact IsX.mk) ?_) | refine s_f ?_ | refine f_s ?_ | refine f_n ?_ | refine st2 ?_)
    exact k_loop (1, _) (by simp only; omega) (by simp (disch := omega) only [go_sem, seval, wr64]) rfl (.inr ⟨rfl, rfl⟩)
  · repeat' (first | refine i_seq ?_ | refine k_seq ?_ | refine i_region ?_ | refine l_o ?_ | refine l_nil ?_ | (show RD _ _; refine e_do (by simp (disch := omega) only [go_sem, seval, wr64]; exact IsX.mk) ?_) | refine s_f ?_ | refine f_s ?_ | refine f_n ?_ | refine st2 ?_)
    exact ⟨rfl, rfl⟩

abbrev applyR (f : FillD) (av : CV) : CV := .tup [.agg [.fr [i64 f.id, i64 f.cls, i64 f.day, strC f.org, av] 1 69 5, .fr [i64 1, i64 1, i64 1, .ro [i64 f.id, i64 1] 1] 1 53 4, nilSl, i64 1], i64 0]
abbrev zeroC : CV := .agg [nilSl, nilSl, nilSl, i64 0]
theorem f29n (d : Nat) (f : FillD) (hs : FillSm f) (hf : fillS f = false) : ∃ H1, den E (d + 11) 149 [zeroC, .agg (stepC f)] [] = some (.tup [zeroC, i64 1], H1) := by
  refine den_ex Tryz.func149 rfl Tryz.ntmps149 (by simp) _ Tryz.results149 ?_
  have kf := fun H => c56 (d + 7) f H hs
  repeat' (first | refine i_seq ?_ | refine k_seq ?_ | refine i_region ?_ | refine l_o ?_ | refine l_nil ?_ | (show RD _ _; refine e_do (by simp (disch := omega) only [go_sem, seval, kf, hf]; exact IsX.mk) ?_) | refine s_f ?_ | refine f_s ?_ | refine f_n ?_ | refine st2 ?_)
  rfl
theorem f29y (d : Nat) (f : FillD) (hs : FillSm f) (hf : fillS f = true) : ∃ r H1, den E (d + 11) 149 [zeroC, .agg (stepC f)] [] = some (r, H1) ∧ ∃ av, release H1 r = some (applyR f av) := by
  refine den_of_W Tryz.func149 rfl Tryz.ntmps149 (by simp) _ Tryz.results149 ?_
  have kf := fun H => c56 (d + 7) f H hs
  have k6 := c61 (d + 3) ⟨[nilSl, nilSl, nilSl, i64 0], 25, 4, true⟩ ⟨stepC f, 87, 11, true⟩ ⟨[nilSl, nilSl, nilSl, i64 0], 25, 4, true⟩ ⟨[.v .nilFunc, .fn 183 [], .fn 184 [], .fn 185 [], .fn 186 []], 199, 5, true⟩
  by_cases hn : nilS f.nilA f.al.length = true
  · have k7 := f57a d f hf hs hn ⟨[nilSl, nilSl, nilSl, i64 0], 25, 4, true⟩ ⟨stepC f, 87, 11, true⟩ ⟨[nilSl, nilSl, nilSl, i64 0], 25, 4, true⟩ ⟨[.v .nilFunc, .fn 183 [], .fn 184 [], .fn 185 [], .fn 186 []], 199, 5, true⟩ ⟨[nilSl, nilSl, nilSl, i64 0], 25, 4, true⟩
    have k7 := callV_inl (g := 183) rfl rfl k7
    repeat' (first | refine i_seq ?_ | refine k_seq ?_ | refine i_region ?_ | refine l_o ?_ | refine l_nil ?_ | (show RD _ _; refine e_do (by simp (disch := omega) only [go_sem, seval, kf, hf, k6, k7]; exact IsX.mk) ?_) | refine s_f ?_ | refine f_s ?_ | refine f_n ?_ | refine st2 ?_)
    exact ⟨nilSl, (by kernel_rfl)⟩
  · have hn' := Bool.eq_false_iff.2 hn
    have k7 := f57b d f hf hs hn' ⟨[nilSl, nilSl, nilSl, i64 0], 25, 4, true⟩ ⟨stepC f, 87, 11, true⟩ ⟨[nilSl, nilSl, nilSl, i64 0], 25, 4, true⟩ ⟨[.v .nilFunc, .fn 183 [], .fn 184 [], .fn 185 [], .fn 186 []], 199, 5, true⟩ ⟨[nilSl, nilSl, nilSl, i64 0], 25, 4, true⟩
    have k7 := callV_inl (g := 183) rfl rfl k7
    have hl := len_al f.al
    have tk : List.take (f.al.length * 1) (f.al.map strC) = f.al.map strC := List.take_of_length_le (by omega)
    have sn : ∀ (H : Hp), snap H 7 (.own 16 0 f.al.length 1) = (match getR H 16 with
      | some r => if 0 + f.al.length * 1 ≤ r.cells.length then (omap (snap H 6) ((r.cells.drop 0).take (f.al.length * 1))).map (fun cs => .ro cs f.al.length) else none
      | none => none) := fun H => rfl
    have le : 0 + f.al.length * 1 ≤ f.al.length := by omega
    repeat' (first | refine i_seq ?_ | refine k_seq ?_ | refine i_region ?_ | refine l_o ?_ | refine l_nil ?_ | (show RD _ _; refine e_do (by simp (disch := omega) only [go_sem, seval, kf, hf, k6, k7]; exact IsX.mk) ?_) | refine s_f ?_ | refine f_s ?_ | refine f_n ?_ | refine st2 ?_)
    refine ⟨.ro (f.al.map strC) f.al.length, ?_⟩
    unfold tlb'
    simp (disch := omega) only [go_sem, seval, sn, tk, hl, le]
    rfl
theorem c29n (d : Nat) (f : FillD) (H : Hp) (hs : FillSm f) (hf : fillS f = false) : callV E (den E (d + 11)) 149 [zeroC, .agg (stepC f)] H = some (.tup [zeroC, i64 1], H) := callV_plain rfl rfl rfl (by simp (disch := omega) only [go_sem, seval]) (f29n d f hs hf) rfl
theorem c29y (d : Nat) (f : FillD) (hs : FillSm f) (hf : fillS f = true) : ∃ av, ∀ H, callV E (den E (d + 11)) 149 [zeroC, .agg (stepC f)] H =
    some (.tup [.agg [.own H.length 0 1 5, .own (H.length + 1) 0 1 4, nilSl, i64 1], i64 0], H ++ [.row ⟨[i64 f.id, i64 f.cls, i64 f.day, strC f.org, av], 69, 5, true⟩, .row ⟨[i64 1, i64 1, i64 1, .ro [i64 f.id, i64 1] 1], 53, 4, true⟩]) := by
  obtain ⟨r, H1, h1, av, h2⟩ := f29y d f hs hf
  refine ⟨av, fun H => ?_⟩
  rw [callV_share (args' := [zeroC, .agg (stepC f)]) rfl rfl rfl (by simp (disch := omega) only [go_sem, seval]) h1 h2 (by simp (disch := omega) only [go_sem, seval])]
  simp (disch := omega) only [go_sem, seval]
end Go.Age
end
section
set_option linter.all false
set_option linter.unusedVariables false
set_option linter.unusedSimpArgs false
set_option maxRecDepth 100000
set_option maxHeartbeats 8000000
attribute [local irreducible] Go.Den.W Go.Den.WL Go.Den.WX Go.Den.WQ Go.Den.QR Go.Den.WG Go.Den.WO Go.Den.WK Go.Den.grows Go.Den.stepOp Go.Den.callV Go.Den.den
namespace Go.Age
open Go.Den Go.Proofs
abbrev kvC (f : FillD) : List CV := [i64 f.id, .agg f.cells]
def mpC (l : List FillD) (n : Nat) : List CV := (l.take n).flatMap kvC
theorem mp_next {l : List FillD} {i : Int} (h : 0 ≤ i ∧ i < l.length) : mpC l (i + 1).toNat = mpC l i.toNat ++ kvC (fAt l i) := by
  have hi : i.toNat < l.length := by omega
  unfold mpC
  rw [show (i + 1).toNat = i.toNat + 1 by omega, List.take_succ_eq_append_getElem hi, List.flatMap_append]
  simp [fAt, hi]
theorem keys_fl : ∀ l : List FillD, keysOk (.int .i64) (l.flatMap kvC) = true
  | [] => rfl
  | a :: l => by
    have := keys_fl l
    simp only [List.flatMap_cons, kvC, List.cons_append, List.nil_append, keysOk, isKeyC, this]; rfl
@[go_sem] theorem keys_mp (l : List FillD) (n) : keysOk (.int .i64) (mpC l n) = true := keys_fl _
theorem find_none (id : Int) : ∀ (l : List FillD) (k : Nat), (∀ f ∈ l, f.id ≠ id) → findM (i64 id) (l.flatMap kvC) k = none
  | [], k, _ => rfl
  | a :: l, k, h => by
    have ih := find_none id l (k + 1) (fun f hf => h f (by simp [hf]))
    have ha : ¬ id = a.id := fun e => h a (by simp) e.symm
    simp only [List.flatMap_cons, kvC, List.cons_append, List.nil_append, findM, keyEqC, ih]
    simp [ha]
theorem fAt_get {l : List FillD} {i : Nat} (h : i < l.length) : fAt l (i : Int) = l[i] := by simp [fAt, h]
theorem find_mp_none {l : List FillD} {id i : Int} (hi : 0 ≤ i ∧ i ≤ l.length) (h : NoFill l id i) : findM (i64 id) (mpC l i.toNat) 0 = none := by
  refine find_none id _ 0 fun f hf => ?_
  obtain ⟨j, hj, rfl⟩ := List.getElem_of_mem hf
  simp only [List.length_take] at hj
  have := h j (by omega) (by omega)
  rw [fAt_get (by omega)] at this
  simpa using this
theorem find_some (id : Int) : ∀ (l : List FillD) (k j : Nat), (h : j < l.length) → l[j].id = id → (∀ m, (hm : m < j) → (l[m]'(by omega)).id ≠ id) → findM (i64 id) (l.flatMap kvC) k = some (k + j) ∧ (l.flatMap kvC)[2 * j + 1]? = some (.agg l[j].cells)
  | [], k, j, h, _, _ => by simp at h
  | a :: l, k, 0, h, e, _ => by
    simp only [List.getElem_cons_zero] at e
    simp only [List.flatMap_cons, kvC, List.cons_append, List.nil_append, findM, keyEqC, e]
    simp
  | a :: l, k, j + 1, h, e, hn => by
    have ih := find_some id l (k + 1) j (by simpa using h) (by simpa using e) (fun m hm => by simpa using hn (m + 1) (by omega))
    have ha : ¬ id = a.id := fun x => hn 0 (by omega) (by simpa using x.symm)
    simp only [List.flatMap_cons, kvC, List.cons_append, List.nil_append]
    refine ⟨?_, ?_⟩
    · rw [findM_cons, keyEq_int, if_neg (by simp [ha]), ih.1]; congr 1; omega
    · rw [show 2 * (j + 1) + 1 = 2 * j + 1 + 1 + 1 by omega]
      simpa using ih.2
theorem find_mp_some {l : List FillD} {id i : Int} (h : IsFill l id i) : findM (i64 id) (mpC l l.length) 0 = some i.toNat ∧ (mpC l l.length)[2 * i.toNat + 1]? = some (.agg (fAt l i).cells) := by
  obtain ⟨h1, h2, h3, h4⟩ := h
  have hi : i.toNat < l.length := by omega
  have ei : fAt l i = l[i.toNat] := by have := fAt_get hi; rwa [show ((i.toNat : Nat) : Int) = i by omega] at this
  have := find_some id l 0 i.toNat hi (by rw [← ei]; exact h3) (fun m hm => by have := h4 m (by omega) (by omega); rwa [fAt_get (by omega)] at this)
  simp only [mpC, List.take_length, ei]
  simpa using this
theorem find_mp_no {l : List FillD} {id : Int} (h : NoFill l id l.length) : findM (i64 id) (mpC l l.length) 0 = none := by
  have := find_mp_none (l := l) (id := id) (i := l.length) (by omega) h
  simpa using this
theorem FillsTo.mono {l : List FillD} {i : Int} (h : FillsTo l i) : ∀ (k : Nat) (j : Int), 0 ≤ j → j + k < i → (fAt l j).id ≤ (fAt l (j + k)).id
  | 0, j, _, _ => by simp
  | k + 1, j, h1, h2 => by
    have a := FillsTo.mono h k j h1 (by omega)
    have b := (h.2.2 (j + (k + 1 : Nat)) (by omega) (by omega)).2 (by omega)
    rw [show j + ((k + 1 : Nat) : Int) - 1 = j + k by omega] at b
    omega
theorem FillsTo.new {l : List FillD} {i : Int} (h : FillsTo l i) (hi : i < l.length) (ho : 0 < i → (fAt l (i - 1)).id < (fAt l i).id) : NoFill l (fAt l i).id i := fun j j1 j2 => by
  have h1 := ho (by omega)
  have h2 := FillsTo.mono h (i - 1 - j).toNat j j1 (by omega)
  rw [show j + ((i - 1 - j).toNat : Int) = i - 1 by omega] at h2
  omega

theorem f66 (d : Nat) (c : CellarD) (H : Hp) (hs : FillsSm c.fills) : ∃ r H', den E (d + 12) 124 [.agg c.cells] H = some (r, H') ∧
    ((SoundP c ∧ r = .tup [.mp (H.length + 1), bl true] ∧ ∃ G, H' = H ++ (.row ⟨c.cells, 25, 4, true⟩ :: .row ⟨mpC c.fills c.fills.length, 0, 0, true⟩ :: G)) ∨
     (¬ SoundP c ∧ r = .tup [.v (.map none), bl false] ∧ ∃ G, H' = H ++ G)) := by
  refine den_of_W Tryz.func124 rfl Tryz.ntmps124 (by simp) _ Tryz.results124 ?_
  obtain ⟨r, H1, k1, a, e, rfl, k2⟩ := f91 (d + 3) c.nilL c.lots
  have k : ∀ H, callV E (den E (d + 11)) 148 [sl c.nilL (flL c.lots) c.lots.length] H = some (.tup [i64 a, i64 e], H) := fun H => callV_plain rfl rfl rfl (by simp (disch := omega) only [go_sem, seval]) ⟨H1, k1⟩ rfl
  have no : ∀ {H' : Hp}, ¬ SoundP c → (∃ G, H' = H ++ G) → (SoundP c ∧ (CV.tup [.v (.map none), .v (.bool false)]) = .tup [.mp (H.length + 1), bl true] ∧ ∃ G, H' = H ++ (.row ⟨c.cells, 25, 4, true⟩ :: .row ⟨mpC c.fills c.fills.length, 0, 0, true⟩ :: G)) ∨
     (¬ SoundP c ∧ (CV.tup [.v (.map none), .v (.bool false)]) = .tup [.v (.map none), bl false] ∧ ∃ G, H' = H ++ G) := fun h h2 => .inr ⟨h, rfl, h2⟩
  by_cases he : e = 0
  · by_cases hn : c.fills.length ≤ 64
    · have hok := k2.1 he
      have hsm := hok.sm
      have hsn := hsm.n
      have e0 : mpC c.fills 0 = [] := rfl
      repeat' (first | refine i_seq ?_ | refine k_seq ?_ | refine i_region ?_ | refine l_o ?_ | refine l_nil ?_ | (show RD _ _; refine e_do (by simp (disch := omega) only [go_sem, seval, k, he]; exact IsX.mk) ?_) | refine s_f ?_ | refine f_s ?_ | refine f_n ?_ | refine st2 ?_)
      refine i_loop (fun a : Int × Hp => upd (upd (upd (upd (upd jk 35 (i64 a.1)) 34 (i64 c.fills.length)) 33 (sl c.nilF (flF c.fills) c.fills.length)) 6 (.mp (H.length + 1))) 1 (.op H.length 0)) (fun a : Int × Hp => H ++ (.row ⟨c.cells, 25, 4, true⟩ :: .row ⟨mpC c.fills a.1.toNat, 0, 0, true⟩ :: a.2))
        (fun a => (c.fills.length - a.1).toNat) (fun a => FillsTo c.fills a.1) (0, []) (by simp only [rounds]; omega) (by simp (disch := omega) only [go_sem, seval]) (by simp (disch := omega) only [go_sem, seval, e0]) (FillsTo.zero _) ?_
      rintro ⟨i, G⟩ hto
      have hto : FillsTo c.fills i := hto
      have h1 : 0 ≤ i := hto.1
      have h2 : i ≤ c.fills.length := hto.2.1
      by_cases hi : i < c.fills.length
      · have s2 := hs.f i h1 hi
        by_cases ef : fillS (fAt c.fills i) = true
        · obtain ⟨av, ka⟩ := c29y d (fAt c.fills i) s2 ef
          by_cases ho : 0 < i ∧ (fAt c.fills i).id ≤ (fAt c.fills (i - 1)).id
          · repeat' (first | refine i_seq ?_ | refine k_seq ?_ | refine i_region ?_ | refine l_o ?_ | refine l_nil ?_ | (show RD _ _; refine e_do (by simp (disch := omega) only [go_sem, seval, ka, wr64]; exact IsX.mk) ?_) | refine s_f ?_ | refine f_s ?_ | refine f_n ?_ | refine st2 ?_)
            exact no (fun h => by have := (h.fills.2.2 i h1 hi).2 ho.1; omega) ⟨_, rfl⟩
          · have hf := find_mp_none (l := c.fills) (id := (fAt c.fills i).id) (i := i) (by omega) (hto.new hi fun _ => by omega)
            by_cases hp : 0 < i
            · repeat' (first | refine i_seq ?_ | refine k_seq ?_ | refine i_region ?_ | refine l_o ?_ | refine l_nil ?_ | (show RD _ _; refine e_do (by simp (disch := omega) only [go_sem, seval, ka, wr64, hf]; exact IsX.mk) ?_) | refine s_f ?_ | refine f_s ?_ | refine f_n ?_ | refine st2 ?_)
              exact k_loop (i + 1, _) (by simp only; omega) (by simp (disch := omega) only [go_sem, seval, wr64]) (by simp only [mp_next ⟨h1, hi⟩]; rfl) (hto.next hi ef fun _ => by omega)
            · repeat' (first | refine i_seq ?_ | refine k_seq ?_ | refine i_region ?_ | refine l_o ?_ | refine l_nil ?_ | (show RD _ _; refine e_do (by simp (disch := omega) only [go_sem, seval, ka, wr64, hf]; exact IsX.mk) ?_) | refine s_f ?_ | refine f_s ?_ | refine f_n ?_ | refine st2 ?_)
              exact k_loop (i + 1, _) (by simp only; omega) (by simp (disch := omega) only [go_sem, seval, wr64]) (by simp only [mp_next ⟨h1, hi⟩]; rfl) (hto.next hi ef fun _ => by omega)
        · have ef' := Bool.eq_false_iff.2 ef
          have ka := fun H => c29n d (fAt c.fills i) H s2 ef'
          repeat' (first | refine i_seq ?_ | refine k_seq ?_ | refine i_region ?_ | refine l_o ?_ | refine l_nil ?_ | (show RD _ _; refine e_do (by simp (disch := omega) only [go_sem, seval, ka, wr64]; exact IsX.mk) ?_) | refine s_f ?_ | refine f_s ?_ | refine f_n ?_ | refine st2 ?_)
          exact no (fun h => ef (h.fills.2.2 i h1 hi).1) ⟨_, rfl⟩
      · have : i = c.fills.length := by omega
        subst this
        have en : (c.fills.length : Int).toNat = c.fills.length := by omega
        repeat' (first | refine i_seq ?_ | refine k_seq ?_ | refine i_region ?_ | refine l_o ?_ | refine l_nil ?_ | (show RD _ _; refine e_do (by simp (disch := omega) only [go_sem, seval, wr64]; exact IsX.mk) ?_) | refine s_f ?_ | refine f_s ?_ | refine f_n ?_ | refine st2 ?_)
        refine i_loop (fun a : Int × Hp => upd (upd (upd (upd jk 73 (i64 a.1)) 72 (i64 c.lots.length)) 71 (sl c.nilL (flL c.lots) c.lots.length)) 6 (.mp (H.length + 1))) (fun a : Int × Hp => H ++ (.row ⟨c.cells, 25, 4, true⟩ :: .row ⟨mpC c.fills c.fills.length, 0, 0, true⟩ :: a.2))
          (fun a => (c.lots.length - a.1).toNat) (fun a => 0 ≤ a.1 ∧ a.1 ≤ c.lots.length ∧ HasLots c a.1) (0, G) (by simp only [rounds]; omega) (by simp (disch := omega) only [go_sem, seval]) (by simp (disch := omega) only [go_sem, seval, en]) ⟨by simp only; omega, by simp only; omega, fun j j1 j2 => by simp only at j2; omega⟩ ?_
        rintro ⟨i, G⟩ ⟨g1, g2, g3⟩
        simp only at g1 g2 g3
        by_cases hi : i < c.lots.length
        · have s3 := hsm.s i g1 hi
          repeat' (first | refine i_seq ?_ | refine k_seq ?_ | refine i_region ?_ | refine l_o ?_ | refine l_nil ?_ | (show RD _ _; refine e_do (by simp (disch := omega) only [go_sem, seval, wr64]; exact IsX.mk) ?_) | refine s_f ?_ | refine f_s ?_ | refine f_n ?_ | refine st2 ?_)
          refine i_loop (fun a : Int × Hp => upd (upd (upd (upd (upd (upd (upd jk 80 (i64 a.1)) 79 (i64 (lAt c.lots i).sh.length)) 78 (sl (lAt c.lots i).nilS (flS (lAt c.lots i).sh) (lAt c.lots i).sh.length)) 73 (i64 i)) 72 (i64 c.lots.length)) 71 (sl c.nilL (flL c.lots) c.lots.length)) 6 (.mp (H.length + 1))) (fun a : Int × Hp => H ++ (.row ⟨c.cells, 25, 4, true⟩ :: .row ⟨mpC c.fills c.fills.length, 0, 0, true⟩ :: a.2))
            (fun a => ((lAt c.lots i).sh.length - a.1).toNat) (fun a => 0 ≤ a.1 ∧ a.1 ≤ (lAt c.lots i).sh.length ∧ HasSh c (lAt c.lots i) a.1) (0, _) (by simp only [rounds]; omega) (by simp (disch := omega) only [go_sem, seval]) rfl ⟨by simp only; omega, by simp only; omega, fun j j1 j2 => by simp only at j2; omega⟩ ?_
          rintro ⟨j, G'⟩ ⟨q1, q2, q3⟩
          simp only at q1 q2 q3
          by_cases hj : j < (lAt c.lots i).sh.length
          · rcases no_or_fill c.fills (sAt (lAt c.lots i).sh j).fill with ⟨t, ht⟩ | hno
            · obtain ⟨kf1, kf2⟩ := find_mp_some ht
              repeat' (first | refine i_seq ?_ | refine k_seq ?_ | refine i_region ?_ | refine l_o ?_ | refine l_nil ?_ | (show RD _ _; refine e_do (by simp (disch := omega) only [go_sem, seval, wr64, kf1, kf2]; exact IsX.mk) ?_) | refine s_f ?_ | refine f_s ?_ | refine f_n ?_ | refine st2 ?_)
              refine k_loop (j + 1, _) (by simp only; omega) (by simp (disch := omega) only [go_sem, seval, wr64]) rfl ⟨by simp only; omega, by simp only; omega, fun k j1 j2 => ?_⟩
              simp only at j2
              by_cases ek : k = j
              · subst ek; exact ⟨t, ht⟩
              · exact q3 k j1 (by omega)
            · have kf := find_mp_no hno
              repeat' (first | refine i_seq ?_ | refine k_seq ?_ | refine i_region ?_ | refine l_o ?_ | refine l_nil ?_ | (show RD _ _; refine e_do (by simp (disch := omega) only [go_sem, seval, wr64, kf]; exact IsX.mk) ?_) | refine s_f ?_ | refine f_s ?_ | refine f_n ?_ | refine st2 ?_)
              exact no (fun h => by
                obtain ⟨t, ht⟩ := h.has i g1 hi j q1 hj
                exact ht.no hno) ⟨_, rfl⟩
          · have : j = (lAt c.lots i).sh.length := by omega
            subst this
            repeat' (first | refine i_seq ?_ | refine k_seq ?_ | refine i_region ?_ | refine l_o ?_ | refine l_nil ?_ | (show RD _ _; refine e_do (by simp (disch := omega) only [go_sem, seval, wr64]; exact IsX.mk) ?_) | refine s_f ?_ | refine f_s ?_ | refine f_n ?_ | refine st2 ?_)
            refine k_loop (i + 1, _) (by simp only; omega) (by simp (disch := omega) only [go_sem, seval, wr64]) rfl ⟨by simp only; omega, by simp only; omega, fun k j1 j2 => ?_⟩
            simp only at j2
            by_cases ek : k = i
            · subst ek; exact q3
            · exact g3 k j1 (by omega)
        · have : i = c.lots.length := by omega
          subst this
          repeat' (first | refine i_seq ?_ | refine k_seq ?_ | refine i_region ?_ | refine l_o ?_ | refine l_nil ?_ | (show RD _ _; refine e_do (by simp (disch := omega) only [go_sem, seval]; exact IsX.mk) ?_) | refine s_f ?_ | refine f_s ?_ | refine f_n ?_ | refine st2 ?_)
          exact .inl ⟨⟨hn, hok, hto, g3⟩, rfl, _, rfl⟩
    · repeat' (first | refine i_seq ?_ | refine k_seq ?_ | refine i_region ?_ | refine l_o ?_ | refine l_nil ?_ | (show RD _ _; refine e_do (by simp (disch := omega) only [go_sem, seval, k, he]; exact IsX.mk) ?_) | refine s_f ?_ | refine f_s ?_ | refine f_n ?_ | refine st2 ?_)
      exact no (fun h => hn h.nf) ⟨_, rfl⟩
  · repeat' (first | refine i_seq ?_ | refine k_seq ?_ | refine i_region ?_ | refine l_o ?_ | refine l_nil ?_ | (show RD _ _; refine e_do (by simp (disch := omega) only [go_sem, seval, k, he]; exact IsX.mk) ?_) | refine s_f ?_ | refine f_s ?_ | refine f_n ?_ | refine st2 ?_)
    exact no (fun h => he (k2.2 h.lots)) ⟨_, rfl⟩
end Go.Age
end
section
set_option linter.all false
set_option linter.unusedVariables false
set_option linter.unusedSimpArgs false
set_option maxRecDepth 100000
set_option maxHeartbeats 4000000
attribute [local irreducible] Go.Den.W Go.Den.WL Go.Den.WX Go.Den.WQ Go.Den.QR Go.Den.WG Go.Den.WO Go.Den.WK Go.Den.grows Go.Den.stepOp Go.Den.callV Go.Den.den
namespace Go.Den
theorem callV_frz {E : Env} {d : Nat} {g : FuncId} {H H1 : Hp} {r r' : CV} {args args' : List CV} (hp : E.prim g = none) (hi : E.inl g = false) (hf : E.frz g = true) (hs : omap (snap H depth) args = some args') (hd : den E d g args' [] = some (r, H1)) (hr : release H1 r = some r') : callV E (den E d) g args H = some (install (freeze (args.flatMap (ids H depth)) 0 H) r') := by
  have e : callV E (den E d) g args H = callB E (den E d) g args H := by simp only [callV, hp, hi]; rfl
  rw [e]
  unfold callB
  simp only [hs, hd, hr, hf, if_true]
@[go_sem] theorem fz_nil (is i) : freeze is i [] = [] := rfl
@[go_sem] theorem fz_cons (is i b l) : freeze is i (b :: l) = (if is.contains i then (match b with | .row r => .row { r with live := false } | d => d) else b) :: freeze is (i + 1) l := rfl
@[go_sem] theorem cont_cons (a : Nat) (l : List Nat) (b : Nat) : (a :: l).contains b = (b == a || l.contains b) := List.contains_cons
end Go.Den
namespace Go.Age
open Go.Den Go.Proofs
theorem isV_or (H : Hp) (k : Nat) : ∀ l : List FillD, omap (snap H (k + 1)) (flF l) = some (flF l)
  | [] => rfl
  | a :: l => by
    have ih := isV_or H k l
    simp only [flF, List.flatMap_cons, FillD.cells, List.cons_append, List.nil_append] at *
    rw [omap_cons, sn_v, omap_cons, sn_v, omap_cons, sn_v, omap_cons, sn_v, omap_cons, sn_sl, ih]
@[go_sem] theorem snap_flF8 (H : Hp) (l : List FillD) : omap (snap H 8) (flF l) = some (flF l) := isV_or H 7 l
@[go_sem] theorem snap_flF7 (H : Hp) (l : List FillD) : omap (snap H 7) (flF l) = some (flF l) := isV_or H 6 l
theorem ids_flF (H : Hp) (k : Nat) : ∀ l : List FillD, (flF l).flatMap (ids H k) = []
  | [] => rfl
  | a :: l => by
    have ih := ids_flF H k l
    simp only [flF, List.flatMap_cons, FillD.cells, List.cons_append, List.nil_append] at *
    simp only [ids_cv, ids_sl, List.nil_append, ih]
attribute [go_sem] ids_flF
theorem leaf_flF : ∀ l : List FillD, (flF l).all CV.leaf = true
  | [] => rfl
  | a :: l => by
    have ih := leaf_flF l
    simp only [flF, List.flatMap_cons, FillD.cells, List.cons_append, List.nil_append] at *
    simp only [List.all_cons, leaf_v, leaf_sl, valLeaf_int, valLeaf_string, ih, Bool.and_self]
attribute [go_sem] leaf_flF
def cmpS (f g : FillD) : Int := if f.day = g.day then g.id - f.id else f.day - g.day
structure FillBd (f : FillD) : Prop where
  day : 0 ≤ f.day ∧ f.day ≤ 100000
  id : 1 ≤ f.id ∧ f.id ≤ 1073741824
theorem f74 (d : Nat) (f g : FillD) (hf : FillBd f) (hg : FillBd g) : ∃ H0, den E (d + 1) 139 [.agg f.cells, .agg g.cells] [] = some (i64 (cmpS f g), H0) := by
  refine den_ex Tryz.func139 rfl Tryz.ntmps139 (by simp) _ Tryz.results139 ?_
  have a1 := hf.day
  have a2 := hf.id
  have b1 := hg.day
  have b2 := hg.id
  by_cases h : f.day = g.day
  · repeat' (first | refine i_seq ?_ | refine k_seq ?_ | refine i_region ?_ | refine l_o ?_ | refine l_nil ?_ | (show RD _ _; refine e_do (by simp (disch := omega) only [go_sem, seval, wr64]; exact IsX.mk) ?_) | refine s_f ?_ | refine f_s ?_ | refine f_n ?_ | refine st2 ?_)
    simp [cmpS, h]
  · repeat' (first | refine i_seq ?_ | refine k_seq ?_ | refine i_region ?_ | refine l_o ?_ | refine l_nil ?_ | (show RD _ _; refine e_do (by simp (disch := omega) only [go_sem, seval, wr64]; exact IsX.mk) ?_) | refine s_f ?_ | refine f_s ?_ | refine f_n ?_ | refine st2 ?_)
    simp [cmpS, h]
theorem c74 (d : Nat) (f g : FillD) (H : Hp) (hf : FillBd f) (hg : FillBd g) : callV E (den E (d + 1)) 139 [.agg f.cells, .agg g.cells] H = some (i64 (cmpS f g), H) := callV_plain rfl rfl rfl (by simp (disch := omega) only [go_sem, seval]) (f74 d f g hf hg) rfl
noncomputable def mxN (fs : List FillD) : Nat → FillD
  | 0 => default
  | n + 1 => if n = 0 then fAt fs 0 else if 0 < cmpS (fAt fs n) (mxN fs n) then fAt fs n else mxN fs n
theorem mx_one {fs} : mxN fs 1 = fAt fs 0 := by simp [mxN]
theorem mx_next {fs} {i : Int} (h : 0 < i) : mxN fs (i + 1).toNat = if 0 < cmpS (fAt fs i) (mxN fs i.toNat) then fAt fs i else mxN fs i.toNat := by
  rw [show (i + 1).toNat = i.toNat + 1 by omega, mxN, if_neg (by omega), show ((i.toNat : Nat) : Int) = i by omega]
theorem mx_bd {fs : List FillD} (hb : ∀ i : Int, 0 ≤ i → i < fs.length → FillBd (fAt fs i)) : ∀ n : Nat, 0 < n → n ≤ fs.length → FillBd (mxN fs n)
  | 0, h, _ => by omega
  | n + 1, _, h => by
    by_cases e : n = 0
    · subst e; rw [mx_one]; exact hb 0 (by omega) (by omega)
    · simp only [mxN, if_neg e]
      split
      · exact hb n (by omega) (by omega)
      · exact mx_bd hb n (by omega) (by omega)
theorem f73 (d : Nat) (fs : List FillD) (H : Hp) (hn : fs.length ≤ 1000) (h0 : 0 < fs.length) (hb : ∀ i : Int, 0 ≤ i → i < fs.length → FillBd (fAt fs i)) : ∃ H1, den E (d + 2) 138 [sl false (flF fs) fs.length, .fn 139 []] H = some (.agg (mxN fs fs.length).cells, H ++ H1) := by
  have : ∃ c H', den E (d + 2) 138 [sl false (flF fs) fs.length, .fn 139 []] H = some (c, H') ∧ (c = .agg (mxN fs fs.length).cells ∧ ∃ H1, H' = H ++ H1) := by
    refine den_of_W Tryz.func138 rfl Tryz.ntmps138 (by simp) _ Tryz.results138 ?_
    have r0 : CV.rp (flF fs) = CV.rp (i64 (fAt fs 0).id :: i64 (fAt fs 0).cls :: i64 (fAt fs 0).day :: strC (fAt fs 0).org :: sl (fAt fs 0).nilA ((fAt fs 0).al.map strC) (fAt fs 0).al.length :: List.drop (((0 : Int).toNat + 1) * 5) (flF fs)) := congrArg CV.rp (drop_flF fs 0 (by omega))
    repeat' (first | refine i_seq ?_ | refine k_seq ?_ | refine i_region ?_ | refine l_o ?_ | refine l_nil ?_ | (show RD _ _; refine e_do (by simp (disch := omega) only [go_sem, seval, r0]; exact IsX.mk) ?_) | refine s_f ?_ | refine f_s ?_ | refine f_n ?_ | refine st2 ?_)
    refine i_loop (fun i : Int => upd (upd (upd (upd (upd jk 6 (i64 i)) 5 (.op (H.length + 1) 0)) 4 (.op H.length 0)) 1 (.fn 139 [])) 0 (sl false (flF fs) fs.length)) (fun i : Int => H ++ [.row ⟨[i64 0, i64 0, i64 0, strC ⟨#[]⟩, .v (.slice none 0 0)], 69, 5, true⟩, .row ⟨(mxN fs i.toNat).cells, 69, 5, true⟩])
      (fun i => (fs.length - i).toNat) (fun i => 1 ≤ i ∧ i ≤ fs.length) 1 (by simp only [rounds]; omega) (by simp (disch := omega) only [go_sem, seval]) (by simp (disch := omega) only [go_sem, seval, mx_one]) ⟨by omega, by omega⟩ ?_
    rintro i ⟨h1, h2⟩
    have hm := mx_bd hb i.toNat (by omega) (by omega)
    by_cases hi : i < fs.length
    · have hf := hb i (by omega) hi
      have kc := fun H => c74 d (fAt fs i) (mxN fs i.toNat) H hf hm
      by_cases hc : 0 < cmpS (fAt fs i) (mxN fs i.toNat)
      · repeat' (first | refine i_seq ?_ | refine k_seq ?_ | refine i_region ?_ | refine l_o ?_ | refine l_nil ?_ | (show RD _ _; refine e_do (by simp (disch := omega) only [go_sem, seval, wr64, kc]; exact IsX.mk) ?_) | refine s_f ?_ | refine f_s ?_ | refine f_n ?_ | refine st2 ?_)
        exact k_loop (i + 1) (by omega) (by simp (disch := omega) only [go_sem, seval, wr64]) (by simp only [mx_next (i := i) (by omega), if_pos hc]) ⟨by omega, by omega⟩
      · repeat' (first | refine i_seq ?_ | refine k_seq ?_ | refine i_region ?_ | refine l_o ?_ | refine l_nil ?_ | (show RD _ _; refine e_do (by simp (disch := omega) only [go_sem, seval, wr64, kc]; exact IsX.mk) ?_) | refine s_f ?_ | refine f_s ?_ | refine f_n ?_ | refine st2 ?_)
        exact k_loop (i + 1) (by omega) (by simp (disch := omega) only [go_sem, seval, wr64]) (by simp only [mx_next (i := i) (by omega), if_neg hc]) ⟨by omega, by omega⟩
    · have : i = fs.length := by omega
      subst this
      have en : (fs.length : Int).toNat = fs.length := by omega
      repeat' (first | refine i_seq ?_ | refine k_seq ?_ | refine i_region ?_ | refine l_o ?_ | refine l_nil ?_ | (show RD _ _; refine e_do (by simp (disch := omega) only [go_sem, seval, en]; exact IsX.mk) ?_) | refine s_f ?_ | refine f_s ?_ | refine f_n ?_ | refine st2 ?_)
      exact ⟨rfl, _, rfl⟩
  obtain ⟨c, H', h1, rfl, H1, rfl⟩ := this
  exact ⟨H1, h1⟩
theorem f42 (d : Nat) (fs : List FillD) (hn : fs.length ≤ 1000) (h0 : 0 < fs.length) (hb : ∀ i : Int, 0 ≤ i → i < fs.length → FillBd (fAt fs i)) : ∃ H1, den E (d + 3) 115 [sl false (flF fs) fs.length] [] = some (.agg (mxN fs fs.length).cells, H1) := by
  refine den_ex Tryz.func115 rfl Tryz.ntmps115 (by simp) _ Tryz.results115 ?_
  obtain ⟨H1, h1⟩ := f73 d fs [.row ⟨[i64 0, i64 0, i64 0, strC ⟨#[]⟩, .v (.slice none 0 0)], 69, 5, true⟩] hn h0 hb
  have k := callV_inl (g := 138) rfl rfl h1
  repeat' (first | refine i_seq ?_ | refine k_seq ?_ | refine i_region ?_ | refine l_o ?_ | refine l_nil ?_ | (show RD _ _; refine e_do (by simp (disch := omega) only [go_sem, seval, k]; exact IsX.mk) ?_) | refine s_f ?_ | refine f_s ?_ | refine f_n ?_ | refine st2 ?_)
  rfl
theorem c42 (d : Nat) (fs : List FillD) (H : Hp) (k : Nat) (hn : fs.length ≤ 1000) (h0 : 0 < fs.length) (hb : ∀ i : Int, 0 ≤ i → i < fs.length → FillBd (fAt fs i)) {lv : Bool} (hk : getR H k = some ⟨flF fs, 69, 5, lv⟩) : callV E (den E (d + 3)) 115 [.own k 0 fs.length 5] H = some (.agg (mxN fs fs.length).cells, Go.Den.freeze [k] 0 H) := by
  obtain ⟨H1, h1⟩ := f42 d fs hn h0 hb
  have hl : fs.length * 5 = 5 * fs.length := Nat.mul_comm _ _
  have hl2 := len_flF fs
  have tk : List.take (5 * fs.length) (flF fs) = flF fs := List.take_of_length_le (by omega)
  rw [callV_frz (args' := [sl false (flF fs) fs.length]) (r' := .agg (mxN fs fs.length).cells) rfl rfl rfl (by simp (disch := omega) only [go_sem, seval, hk, hl, tk, Nat.zero_add, Nat.le_refl, sl_ro]) h1 (by simp (disch := omega) only [go_sem, seval])]
  simp (disch := omega) only [go_sem, seval, hk, hl, tk, ids_flF]
  try rfl
def onS (fd day : Int) : Int := if day < 0 ∨ 100000 < day then 2 else if day < fd then 5 else 0
theorem f46 (d : Nat) (f : FillD) (day : Int) : ∃ H0, den E (d + 1) 71 [.agg f.cells, i64 day] [] = some (i64 (onS f.day day), H0) := by
  refine den_ex Tryz.func71 rfl Tryz.ntmps71 (by simp) _ Tryz.results71 ?_
  by_cases h1 : day < 0
  · repeat' (first | refine i_seq ?_ | refine k_seq ?_ | refine i_region ?_ | refine l_o ?_ | refine l_nil ?_ | (show RD _ _; refine e_do (by simp (disch := omega) only [go_sem, seval]; exact IsX.mk) ?_) | refine s_f ?_ | refine f_s ?_ | refine f_n ?_ | refine st2 ?_)
    simp [onS, h1]
  · by_cases h2 : 100000 < day
    · repeat' (first | refine i_seq ?_ | refine k_seq ?_ | refine i_region ?_ | refine l_o ?_ | refine l_nil ?_ | (show RD _ _; refine e_do (by simp (disch := omega) only [go_sem, seval]; exact IsX.mk) ?_) | refine s_f ?_ | refine f_s ?_ | refine f_n ?_ | refine st2 ?_)
      simp [onS, h2]
    · by_cases h3 : day < f.day
      · repeat' (first | refine i_seq ?_ | refine k_seq ?_ | refine i_region ?_ | refine l_o ?_ | refine l_nil ?_ | (show RD _ _; refine e_do (by simp (disch := omega) only [go_sem, seval]; exact IsX.mk) ?_) | refine s_f ?_ | refine f_s ?_ | refine f_n ?_ | refine st2 ?_)
        simp [onS, h1, h2, h3]
      · repeat' (first | refine i_seq ?_ | refine k_seq ?_ | refine i_region ?_ | refine l_o ?_ | refine l_nil ?_ | (show RD _ _; refine e_do (by simp (disch := omega) only [go_sem, seval]; exact IsX.mk) ?_) | refine s_f ?_ | refine f_s ?_ | refine f_n ?_ | refine st2 ?_)
        simp [onS, h1, h2, h3]
@[go_sem] theorem c46 (d : Nat) (f : FillD) (day : Int) (H : Hp) : callV E (den E (d + 1)) 71 [.agg f.cells, i64 day] H = some (i64 (onS f.day day), H) := callV_plain rfl rfl rfl (by simp (disch := omega) only [go_sem, seval]) (f46 d f day) rfl
theorem c46o (d : Nat) (f : FillD) (day : Int) (H : Hp) (k : Nat) (hk : getR H k = some ⟨f.al.map strC, 9, 1, true⟩) : callV E (den E (d + 1)) 71 [f.own k, i64 day] H = some (i64 (onS f.day day), H) := by
  have hl := len_al f.al
  have tk : List.take f.al.length (f.al.map strC) = f.al.map strC := List.take_of_length_le (by omega)
  exact callV_plain (args' := [.agg ({ f with nilA := false } : FillD).cells, i64 day]) rfl rfl rfl (by simp (disch := omega) only [go_sem, seval, hk, hl, tk, Nat.mul_one, Nat.zero_add, Nat.le_refl, sl_ro]; try rfl) (f46 d { f with nilA := false } day) rfl
end Go.Age
end
