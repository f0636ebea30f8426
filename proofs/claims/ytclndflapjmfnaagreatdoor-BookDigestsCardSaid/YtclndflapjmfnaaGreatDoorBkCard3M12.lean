/- Part of the proof of BookDigestsCardSaid. -/
import Derived.Test.YtclndflapjmfnaaGreatDoorBkCard3M11
import Derived.Test.YtclndflapjmfnaaGreatDoorBkCard3M00
section
set_option linter.all false
set_option linter.unusedVariables false
set_option linter.unusedSimpArgs false
namespace Go.Den

attribute [go_sem ↓] WB_true WB_false
attribute [go_sem] mk_set List.length_nil List.length_cons List.nil_append List.cons_append
attribute [local simp] scal
@[congr] theorem WB_congr' {b b' : Bool} {σ : Nat → CV} {t : Nat} {K : Bool → (Nat → CV) → Prop} {xx : Prop} (h : b = b') (hd : (True ∧ True) = xx) : WB b σ t K = WB b' σ t K := by rw [h]

@[go_sem ↓] theorem upd_eq (σ : Nat → CV) (t j : Nat) (c : CV) : upd σ t c j = if j = t then c else σ j := rfl
@[go_sem ↓] theorem jk_eq (j : Nat) : jk j = .junk := rfl
@[go_sem ↓] theorem ini_zero (a : CV) (l : List CV) : ini (a :: l) 0 = a := rfl
@[go_sem ↓] theorem ini_succ (a : CV) (l : List CV) (k : Nat) : ini (a :: l) (k + 1) = ini l k := rfl
@[go_sem ↓] theorem ini_one (a b : CV) (l : List CV) : ini (a :: b :: l) 1 = b := rfl
@[go_sem ↓] theorem ini_two (a b c : CV) (l : List CV) : ini (a :: b :: c :: l) 2 = c := rfl
@[go_sem ↓] theorem ini_three (a b c d : CV) (l : List CV) : ini (a :: b :: c :: d :: l) 3 = d := rfl
@[go_sem] theorem kp_nil (σ : Nat → CV) : kp [] σ = jk := rfl
@[go_sem] theorem kp_cons (k : Nat) (ks : List Nat) (σ : Nat → CV) : kp (k :: ks) σ = upd (kp ks σ) k (σ k) := rfl
@[go_sem] theorem putS_some (σ : Nat → CV) (t : Nat) (c : CV) : putS σ (some t) c = upd σ t c := rfl
@[go_sem] theorem putS_none (σ : Nat → CV) (c : CV) : putS σ none c = σ := rfl

section
variable {E : Env} {call : FuncId → List CV → Hp → Option (CV × Hp)} {f : FuncId} {n : Nat} {σ : Nat → CV} {H : Hp} {Q : Ex → (Nat → CV) → Hp → Prop}
variable {ops : Array Oper} {dr : Bool}
@[go_sem ↓] theorem W_skip : W E call f n .skip σ H Q = Q .normal σ H := rfl
@[go_sem ↓] theorem W_label (l) : W E call f n (.label l) σ H Q = Q .normal σ H := rfl
@[go_sem ↓] theorem W_exit (id) : W E call f n (.exit id) σ H Q = Q (.exit id) σ H := rfl
@[go_sem ↓] theorem W_ret : W E call f n .ret σ H Q = Q .ret σ H := rfl
@[go_sem ↓] theorem W_region (id) (ops : Array Oper) : W E call f n (.region id ops false) σ H Q = WL E call n ops false ops.toList σ H (Q .normal) := by
  simp [W]
theorem W_draw (id) (ops : Array Oper) (h : still E ops = true ∧ WL E call n ops true ops.toList σ H (Q .normal)) : W E call f n (.region id ops true) σ H Q := by
  simp only [W]; exact .inl h
@[go_sem ↓] theorem W_seq (a b : Code) : W E call f n (.seq a b) σ H Q = W E call f n a σ H fun ex σ' H' => WN ex (W E call f n b σ' H' Q) (Q ex σ' H') := rfl
@[go_sem ↓] theorem W_cond (c : Operand) (a b : Code) : W E call f n (.cond c a b) σ H Q = WC (evalO E (mk n σ) c) σ (slotOf n c) fun t σ' => match t with
    | true => W E call f n a σ' H Q
    | false => W E call f n b σ' H Q := rfl
@[go_sem ↓] theorem W_block (id) (b : Code) : W E call f n (.block id b) σ H Q = W E call f n b σ H fun ex σ' H' => WE ex id (Q .normal σ' H') (Q ex σ' H') := rfl
@[go_sem ↓] theorem WN_normal (p q : Prop) : WN .normal p q = p := rfl
@[go_sem ↓] theorem WN_ret (p q : Prop) : WN .ret p q = q := rfl
@[go_sem ↓] theorem WN_exit (i) (p q : Prop) : WN (.exit i) p q = q := rfl
@[go_sem ↓] theorem WE_normal (id) (p q : Prop) : WE .normal id p q = q := rfl
@[go_sem ↓] theorem WE_ret (id) (p q : Prop) : WE .ret id p q = q := rfl
@[go_sem ↓] theorem WE_exit (i id) (p q : Prop) : WE (.exit i) id p q = if i = id then p else q := rfl
@[go_sem ↓] theorem WC_some (b : Bool) (t : Nat) (K) : WC (some (.v (.bool b))) σ t K = WB b σ t K := rfl
@[go_sem] theorem slotOf_tmp (t : Nat) : slotOf n (.tmp t) = t := rfl

@[go_sem ↓] theorem WL_nil (K) : WL E call n ops dr [] σ H K = K σ H := rfl
@[go_sem ↓] theorem WL_cons (d op ty p a g) (l : List Oper) (K) : WL E call n ops dr (⟨d, op, ty, p, a, g⟩ :: l) σ H K = WG E call n ops dr ⟨d, op, ty, p, a, g⟩ σ H (fun σ' H' => WL E call n ops dr l σ' H' K) g := rfl
@[go_sem ↓] theorem WG_none (o : Oper) (K) : WG E call n ops dr o σ H K none = WO E call n dr o σ H K := rfl
def WX (E : Env) (call : FuncId → List CV → Hp → Option (CV × Hp)) (n : Nat) (dr : Bool) (o : Oper) (σ : Nat → CV) (H : Hp) (K : (Nat → CV) → Hp → Prop) (want : Bool) (t : Nat) : CV → Prop
  | .v (.bool b) => WB b σ t fun b' σ' => match b' == want with
          | true => WO E call n dr o σ' H K
          | false => K (putS σ' o.dst (.v undef)) H
  | .v (.tuple _) => K (putS σ o.dst (.v undef)) H
  | _ => False
theorem WG_some {o : Oper} {K} {g : Nat} {want : Bool} {t : Nat} (h : gdst ops g = some t) (hn : t < n) : WG E call n ops dr o σ H K (some (g, want)) = WX E call n dr o σ H K want t (σ t) := by
  simp only [WG, h, if_pos hn]
  unfold WX
  rfl
@[go_sem ↓] theorem WG_some' {o : Oper} {K} {g : Nat} {want : Bool} : WG E call n ops dr o σ H K (some (g, want)) = (match gdst ops g with | some t => if t < n then WX E call n dr o σ H K want t (σ t) else False | none => False) := by
  simp only [WG]
  unfold WX
  rfl
@[go_sem ↓] theorem WX_bool {t' op ty p a g} {K} {want : Bool} {t : Nat} (b : Bool) : WX E call n dr ⟨some t', op, ty, p, a, g⟩ σ H K want t (.v (.bool b)) = WB b σ t fun b' σ' => match b' == want with
          | true => WK dr (stepOp E call ⟨some t', op, ty, p, a, g⟩ (mk n σ') H) H fun c H' => K (upd σ' t' c) H'
          | false => K (upd σ' t' (.v undef)) H := rfl
@[go_sem ↓] theorem WX_bool' {op ty p a g} {K} {want : Bool} {t : Nat} (b : Bool) : WX E call n dr ⟨none, op, ty, p, a, g⟩ σ H K want t (.v (.bool b)) = WB b σ t fun b' σ' => match b' == want with
          | true => WK dr (stepOp E call ⟨none, op, ty, p, a, g⟩ (mk n σ') H) H fun c H' => K σ' H'
          | false => K σ' H := rfl
@[go_sem ↓] theorem WX_undef {t' op ty p a g} {K} {want : Bool} {t : Nat} : WX E call n dr ⟨some t', op, ty, p, a, g⟩ σ H K want t (.v undef) = K (upd σ t' (.v undef)) H := rfl
@[go_sem ↓] theorem WX_undef' {op ty p a g} {K} {want : Bool} {t : Nat} : WX E call n dr ⟨none, op, ty, p, a, g⟩ σ H K want t (.v undef) = K σ H := rfl
@[go_sem] theorem gdst_list (l : List Oper) (g : Nat) : gdst (List.toArray l) g = (l[g]?).bind (·.dst) := by simp [gdst]
@[go_sem] theorem ds_get_zero {α : Type} (a : α) (l : List α) : (a :: l)[0]? = some a := rfl
@[go_sem] theorem ds_get_succ {α : Type} (a : α) (l : List α) (k : Nat) : (a :: l)[k + 1]? = l[k]? := by simp
@[go_sem] theorem ds_bind_some {α β : Type} (a : α) (g : α → Option β) : (some a).bind g = g a := rfl
@[go_sem] theorem ds_map_some {α β : Type} (a : α) (g : α → β) : (some a).map g = some (g a) := rfl
@[go_sem ↓] theorem WO_eq {t' op ty p a g} (K) : WO E call n dr ⟨some t', op, ty, p, a, g⟩ σ H K = WK dr (stepOp E call ⟨some t', op, ty, p, a, g⟩ (mk n σ) H) H fun c H' => K (upd σ t' c) H' := rfl
@[go_sem ↓] theorem WO_eq' {op ty p a g} (K) : WO E call n dr ⟨none, op, ty, p, a, g⟩ σ H K = WK dr (stepOp E call ⟨none, op, ty, p, a, g⟩ (mk n σ) H) H fun c H' => K σ H' := rfl
@[go_sem ↓] theorem WK_some (c : CV) (H' : Hp) (K) : WK dr (some (c, H')) H K = (grows dr H H' ∧ K c H') := rfl
@[go_sem] theorem grows_false (H H' : Hp) : grows false H H' = True := by simp [grows]
@[go_sem] theorem grows_same (H : Hp) : grows dr H H = True := by simp [grows]
@[go_sem] theorem grows_app (H l : Hp) : grows dr H (H ++ l) = True := by simp [grows]
@[go_sem] theorem grows_cons (H H' : Hp) (a b : Blk) : grows dr (a :: H) (b :: H') = grows dr H H' := by simp [grows]
@[go_sem] theorem grows_nil (H : Hp) : grows dr [] H = True := by simp [grows]
@[congr] theorem WK_congr' {r r' : Option (CV × Hp)} {K : CV → Hp → Prop} {xx : Prop} (h : r = r') (hd : (True ∧ True) = xx) : WK dr r H K = WK dr r' H K := by rw [h]
@[congr] theorem WC_congr' {r r' : Option CV} {t : Nat} {K : Bool → (Nat → CV) → Prop} {xx : Prop} (h : r = r') (hd : (True ∧ True) = xx) : WC r σ t K = WC r' σ t K := by rw [h]
@[congr] theorem WX_congr' {o : Oper} {K} {want : Bool} {t : Nat} {x x' : CV} {xx : Prop} (h : x = x') (hd : (True ∧ True) = xx) : WX E call n dr o σ H K want t x = WX E call n dr o σ H K want t x' := by rw [h]
@[congr] theorem W_congr' {c : Code} {σ' : Nat → CV} {H' : Hp} (h : σ = σ') {xx : Prop} (hH : H = H') (hd : (True ∧ True) = xx) : W E call f n c σ H Q = W E call f n c σ' H' Q := by rw [h, hH]
@[go_sem] theorem bn_t : (!true) = false := rfl
@[go_sem] theorem bn_f : (!false) = true := rfl
@[go_sem] theorem bo_t (b : Bool) : (true || b) = true := rfl
@[go_sem] theorem bo_f (b : Bool) : (false || b) = b := rfl
@[go_sem] theorem ba_f (b : Bool) : (false && b) = false := rfl
@[go_sem] theorem bq_tt : (true == true) = true := rfl
@[go_sem] theorem bq_ff : (false == false) = true := rfl
@[go_sem] theorem bq_tf : (true == false) = false := rfl
@[go_sem] theorem bq_ft : (false == true) = false := rfl

theorem ble_lt {n t : Nat} (h : Nat.ble n t = false) : t < n := by
  rcases Nat.lt_or_ge t n with h1 | h1
  · exact h1
  · rw [Nat.ble_eq_true_of_le h1] at h; cases h
@[go_sem ↓] theorem ev_tmp (t : Nat) : evalO E (mk n σ) (.tmp t) = if t < n then some (σ t) else none := by split; exact mk_get σ ‹_›; exact mk_get_none σ ‹_›
@[go_sem] theorem ev_const (s : List CV) (x : Value) : evalO E s (.const x) = some (constC x) := rfl
@[go_sem] theorem ev_func (s : List CV) (g : FuncId) : evalO E s (.func g) = if g = 1000000007 then none else some (.fn g []) := rfl
@[go_sem] theorem constC_int (k n) : constC (.int k n) = .v (.int k n) := rfl
@[go_sem] theorem constC_bool (b) : constC (.bool b) = .v (.bool b) := rfl
@[go_sem] theorem constC_string (b) : constC (.string b) = .v (.string b) := rfl
@[go_sem] theorem constC_slice (a b c) : constC (.slice a b c) = .v (.slice a b c) := rfl
@[go_sem] theorem constC_nilFunc : constC .nilFunc = .v .nilFunc := rfl
@[go_sem] theorem constC_map (a) : constC (.map a) = .v (.map a) := rfl
@[go_sem] theorem constC_pointer (a) : constC (.pointer a) = .v (.pointer a) := rfl
@[go_sem] theorem constC_agg (cs) : constC (.agg (List.toArray cs)) = .agg (cs.map .v) := rfl
@[go_sem] theorem lmap_nil {α β : Type} (g : α → β) : List.map g [] = [] := rfl
@[go_sem] theorem lmap_cons {α β : Type} (g : α → β) (a : α) (l : List α) : List.map g (a :: l) = g a :: List.map g l := rfl
@[go_sem] theorem evalOpt_none (s : List CV) : evalOpt E s none = some none := rfl
@[go_sem] theorem evalOpt_some (s : List CV) (x : Operand) : evalOpt E s (some x) = (evalO E s x).map some := rfl
@[go_sem] theorem omap_nil {α β : Type} (g : α → Option β) : omap g [] = some [] := rfl
@[go_sem] theorem omap_cons {α β : Type} (g : α → Option β) (a : α) (l : List α) : omap g (a :: l) = (match g a with
    | some b => match omap g l with
      | some bs => some (b :: bs)
      | none => none
    | none => none) := rfl
section
variable {d : Option Tmp} {ty : TypeId} {p : String} {a : Array Edge} {g : Option (Nat × Bool)} {s : List CV}
@[go_sem] theorem so_move (x) : stepOp E call ⟨d, .move x, ty, p, a, g⟩ s H = (evalO E s x).map (fun r => (r, H)) := rfl
@[go_sem] theorem so_assign (x) : stepOp E call ⟨d, .assign x, ty, p, a, g⟩ s H = (evalO E s x).map (fun r => (r, H)) := rfl
@[go_sem] theorem so_pick (c x y) : stepOp E call ⟨d, .pick c x y, ty, p, a, g⟩ s H = (match evalO E s c with
    | some (.v (.bool t)) => (evalO E s (if t then x else y)).map (fun r => (r, H))
    | _ => none) := rfl
@[go_sem] theorem so_alloc (t) : stepOp E call ⟨d, .alloc t, ty, p, a, g⟩ s H = (match E.ty t with
    | some i => (newRowC i.zero t i.sz H).map (fun r => (.op r.1 0, r.2))
    | none => none) := rfl
@[go_sem] theorem so_box (t x) : stepOp E call ⟨d, .box t x, ty, p, a, g⟩ s H = (match evalO E s x, E.ty t with
    | some c, some i => if c.cells.length = i.sz then (newRowC c.cells t i.sz H).map (fun r => (.op r.1 0, r.2)) else none
    | _, _ => none) := rfl
@[go_sem] theorem so_build (t parts) : stepOp E call ⟨d, .build t parts, ty, p, a, g⟩ s H = (match E.ty t, ptrs parts.toList (evalO E s) with
    | some i, some ps => match i.k with
      | .struct fs _ => match placesC E fs with
        | some pl => (fillC (fun j => pl[j]?) i.zero ps).map (fun r => (.agg r, H))
        | none => none
      | .array _ e => match sizeT E e with
        | some sz => (fillC (fun j => some (j * sz, sz)) i.zero ps).map (fun r => (.agg r, H))
        | none => none
      | _ => none
    | _, _ => none) := rfl
@[go_sem] theorem so_buildSlice (t len parts) : stepOp E call ⟨d, .buildSlice t len parts, ty, p, a, g⟩ s H = (match E.ty t, ptrs parts.toList (evalO E s) with
    | some i, some ps => match i.k with
      | .slice e => match E.ty e with
        | some j => if len * j.sz ≤ 16777216 ∧ j.zero.length = j.sz ∧ len ≤ 9223372036854775807 then match fillC (fun q => some (q * j.sz, j.sz)) (repCells j.zero len) ps with
            | some cs => (newRowC cs e j.sz H).map (fun r => (.own r.1 0 len j.sz, r.2))
            | none => none
          else none
        | none => none
      | _ => none
    | _, _ => none) := rfl
@[go_sem] theorem so_load (t x) : stepOp E call ⟨d, .load t x, ty, p, a, g⟩ s H = (match evalO E s x with
    | some q => (loadAt E t q H).map (fun r => (r, H))
    | none => none) := rfl
@[go_sem] theorem so_store (t x y) : stepOp E call ⟨d, .store t x y, ty, p, a, g⟩ s H = (match evalO E s x, evalO E s y with
    | some q, some c => (storeAt E t q c H).map (fun H' => (.v undef, H'))
    | _, _ => none) := rfl
@[go_sem] theorem so_makeMap (t) : stepOp E call ⟨d, .makeMap t none, ty, p, a, g⟩ s H = some (.mp H.length, H ++ [.row ⟨[], 0, 0, true⟩]) := rfl
@[go_sem] theorem so_lookup (t x k ok) : stepOp E call ⟨d, .lookup t x k ok, ty, p, a, g⟩ s H = (match evalO E s x, evalO E s k with
    | some q, some b => (lookupC E t q b ok H).map (fun r => (r, H))
    | _, _ => none) := rfl
@[go_sem] theorem so_mapUpdate (t m k x) : stepOp E call ⟨d, .mapUpdate t m k x, ty, p, a, g⟩ s H = (match evalO E s m, evalO E s k, evalO E s x with
    | some q, some b, some c => (updateC E t q b c H).map (fun H' => (.v undef, H'))
    | _, _, _ => none) := rfl
@[go_sem] theorem so_nilCheck (x) : stepOp E call ⟨d, .nilCheck x, ty, p, a, g⟩ s H = (match evalO E s x with
    | some (.op id off) => some (.op id off, H)
    | some (.rp cs) => some (.rp cs, H)
    | _ => none) := rfl
@[go_sem] theorem so_binOp (op t x y t2) : stepOp E call ⟨d, .binOp op t x y t2, ty, p, a, g⟩ s H = (match evalO E s x, evalO E s y with
    | some q, some b => (binO E op t x y q b).map (fun r => (r, H))
    | _, _ => none) := rfl
@[go_sem] theorem so_unOp (op t x) : stepOp E call ⟨d, .unOp op t x, ty, p, a, g⟩ s H = (match evalO E s x with
    | some (.v q) => (scal (Op.unary op q)).map (fun r => (r, H))
    | _ => none) := rfl
@[go_sem] theorem so_convert (src dst x) : stepOp E call ⟨d, .convert src dst x, ty, p, a, g⟩ s H = (match evalO E s x with
    | some q => (convA E src dst q H).map (fun r => (r, H))
    | none => none) := rfl
@[go_sem] theorem so_iface (t x) : stepOp E call ⟨d, .makeInterface t x, ty, p, a, g⟩ s H = (match evalO E s x, kT E t with
    | some c, some k => match k with
      | .iface | .other => none
      | _ => some (.ifc t c, H)
    | _, _ => none) := rfl
@[go_sem] theorem cv_int (src dst k n H) : convA E src dst (.v (.int k n)) H = (match kT E src, kT E dst with
    | some (.int _), some (.int k) => some (.v (.int k (k.wrap n)))
    | _, _ => none) := by
  unfold convA cvH convS convC
  cases kT E src with
  | none => rfl
  | some a => cases a <;> first
    | rfl
    | (cases kT E dst with
      | none => rfl
      | some b => cases b <;> first | rfl | (simp only [if_true]; split <;> rfl) | (rename_i e; simp only [if_true]; cases kT E e with | none => rfl | some q => cases q <;> first | rfl | (rename_i kk; cases kk <;> rfl)))
theorem cv_bytes (src dst x H) (e : TypeId) (h1 : kT E src = some (.slice e)) (h2 : kT E dst = some .str) (h3 : kT E e = some (.int .u8)) : convA E src dst x H = (match elemsC 1 H x with
    | some (_, cs) => (strOfC cs).map fun ns => .v (.string (mkStr ns))
    | none => none) := by
  unfold convA cvH convS
  simp only [h1, h2, h3, if_true]
  cases elemsC 1 H x with
  | none => rfl
  | some q =>
    obtain ⟨_, cs⟩ := q
    simp only
    cases strOfC cs <;> rfl
@[go_sem] theorem so_makeFunc (h captured) : stepOp E call ⟨d, .makeFunc (.func h) #[] captured, ty, p, a, g⟩ s H = if h = 1000000007 then none else (omap (evalO E s) captured.toList).map (fun cs => (.fn h cs, H)) := by
  by_cases hh : h = 1000000007
  · rw [if_pos hh]; exact if_neg fun e => e.2 hh
  · rw [if_neg hh]; exact if_pos ⟨rfl, hh⟩
@[go_sem] theorem so_slice (t x lo hi mx) : stepOp E call ⟨d, .slice t x lo hi mx, ty, p, a, g⟩ s H = (match evalO E s x, evalOpt E s lo, evalOpt E s hi, evalOpt E s mx with
    | some q, some l, some h, some m => (sliceC E t q l h m H).map (fun r => (r, H))
    | _, _, _, _ => none) := rfl
@[go_sem] theorem so_fieldAddr (t x i) : stepOp E call ⟨d, .fieldAddr t x i, ty, p, a, g⟩ s H = (match evalO E s x, fieldC E t i with
    | some q, some (off, ft) => match sizeT E ft with
      | some (_ + 1) => (addrAdd q off).map (fun r => (r, H))
      | _ => none
    | _, _ => none) := rfl
@[go_sem] theorem so_field (t x i) : stepOp E call ⟨d, .field t x i, ty, p, a, g⟩ s H = (match evalO E s x, fieldC E t i with
    | some (.agg cs), some (off, ft) => (loadC E ft (cs.drop off)).map (fun r => (r, H))
    | _, _ => none) := rfl
@[go_sem] theorem so_indexAddr (t x ix) : stepOp E call ⟨d, .indexAddr t x ix, ty, p, a, g⟩ s H = (match evalO E s x, evalO E s ix with
    | some q, some i => (indexAddrC E t q i).map (fun r => (r, H))
    | _, _ => none) := rfl
@[go_sem] theorem so_index (t x ix) : stepOp E call ⟨d, .index t x ix, ty, p, a, g⟩ s H = (match evalO E s x, evalO E s ix with
    | some q, some i => (indexC E t q i).map (fun r => (r, H))
    | _, _ => none) := rfl
@[go_sem] theorem so_extract (x i) : stepOp E call ⟨d, .extract x i, ty, p, a, g⟩ s H = (match evalO E s x with
    | some (.tup vs) => (vs[i]?).map (fun r => (r, H))
    | _ => none) := rfl
@[go_sem] theorem so_callF (c : Call) : stepOp E call ⟨d, .call c, ty, p, a, g⟩ s H = (match omap (evalO E s) c.args.toList with
    | some args => match c.callee with
      | .value f => match evalO E s f with
        | some (.fn g caps) => call g (args ++ caps) H
        | some (.yd id) => call yId (.yd id :: args) H
        | _ => none
      | .builtin b => builtinC E b c.argTypes args H
      | .invoke x m => match evalO E s x with
        | some (.ifc t q) => match E.meth t m with
          | some g => if g = 1000000007 then none else call g (q :: args) H
          | none => none
        | _ => none
    | none => none) := rfl
end
@[go_sem] theorem ptrs_nil (ev) : ptrs [] ev = some [] := rfl
@[go_sem] theorem ptrs_cons (i x l ev) : ptrs ((i, x) :: l) ev = (match ev x, ptrs l ev with
    | some c, some r => some ((i, c) :: r)
    | _, _ => none) := rfl
@[go_sem] theorem placesC_eq (fs) : placesC E fs = omap (fun f => match sizeT E f.2 with | some n => some (f.1, n) | none => none) fs := rfl
@[go_sem] theorem fillC_nil (place cells) : fillC place cells [] = some cells := rfl
@[go_sem] theorem fillC_cons (place cells i x rest) : fillC place cells ((i, x) :: rest) = (match place i with
    | none => none
    | some (off, size) =>
      if x.cells.length = size ∧ off + size ≤ cells.length ∧ x.cells.all CV.leaf = true then fillC place (splice cells off x.cells) rest else none) := rfl
@[go_sem] theorem sizeT_eq (t) : sizeT E t = (E.ty t).map (·.sz) := rfl
@[go_sem] theorem kT_eq (t) : kT E t = match E.ty t with | some i => some i.k | none => none := rfl
def guardO (c : Prop) [Decidable c] (x : CV) : Option CV := if c then some x else none
@[go_sem] theorem guardO_pos (c : Prop) [Decidable c] (x : CV) (h : c) : guardO c x = some x := if_pos h
@[go_sem] theorem guardO_true {inst : Decidable True} (x : CV) : @guardO True inst x = some x := if_pos trivial
@[go_sem] theorem dec_true {inst : Decidable True} : @decide True inst = true := decide_eq_true trivial
@[go_sem] theorem dec_false {inst : Decidable False} : @decide False inst = false := decide_eq_false id
@[go_sem] theorem loadC_eq (t cs) : loadC E t cs = (match E.ty t with
  | some i => match i.k with
    | .struct _ _ | .array _ _ => guardO (i.sz ≤ cs.length) (.agg (cs.take i.sz))
    | _ => cs.head?
  | none => none) := rfl
@[go_sem] theorem ds_head_cons {α : Type} (x : α) (l : List α) : (x :: l).head? = some x := rfl
@[go_sem] theorem ds_drop_zero {α : Type} (l : List α) : l.drop 0 = l := rfl
@[go_sem] theorem ds_drop_cons {α : Type} (x : α) (l : List α) (k : Nat) : (x :: l).drop (k + 1) = l.drop k := rfl
@[go_sem] theorem ds_take_zero {α : Type} (l : List α) : l.take 0 = [] := by simp
@[go_sem] theorem ds_take_cons {α : Type} (x : α) (l : List α) (k : Nat) : (x :: l).take (k + 1) = x :: l.take k := rfl
@[go_sem] theorem splice_eq (cs : List CV) (o : Nat) (xs : List CV) : splice cs o xs = cs.take o ++ xs ++ cs.drop (o + xs.length) := rfl
@[go_sem] theorem all_nil' {α : Type} (q : α → Bool) : [].all q = true := rfl
@[go_sem] theorem all_cons' {α : Type} (q : α → Bool) (x : α) (l : List α) : (x :: l).all q = (q x && l.all q) := rfl
@[go_sem] theorem and_tt (b : Bool) : (true && b) = b := rfl
@[go_sem] theorem leaf_v (x : Value) : CV.leaf (.v x) = valLeaf x := rfl
@[go_sem] theorem leaf_ro (cs n) : CV.leaf (.ro cs n) = true := rfl
@[go_sem] theorem leaf_own (a b c d) : CV.leaf (.own a b c d) = true := rfl
@[go_sem] theorem leaf_cut (a b c d) : CV.leaf (.cut a b c d) = true := rfl
@[go_sem] theorem leaf_op (a b) : CV.leaf (.op a b) = true := rfl
@[go_sem] theorem leaf_fn (a b) : CV.leaf (.fn a b) = true := rfl
@[go_sem] theorem leaf_mp (a) : CV.leaf (.mp a) = true := rfl
@[go_sem] theorem valLeaf_int (k n) : valLeaf (.int k n) = true := rfl
@[go_sem] theorem valLeaf_bool (b) : valLeaf (.bool b) = true := rfl
@[go_sem] theorem valLeaf_string (b) : valLeaf (.string b) = true := rfl
@[go_sem] theorem valLeaf_slice (a b c) : valLeaf (.slice a b c) = true := rfl
@[go_sem] theorem valLeaf_nilFunc : valLeaf .nilFunc = true := rfl
@[go_sem] theorem cells_v (x : Value) : CV.cells (.v x) = [.v x] := rfl
@[go_sem] theorem cells_agg (cs) : CV.cells (.agg cs) = cs := rfl
@[go_sem] theorem cells_ro (cs n) : CV.cells (.ro cs n) = [.ro cs n] := rfl
@[go_sem] theorem cells_own (a b c d) : CV.cells (.own a b c d) = [.own a b c d] := rfl
@[go_sem] theorem cells_cut (a b c d) : CV.cells (.cut a b c d) = [.cut a b c d] := rfl
@[go_sem] theorem cells_op (a b) : CV.cells (.op a b) = [.op a b] := rfl
@[go_sem] theorem cells_fn (a b) : CV.cells (.fn a b) = [.fn a b] := rfl
@[go_sem] theorem cells_mp (a) : CV.cells (.mp a) = [.mp a] := rfl
@[go_sem] theorem newRowC_eq (cells e sz H) : newRowC cells e sz H = if cells.all CV.leaf = true ∧ 0 < sz then some (H.length, H ++ [.row ⟨cells, e, sz, true⟩]) else none := rfl
@[go_sem] theorem loadAt_rp (t cs H) : loadAt E t (.rp cs) H = loadC E t cs := rfl
@[go_sem] theorem loadAt_op (t id off H) : loadAt E t (.op id off) H = (match getR H id with
    | some r => loadC E t (r.cells.drop off)
    | none => none) := rfl
@[go_sem] theorem storeAt_op (t id off x H) : storeAt E t (.op id off) x H = (match getR H id, sizeT E t with
    | some r, some sz => if r.live = true ∧ x.cells.length = sz ∧ off + sz ≤ r.cells.length ∧ x.cells.all CV.leaf = true then
        some (H.set id (.row { r with cells := splice r.cells off x.cells }))
      else none
    | _, _ => none) := rfl
@[go_sem] theorem fieldC_eq (t i) : fieldC E t i = (match E.ty t with
  | some i' => match i'.k with
    | .struct fs _ => fs[i]?
    | _ => none
  | none => none) := rfl
@[go_sem] theorem addrAdd_op (id off k) : addrAdd (.op id off) k = some (.op id (off + k)) := rfl
@[go_sem] theorem addrAdd_rp (cs k) : addrAdd (.rp cs) k = some (.rp (cs.drop k)) := rfl
@[go_sem] theorem getR_zero (r : Row) (l : Hp) : getR (.row r :: l) 0 = if r.sz = 0 then none else some r := rfl
@[go_sem] theorem getR_succ (b : Blk) (l : Hp) (k : Nat) : getR (b :: l) (k + 1) = getR l k := by simp [getR]
@[go_sem] theorem getM_zero (r : Row) (l : Hp) : getM (.row r :: l) 0 = if r.sz = 0 ∧ r.e = 0 then some r else none := rfl
@[go_sem] theorem getM_succ (b : Blk) (l : Hp) (k : Nat) : getM (b :: l) (k + 1) = getM l k := by simp [getM]
@[go_sem] theorem getR_app (H l : Hp) : getR (H ++ l) (List.length H) = getR l 0 := by unfold getR; rw [List.getElem?_append_right (Nat.le_refl _), Nat.sub_self]
@[go_sem] theorem getR_app' (H l : Hp) (k : Nat) : getR (H ++ l) (List.length H + k) = getR l k := by unfold getR; rw [List.getElem?_append_right (Nat.le_add_right _ _), Nat.add_sub_cancel_left]
@[go_sem] theorem getM_app (H l : Hp) : getM (H ++ l) (List.length H) = getM l 0 := by unfold getM; rw [List.getElem?_append_right (Nat.le_refl _), Nat.sub_self]
@[go_sem] theorem getM_app' (H l : Hp) (k : Nat) : getM (H ++ l) (List.length H + k) = getM l k := by unfold getM; rw [List.getElem?_append_right (Nat.le_add_right _ _), Nat.add_sub_cancel_left]
@[go_sem] theorem set_app (H l : Hp) (b : Blk) : (H ++ l).set H.length b = H ++ l.set 0 b := by simp
@[go_sem] theorem set_app' (H l : Hp) (k : Nat) (b : Blk) : (H ++ l).set (H.length + k) b = H ++ l.set k b := by simp
@[go_sem] theorem ds_set_zero {α : Type} (x y : α) (l : List α) : (x :: l).set 0 y = y :: l := rfl
@[go_sem] theorem ds_set_succ {α : Type} (x y : α) (l : List α) (k : Nat) : (x :: l).set (k + 1) y = x :: l.set k y := rfl
@[go_sem] theorem ds_app_assoc {α : Type} (a b c : List α) : a ++ b ++ c = a ++ (b ++ c) := List.append_assoc a b c
@[go_sem] theorem ds_app_nil {α : Type} (a : List α) : a ++ [] = a := List.append_nil a
@[go_sem] theorem ds_app_len {α : Type} (a b : List α) : (a ++ b).length = a.length + b.length := List.length_append
@[go_sem] theorem ia_ro (t cs m k i) : indexAddrC E t (.ro cs m) (.v (.int k i)) = (match E.ty t with
    | some ti => match ti.k with
      | .slice e => match sizeT E e with
        | some sz => guardO (0 ≤ i ∧ i < m ∧ i.toNat * sz < cs.length) (.rp (cs.drop (i.toNat * sz)))
        | none => none
      | _ => none
    | none => none) := by
  simp only [indexAddrC, CV.lo]
  unfold indexAddrC0 guardO
  cases E.ty t with
  | none => rfl
  | some ti =>
    obtain ⟨kk, a1, a2, a3, a4⟩ := ti
    cases kk <;> first | rfl | (simp only [addrAdd]; split <;> simp)
@[go_sem] theorem ia_own (t id off m sz k i) : indexAddrC E t (.own id off m sz) (.v (.int k i)) = (match E.ty t with
    | some ti => match ti.k with
      | .slice e => match sizeT E e with
        | some sz' => guardO (sz' = sz ∧ 0 < sz ∧ 0 ≤ i ∧ i < m) (.op id (off + i.toNat * sz))
        | none => none
      | _ => none
    | none => none) := by
  simp only [indexAddrC, CV.lo]
  unfold indexAddrC0 guardO
  cases E.ty t with
  | none => rfl
  | some ti =>
    obtain ⟨kk, a1, a2, a3, a4⟩ := ti
    cases kk <;> first | rfl | (simp only [addrAdd]; split <;> simp)
@[go_sem] theorem ia_op (t id off k i) : indexAddrC E t (.op id off) (.v (.int k i)) = (match E.ty t with
    | some ti => match ti.k with
      | .array m e => match sizeT E e with
        | some sz => guardO (0 ≤ i ∧ i < m) (.op id (off + i.toNat * sz))
        | none => none
      | _ => none
    | none => none) := by
  simp only [indexAddrC, CV.lo]
  unfold indexAddrC0 guardO
  cases E.ty t with
  | none => rfl
  | some ti =>
    obtain ⟨kk, a1, a2, a3, a4⟩ := ti
    cases kk <;> first | rfl | (simp only [addrAdd]; split <;> simp)
def byteS (b : ByteArray) (i : Int) : Int := match b[i.toNat]? with
  | some c => c.toNat
  | none => 0
@[go_sem] theorem ix_str (t b k i) (h : 0 ≤ i ∧ i < b.size) : indexC E t (.v (.string b)) (.v (.int k i)) = (match E.ty t with
    | some ti => match ti.k with
      | .str => some (.v (.int .u8 (byteS b i)))
      | _ => none
    | none => none) := by
  have hc : b[i.toNat]? = some (b[i.toNat]'(by omega)) := by simp
  unfold indexC byteS
  cases E.ty t with
  | none => rfl
  | some ti =>
    obtain ⟨kk, a1, a2, a3, a4⟩ := ti
    cases kk <;> simp only [h.1, if_true, hc]
@[go_sem] theorem ix_agg (t cs k i) : indexC E t (.agg cs) (.v (.int k i)) = (match E.ty t with
    | some ti => match ti.k with
      | .array m e => match E.ty e with
        | some j => if 0 ≤ i ∧ i < m then loadC E e (cs.drop (i.toNat * j.sz)) else none
        | none => none
      | _ => none
    | none => none) := by
  unfold indexC
  cases E.ty t with
  | none => rfl
  | some ti =>
    obtain ⟨kk, a1, a2, a3, a4⟩ := ti
    cases kk <;> rfl
def lenK (E : Env) (t : TypeId) (n : Nat) (s : Bool) : Option CV := match E.ty t with
  | some i => match i.k, s with
    | .str, true => some (.v (.int .i64 n))
    | .slice _, false => some (.v (.int .i64 n))
    | .array m _, _ => some (.v (.int .i64 m))
    | _, _ => none
  | none => none
@[go_sem] theorem lenK_eq (t n s) : lenK E t n s = (match E.ty t with
  | some i => match i.k, s with
    | .str, true => some (.v (.int .i64 n))
    | .slice _, false => some (.v (.int .i64 n))
    | .array m _, _ => some (.v (.int .i64 m))
    | _, _ => none
  | none => none) := rfl
theorem lenK_str (t b) : lenC E t (.v (.string b)) = lenK E t b.size true := by
  simp only [lenC, CV.lo]; unfold lenC0 lenK; cases E.ty t with
  | none => rfl
  | some ti => obtain ⟨kk, a1, a2, a3, a4⟩ := ti; cases kk <;> rfl
theorem lenK_nil (t) : lenC E t (.v (.slice none 0 0)) = lenK E t 0 false := by
  simp only [lenC, CV.lo]; unfold lenC0 lenK; cases E.ty t with
  | none => rfl
  | some ti => obtain ⟨kk, a1, a2, a3, a4⟩ := ti; cases kk <;> rfl
theorem lenK_ro (t cs n) : lenC E t (.ro cs n) = lenK E t n false := by
  simp only [lenC, CV.lo]; unfold lenC0 lenK; cases E.ty t with
  | none => rfl
  | some ti => obtain ⟨kk, a1, a2, a3, a4⟩ := ti; cases kk <;> rfl
theorem lenK_own (t a b n c) : lenC E t (.own a b n c) = lenK E t n false := by
  simp only [lenC, CV.lo]; unfold lenC0 lenK; cases E.ty t with
  | none => rfl
  | some ti => obtain ⟨kk, a1, a2, a3, a4⟩ := ti; cases kk <;> rfl
theorem lenK_cut (t a b n c) : lenC E t (.cut a b n c) = lenK E t n false := by
  simp only [lenC, CV.lo]; unfold lenC0 lenK; cases E.ty t with
  | none => rfl
  | some ti => obtain ⟨kk, a1, a2, a3, a4⟩ := ti; cases kk <;> rfl
@[go_sem] theorem len_str (t l b H) : builtinC E .len (List.toArray (t :: l)) [.v (.string b)] H = (lenK E t b.size true).map (fun r => (r, H)) := by rw [← lenK_str]; rfl
@[go_sem] theorem len_nil (t l H) : builtinC E .len (List.toArray (t :: l)) [.v (.slice none 0 0)] H = (lenK E t 0 false).map (fun r => (r, H)) := by rw [← lenK_nil]; rfl
@[go_sem] theorem len_ro (t l cs n H) : builtinC E .len (List.toArray (t :: l)) [.ro cs n] H = (lenK E t n false).map (fun r => (r, H)) := by rw [← lenK_ro (cs := cs)]; rfl
@[go_sem] theorem len_own (t l a b n c H) : builtinC E .len (List.toArray (t :: l)) [.own a b n c] H = (lenK E t n false).map (fun r => (r, H)) := by rw [← lenK_own (a := a) (b := b) (c := c)]; rfl
@[go_sem] theorem len_cut (t l a b n c H) : builtinC E .len (List.toArray (t :: l)) [.cut a b n c] H = (lenK E t n false).map (fun r => (r, H)) := by rw [← lenK_cut (a := a) (b := b) (c := c)]; rfl
@[go_sem] theorem len_mp (t l id H) : builtinC E .len (List.toArray (t :: l)) [.mp id] H = (match getM H id, mapT E t with
        | some r, some _ => some (.v (.int .i64 (r.cells.length / 2 : Nat)), H)
        | _, _ => none) := rfl
@[go_sem] theorem bu_append (ts x y H) : builtinC E .append ts [x, y] H = appendC E ts x y H := rfl
@[go_sem] theorem bu_copy (ts x y H) : builtinC E .copy ts [x, y] H = copyC E ts x y H := rfl
@[go_sem] theorem bu_min (ts x y H) : builtinC E .min ts [x, y] H = (minmaxC false [x, y]).map (fun r => (r, H)) := rfl
@[go_sem] theorem bu_max (ts x y H) : builtinC E .max ts [x, y] H = (minmaxC true [x, y]).map (fun r => (r, H)) := rfl
@[go_sem] theorem mm_min (k a b) : minmaxC false [.v (.int k a), .v (.int k b)] = some (.v (.int k (min a b))) := by
  simp only [minmaxC, if_true]; congr 3; simp only [Int.min_def]; split <;> split <;> simp_all <;> omega
@[go_sem] theorem mm_max (k a b) : minmaxC true [.v (.int k a), .v (.int k b)] = some (.v (.int k (max a b))) := by
  simp only [minmaxC, if_true]; congr 3; simp only [Int.max_def]; split <;> split <;> simp_all <;> omega
@[go_sem] theorem arr_get (l : List TypeId) (i : Nat) : (List.toArray l)[i]? = l[i]? := by simp
@[go_sem] theorem rep_zero (z) : repCells z 0 = [] := rfl
@[go_sem] theorem rep_succ (z n) : repCells z (n + 1) = z ++ repCells z n := rfl
def sl (b : Bool) (cs : List CV) (n : Nat) : CV := if b && n == 0 then .v (.slice none 0 0) else .ro cs n
theorem sl_cases (b : Bool) (cs : List CV) (n : Nat) : (sl b cs n = .v (.slice none 0 0) ∧ b = true ∧ n = 0) ∨ sl b cs n = .ro cs n := by
  unfold sl
  cases b
  · exact .inr rfl
  · by_cases h : n = 0
    · subst h; exact .inl ⟨rfl, rfl, rfl⟩
    · refine .inr ?_
      rw [if_neg]; simp [h]
@[go_sem] theorem len_sl (t l b cs n H) : builtinC E .len (List.toArray (t :: l)) [sl b cs n] H = (lenK E t n false).map (fun r => (r, H)) := by
  rcases sl_cases b cs n with ⟨h, _, rfl⟩ | h <;> rw [h]
  · exact len_nil t l H
  · exact len_ro t l cs n H
@[go_sem] theorem leaf_sl (b cs n) : CV.leaf (sl b cs n) = true := by
  rcases sl_cases b cs n with ⟨h, _, rfl⟩ | h <;> rw [h] <;> rfl
@[go_sem] theorem cells_sl (b cs n) : CV.cells (sl b cs n) = [sl b cs n] := by
  rcases sl_cases b cs n with ⟨h, _, rfl⟩ | h <;> rw [h] <;> rfl
@[go_sem] theorem sn_sl (k : Nat) (b cs n) : snap H (k + 1) (sl b cs n) = some (sl b cs n) := by
  rcases sl_cases b cs n with ⟨h, _, rfl⟩ | h <;> rw [h] <;> rfl
theorem rel_sl (b cs n) : rel1 H (sl b cs n) = some (sl b cs n) := by
  rcases sl_cases b cs n with ⟨h, _, rfl⟩ | h <;> rw [h] <;> rfl
@[go_sem] theorem ia_sl (t b cs m k i) : indexAddrC E t (sl b cs m) (.v (.int k i)) = (match E.ty t with
    | some ti => match ti.k with
      | .slice e => match sizeT E e with
        | some sz => guardO (0 ≤ i ∧ i < m ∧ i.toNat * sz < cs.length) (.rp (cs.drop (i.toNat * sz)))
        | none => none
      | _ => none
    | none => none) := by
  rcases sl_cases b cs m with ⟨h, _, rfl⟩ | h <;> rw [h]
  · simp only [indexAddrC, CV.lo]
    unfold indexAddrC0 guardO
    cases E.ty t with
    | none => rfl
    | some ti =>
      obtain ⟨kk, a1, a2, a3, a4⟩ := ti
      cases kk <;> first | rfl | (simp only [addrAdd]; split <;> simp <;> omega)
  · exact ia_ro t cs m k i
@[go_sem] theorem el_nil (sz) : elemsC sz H (.v (.slice none 0 0)) = some (0, []) := rfl
@[go_sem] theorem el_ro (sz cs n) (h : n * sz = cs.length) : elemsC sz H (.ro cs n) = some (n, cs) := by simp only [elemsC, elemsC0, CV.lo, h, if_true]
@[go_sem] theorem el_own (sz id off n sz') : elemsC sz H (.own id off n sz') = if sz' = sz then match getR H id with
      | some r => if off + n * sz ≤ r.cells.length then some (n, (r.cells.drop off).take (n * sz)) else none
      | none => none
    else none := rfl
@[go_sem] theorem el_sl (sz b cs n) (h : n * sz = cs.length) : elemsC sz H (sl b cs n) = some (n, cs) := by
  rcases sl_cases b cs n with ⟨h1, _, rfl⟩ | h1 <;> rw [h1]
  · have : cs = [] := List.length_eq_zero_iff.1 (by omega)
    subst this; rfl
  · exact el_ro sz cs n h
def nilS (b : Bool) (n : Nat) : Bool := b && n == 0
@[go_sem] theorem bO_int (op t x y c k i) : binO E op t x y (.v (.int k i)) c = binC E op t (.v (.int k i)) c := rfl
@[go_sem] theorem bO_str (op t x y c b) : binO E op t x y (.v (.string b)) c = binC E op t (.v (.string b)) c := rfl
@[go_sem] theorem bO_bool (op t x y c b) : binO E op t x y (.v (.bool b)) c = binC E op t (.v (.bool b)) c := rfl
@[go_sem] theorem bO_slice (op t x y c l m n) : binO E op t x y (.v (.slice l m n)) c = binC E op t (.v (.slice l m n)) c := rfl
@[go_sem] theorem bO_ptr (op t x y c q) : binO E op t x y (.v (.pointer q)) c = binC E op t (.v (.pointer q)) c := rfl
@[go_sem] theorem bO_nf (op t x y c) : binO E op t x y (.v .nilFunc) c = binC E op t (.v .nilFunc) c := rfl
@[go_sem] theorem bO_map (op t x y c m) : binO E op t x y (.v (.map m)) c = binC E op t (.v (.map m)) c := rfl
@[go_sem] theorem bO_agg (op t x y c cs) : binO E op t x y (.agg cs) c = binC E op t (.agg cs) c := rfl
@[go_sem] theorem bO_ro (op t x y c cs n) : binO E op t x y (.ro cs n) c = binC E op t (.ro cs n) c := rfl
@[go_sem] theorem bO_rp (op t x y c cs) : binO E op t x y (.rp cs) c = binC E op t (.rp cs) c := rfl
@[go_sem] theorem bO_own (op t x y c i j k l) : binO E op t x y (.own i j k l) c = binC E op t (.own i j k l) c := rfl
@[go_sem] theorem bO_op (op t x y c i j) : binO E op t x y (.op i j) c = binC E op t (.op i j) c := rfl
@[go_sem] theorem bO_cut (op t x y c i j k l) : binO E op t x y (.cut i j k l) c = binC E op t (.cut i j k l) c := rfl
@[go_sem] theorem bO_fn (op t x y c f cs) : binO E op t x y (.fn f cs) c = binC E op t (.fn f cs) c := rfl
@[go_sem] theorem bO_mp (op t x y c i) : binO E op t x y (.mp i) c = binC E op t (.mp i) c := rfl
@[go_sem] theorem bO_ifc (op t x y c q r) : binO E op t x y (.ifc q r) c = binC E op t (.ifc q r) c := rfl
@[go_sem] theorem bO_sl (op t x y c b cs n) : binO E op t x y (sl b cs n) c = binC E op t (sl b cs n) c := by rcases sl_cases b cs n with ⟨h, _, _⟩ | h <;> rw [h] <;> rfl
@[go_sem] theorem bO_nl (op t y c v) : binO E op t (.const v) y (.v .nilIface) c = binC E op t (.v .nilIface) c := by unfold binO; cases isNI c <;> rfl
@[go_sem] theorem bO_nr (op t x c v) : binO E op t x (.const v) (.v .nilIface) c = binC E op t (.v .nilIface) c := by unfold binO; cases isNI c <;> cases x <;> rfl
theorem nil_sl (op t b cs n) : binC E op t (sl b cs n) (.v (.slice none 0 0)) = (match kT E t with
  | some (.slice _) => (match op with
    | .eql => some (.v (.bool (nilS b n)))
    | .neq => some (.v (.bool (!nilS b n)))
    | _ => none)
  | _ => none) := by
  unfold binC
  simp only [isNilV, if_true, nilCmp]
  cases h : kT E t with
  | none => rfl
  | some k =>
    rcases sl_cases b cs n with ⟨h1, rfl, rfl⟩ | h1
    · rw [h1]; cases k <;> cases op <;> simp [nilC, nilS]
    · have h2 : nilS b n = false := by
        unfold sl at h1; unfold nilS
        split at h1
        · cases h1
        · exact Bool.eq_false_iff.2 ‹¬ _›
      rw [h1, h2]; cases k <;> cases op <;> simp [nilC]
attribute [go_sem] nil_sl
@[go_sem] theorem bin_int (op t k a k' b) : binC E op t (.v (.int k a)) (.v (.int k' b)) = scal (binOp op t (.int k a) (.int k' b)) := rfl
@[go_sem] theorem bin_str (op t a b) : binC E op t (.v (.string a)) (.v (.string b)) = scal (binOp op t (.string a) (.string b)) := rfl
@[go_sem] theorem bin_bool (op t a b) : binC E op t (.v (.bool a)) (.v (.bool b)) = (match op, kT E t with
    | .eql, some .bool => some (.v (.bool (a == b)))
    | .neq, some .bool => some (.v (.bool (!(a == b))))
    | _, _ => none) := rfl
@[go_sem] theorem b_add (t k a b) : scal (binOp .add t (.int k a) (.int k b)) = some (.v (.int k (k.wrap (a + b)))) := by simp [binOp, Op.intArith]; rfl
@[go_sem] theorem b_sub (t k a b) : scal (binOp .sub t (.int k a) (.int k b)) = some (.v (.int k (k.wrap (a - b)))) := by simp [binOp, Op.intArith]; rfl
@[go_sem] theorem b_mul (t k a b) : scal (binOp .mul t (.int k a) (.int k b)) = some (.v (.int k (k.wrap (a * b)))) := by simp [binOp, Op.intArith]; rfl
@[go_sem] theorem b_quo (t k a b) (h : ¬ b = 0) : scal (binOp .quo t (.int k a) (.int k b)) = some (.v (.int k (k.wrap (a.tdiv b)))) := by simp [binOp, Op.intDiv, h]; rfl
@[go_sem] theorem b_rem (t k a b) (h : ¬ b = 0) : scal (binOp .rem t (.int k a) (.int k b)) = some (.v (.int k (a.tmod b))) := by simp [binOp, Op.intDiv, h]; rfl
@[go_sem] theorem b_eql (t k a b) : scal (binOp .eql t (.int k a) (.int k b)) = some (.v (.bool (decide (a = b)))) := by simp [binOp, Op.intCmp]; rfl
@[go_sem] theorem b_neq (t k a b) : scal (binOp .neq t (.int k a) (.int k b)) = some (.v (.bool (decide (¬ a = b)))) := by
  have : (a != b) = decide (¬ a = b) := by by_cases h : a = b <;> simp [h]
  simp only [binOp, Op.intCmp, this, ne_eq, not_true_eq_false, if_false]; rfl
@[go_sem] theorem b_lss (t k a b) : scal (binOp .lss t (.int k a) (.int k b)) = some (.v (.bool (decide (a < b)))) := by simp [binOp, Op.intCmp]; rfl
@[go_sem] theorem b_leq (t k a b) : scal (binOp .leq t (.int k a) (.int k b)) = some (.v (.bool (decide (a ≤ b)))) := by simp [binOp, Op.intCmp]; rfl
@[go_sem] theorem b_gtr (t k a b) : scal (binOp .gtr t (.int k a) (.int k b)) = some (.v (.bool (decide (b < a)))) := by simp [binOp, Op.intCmp]; rfl
@[go_sem] theorem b_geq (t k a b) : scal (binOp .geq t (.int k a) (.int k b)) = some (.v (.bool (decide (b ≤ a)))) := by simp [binOp, Op.intCmp]; rfl
def strLt (a b : ByteArray) : Bool := Op.bytesLess a.toList b.toList
def strEq (a b : ByteArray) : Bool := a.toList == b.toList
@[go_sem] theorem s_eql (t a b) : scal (binOp .eql t (.string a) (.string b)) = some (.v (.bool (strEq a b))) := rfl
@[go_sem] theorem s_neq (t a b) : scal (binOp .neq t (.string a) (.string b)) = some (.v (.bool (!strEq a b))) := rfl
@[go_sem] theorem s_lss (t a b) : scal (binOp .lss t (.string a) (.string b)) = some (.v (.bool (strLt a b))) := rfl
@[go_sem] theorem s_leq (t a b) : scal (binOp .leq t (.string a) (.string b)) = some (.v (.bool (strLt a b || strEq a b))) := rfl
@[go_sem] theorem s_gtr (t a b) : scal (binOp .gtr t (.string a) (.string b)) = some (.v (.bool (!(strLt a b || strEq a b)))) := rfl
@[go_sem] theorem s_geq (t a b) : scal (binOp .geq t (.string a) (.string b)) = some (.v (.bool (!strLt a b))) := rfl
@[go_sem] theorem u_not (b) : scal (Op.unary .not (.bool b)) = some (.v (.bool (!b))) := rfl
theorem wr64 {n : Int} (h : -9223372036854775808 ≤ n ∧ n ≤ 9223372036854775807) : IntKind.wrap .i64 n = n := by
  rw [IntKind.wrap_i64]; omega
@[go_sem] theorem ibeq_t (a b : Int) (h : a = b) : (a == b) = true := by simp [h]
@[go_sem] theorem ibeq_f (a b : Int) (h : ¬ a = b) : (a == b) = false := by simp [h]
@[go_sem] theorem ibne_t (a b : Int) (h : ¬ a = b) : (a != b) = true := by simp [h]
@[go_sem] theorem ibne_f (a b : Int) (h : a = b) : (a != b) = false := by simp [h]
@[go_sem] theorem dec_t (p : Prop) [Decidable p] (h : p) : decide p = true := decide_eq_true h
@[go_sem] theorem dec_f (p : Prop) [Decidable p] (h : ¬ p) : decide p = false := decide_eq_false h
@[go_sem] theorem not_dec (p : Prop) [Decidable p] : (!decide p) = decide (¬ p) := by simp

@[go_sem] theorem scal_pure (x : Value) : scal (pure x) = some (.v x) := rfl
@[go_sem] theorem scal_pure' (x : Value) : scal (.pure x) = some (.v x) := rfl
attribute [go_sem] true_and and_true and_self not_true_eq_false not_false_eq_true
@[go_sem] theorem QR_ret (rs : Array ResultVar) (P : CV → Hp → Prop) : QR E n rs P .ret σ H = (match omap (resultC E ⟨mk n σ, H⟩) rs.toList with
    | some [c] => P c H
    | some vs => P (.tup vs) H
    | none => False) := rfl
@[go_sem] theorem QR_normal (rs : Array ResultVar) (P : CV → Hp → Prop) : QR E n rs P .normal σ H = (match omap (resultC E ⟨mk n σ, H⟩) rs.toList with
    | some [c] => P c H
    | some vs => P (.tup vs) H
    | none => False) := rfl
@[go_sem ↓] theorem resultC_tmp (t : Nat) (H0 : Hp) : resultC E ⟨mk n σ, H0⟩ (.tmp t) = if t < n then some (σ t) else some (.v undef) := by
  simp only [resultC]
  by_cases h : t < n
  · simp only [mk_get σ h, if_pos h]; rfl
  · simp only [mk_get_none σ h, if_neg h]; rfl
@[go_sem ↓] theorem resultC_cell (t : Nat) (e : TypeId) (H0 : Hp) : resultC E ⟨mk n σ, H0⟩ (.cell t e) = if t < n then loadAt E e (σ t) H0 else none := by
  simp only [resultC]
  by_cases h : t < n
  · simp only [mk_get σ h, if_pos h]
  · simp only [mk_get_none σ h, if_neg h]
theorem den_ex {d : Nat} {fn : Func} {cd : Code} {args : List CV} {H : Hp} {c0 : CV} (hc : E.code f = some fn) (hb : fn.body = some cd) (hn : fn.ntmps = n) (hl : args.length ≤ n) (rs : Array ResultVar) (hrs : fn.results = rs)
    (h : W E (callV E (den E d)) f n cd (ini args) H (QR E n rs fun c H' => c = c0)) (hq : E.rgf f = false := by rfl) : ∃ H0, den E (d + 1) f args H = some (c0, H0) := by
  obtain ⟨c, H', h1, rfl⟩ := den_of_W hc hb hn hl rs hrs h hq
  exact ⟨H', h1⟩

theorem WK.mono {r : Option (CV × Hp)} {K K' : CV → Hp → Prop} (h : WK dr r H K) (hK : ∀ c H, K c H → K' c H) : WK dr r H K' := by
  unfold WK at *
  split at h
  · exact ⟨h.1, hK _ _ h.2⟩
  · cases h
theorem WG.mono {o : Oper} {K K' : (Nat → CV) → Hp → Prop} {g} (h : WG E call n ops dr o σ H K g) (hK : ∀ c H, K c H → K' c H) : WG E call n ops dr o σ H K' g := by
  cases g with
  | none => exact WK.mono h fun c H h => hK _ _ h
  | some g =>
    obtain ⟨g, want⟩ := g
    rw [WG_some'] at *
    split at h
    · split at h
      · rename_i t _ hn
        rw [if_pos hn]
        unfold WX at *
        split at h
        · simp only [WB] at *
          split at h
          · rename_i hw; exact WK.mono h fun c H h => hK _ _ h
          · rename_i hw; exact hK _ _ h
        · exact hK _ _ h
        · cases h
      · cases h
    · cases h
theorem WL.mono : ∀ {l : List Oper} {σ : Nat → CV} {H : Hp} {K K' : (Nat → CV) → Hp → Prop}, WL E call n ops dr l σ H K → (∀ c H, K c H → K' c H) → WL E call n ops dr l σ H K'
  | [], _, _, _, _, h, hK => hK _ _ h
  | o :: l, _, _, _, _, h, hK => WG.mono (g := o.guard) h fun c H h => WL.mono h hK
theorem WLw.mono : ∀ {l : List Oper} {L : List (Option Cl)} {σ : Nat → CV} {H : Hp} {K K' : (Nat → CV) → Hp → Prop}, WLw E call n ops L l σ H K → (∀ c H, K c H → K' c H) → WLw E call n ops L l σ H K'
  | [], L, _, _, _, _, h, hK => by simp only [WLw] at *; exact hK _ _ h
  | o :: l, [], _, _, _, _, h, hK => WG.mono (g := o.guard) h fun c H h => WLw.mono h hK
  | o :: l, none :: L, _, _, _, _, h, hK => WG.mono (g := o.guard) h fun c H h => WLw.mono h hK
  | o :: l, some c :: L, _, _, _, _, h, hK => ⟨h.1, WG.mono (g := o.guard) h.2 fun c H h => WLw.mono h hK⟩
theorem W.mono : ∀ {c : Code} {σ : Nat → CV} {H : Hp} {Q Q' : Ex → (Nat → CV) → Hp → Prop}, W E call f n c σ H Q → (∀ ex σ H, Q ex σ H → Q' ex σ H) → W E call f n c σ H Q' := by
  intro c
  induction c with
  | skip => intro σ H Q Q' h hQ; exact hQ _ _ _ h
  | label l => intro σ H Q Q' h hQ; exact hQ _ _ _ h
  | exit id => intro σ H Q Q' h hQ; exact hQ _ _ _ h
  | ret => intro σ H Q Q' h hQ; exact hQ _ _ _ h
  | region id ops draw =>
    intro σ H Q Q' h hQ
    cases draw with
    | false => exact WL.mono h (hQ _)
    | true =>
      rcases h with ⟨h0, h⟩ | ⟨L, g1, g2, h⟩ | ⟨L, g1, g2, h⟩
      · exact .inl ⟨h0, WL.mono h (hQ _)⟩
      · exact .inr (.inl ⟨L, g1, g2, WL.mono h fun σ H h => ⟨h.1, hQ _ _ _ h.2⟩⟩)
      · exact .inr (.inr ⟨L, g1, g2, WLw.mono h (hQ _)⟩)
  | seq a b iha ihb =>
    intro σ H Q Q' h hQ
    refine iha h fun ex σ H h => ?_
    cases ex with
    | normal => exact ihb h hQ
    | exit i => exact hQ _ _ _ h
    | ret => exact hQ _ _ _ h
  | cond c a b iha ihb =>
    intro σ H Q Q' h hQ
    rw [W_cond] at *
    unfold WC at *
    split at h
    · rename_i b hb
      simp only [WB] at *
      cases b
      · exact ihb h hQ
      · exact iha h hQ
    · cases h
  | block id b ih =>
    intro σ H Q Q' h hQ
    refine ih h fun ex σ H h => ?_
    cases ex with
    | normal => exact hQ _ _ _ h
    | ret => exact hQ _ _ _ h
    | exit i =>
      simp only [WE] at *
      split at h
      · rename_i hi; rw [if_pos hi]; exact hQ _ _ _ h
      · rename_i hi; rw [if_neg hi]; exact hQ _ _ _ h
  | loop b ih =>
    intro σ H Q Q' h hQ
    obtain ⟨Inv, r, hr, h0, hI⟩ := h
    refine ⟨Inv, r, hr, h0, fun k σ H hi => ih (hI k σ H hi) fun ex σ H h => ?_⟩
    cases ex with
    | normal => exact h
    | exit i => exact hQ _ _ _ h
    | ret => exact hQ _ _ _ h
  | rangeFunc g ps as b =>
    intro σ H Q Q' h hQ
    simp only [W] at h ⊢
    refine ⟨h.1, ?_⟩
    have h := h.2
    unfold WFn at *
    split at h
    · refine WK.mono h fun c H1 h => ?_
      unfold WQr at *
      split at h
      · split at h
        · exact hQ _ _ _ h
        · exact hQ _ _ _ h
        · cases h
      · cases h
    · cases h
  | _ => intro σ H Q Q' h; exact absurd h (by simp [W])
theorem W_loop {b : Code} {α : Type} (I : α → Nat → CV) (J : α → Hp) (m : α → Nat) (ok : α → Prop) (a0 : α) (hr : m a0 < rounds) (h0 : nmS E f b σ = I a0) (h1 : H = J a0) (h2 : ok a0)
    (hI : ∀ a, ok a → W E call f n b (I a) (J a) fun ex σ' H' => WN ex (∃ a', m a' < m a ∧ nmS E f b σ' = I a' ∧ H' = J a' ∧ ok a') (Q ex σ' H')) : W E call f n (.loop b) σ H Q := by
  refine ⟨fun k σ H => ∃ a, m a = k ∧ σ = I a ∧ H = J a ∧ ok a, m a0, hr, ⟨a0, rfl, h0, h1, h2⟩, ?_⟩
  rintro k σ H ⟨a, rfl, rfl, rfl, ha⟩
  exact W.mono (hI a ha) fun ex σ' H' => by
    cases ex with
    | normal => rintro ⟨a', h1, h2, h3, h4⟩; exact ⟨m a', h1, a', rfl, h2, h3, h4⟩
    | exit i => exact id
    | ret => exact id
@[go_sem] theorem nmS_eq (b : Code) : nmS E f b σ = match E.keep f (firstRid b) with
  | some ks => kp ks σ
  | none => σ := rfl
@[go_sem] theorem fr_region (i ops dr) : firstRid (.region i ops dr) = i := rfl
@[go_sem] theorem fr_seq (a b) : firstRid (.seq a b) = firstRid a := rfl
@[go_sem] theorem fr_cond (c a b) : firstRid (.cond c a b) = firstRid a := rfl
@[go_sem] theorem fr_block (i b) : firstRid (.block i b) = firstRid b := rfl
@[go_sem] theorem fr_loop (b) : firstRid (.loop b) = firstRid b := rfl
end
section
variable {E : Env} {d : Nat} {g : FuncId} {H H1 : Hp} {r r' : CV} {args args' : List CV}
theorem callV_data (hp : E.prim g = none) (hi : E.inl g = false) (hf : E.frz g = false) (hs : omap (snap H depth) args = some args') (hd : den E d g args' [] = some (r, H1)) (hr : release H1 r = some r') (hv : freshRes r' = true) (hq : E.frr g = false := by rfl) (ho : E.onc g = false := by rfl) : callV E (den E d) g args H = some (install H r') := by
  simp only [callV, hp, ho, hi, callB, hs, hd, hr, hf, hv, hq]; rfl
def isV : CV → Bool
  | .v _ => true
  | _ => false
def plainR : CV → Bool
  | .v _ => true
  | .agg cs => cs.all isV
  | .tup vs => vs.all fun c => match c with
    | .v _ => true
    | .agg cs => cs.all isV
    | _ => false
  | _ => false
theorem rel1_v : ∀ {cs : List CV}, cs.all isV = true → omap (rel1 H) cs = some cs
  | [], _ => rfl
  | c :: cs, h => by
    simp only [List.all_cons, Bool.and_eq_true] at h
    cases c <;> simp only [isV, Bool.false_eq_true, false_and] at h
    simp only [omap, rel1, rel1_v h.2]
theorem tops_v : ∀ {cs : List CV}, cs.all isV = true → tops cs = []
  | [], _ => rfl
  | c :: cs, h => by
    simp only [List.all_cons, Bool.and_eq_true] at h
    cases c <;> simp only [isV, Bool.false_eq_true, false_and] at h
    simp only [tops, tops_v h.2]
theorem fresh_v : ∀ {cs : List CV}, cs.all isV = true → cs.all freshLeaf = true
  | [], _ => rfl
  | c :: cs, h => by
    simp only [List.all_cons, Bool.and_eq_true] at h
    cases c <;> simp only [isV, Bool.false_eq_true, false_and] at h
    simp only [List.all_cons, freshLeaf, fresh_v h.2, Bool.and_self]
theorem instL_v : ∀ {cs : List CV}, cs.all isV = true → instL H cs = (cs, H)
  | [], _ => rfl
  | c :: cs, h => by
    simp only [List.all_cons, Bool.and_eq_true] at h
    cases c <;> simp only [isV, Bool.false_eq_true, false_and] at h
    simp only [instL, inst1, instL_v h.2]
def plain2 (c : CV) : Bool := match c with
    | .v _ => true
    | .agg cs => cs.all isV
    | _ => false
theorem relV_p : ∀ {vs : List CV}, vs.all plain2 = true → omap (relV H) vs = some vs
  | [], _ => rfl
  | c :: cs, h => by
    simp only [List.all_cons, Bool.and_eq_true] at h
    cases c <;> simp only [plain2, Bool.false_eq_true, false_and] at h
    · simp only [omap, relV, rel1, relV_p h.2]
    · simp only [omap, relV, rel1_v h.1, relV_p h.2]; rfl
theorem flat_p : ∀ {vs : List CV}, vs.all plain2 = true → (vs.flatMap CV.cells).all isV = true
  | [], _ => rfl
  | c :: cs, h => by
    simp only [List.all_cons, Bool.and_eq_true] at h
    cases c <;> simp only [plain2, Bool.false_eq_true, false_and] at h
    · simp only [List.flatMap_cons, CV.cells, List.all_append, List.all_cons, isV, List.all_nil, flat_p h.2, Bool.and_self]
    · simp only [List.flatMap_cons, CV.cells, List.all_append, h.1, flat_p h.2, Bool.and_self]
theorem instL2_p : ∀ {vs : List CV}, vs.all plain2 = true → instL2 H vs = (vs, H)
  | [], _ => rfl
  | c :: cs, h => by
    simp only [List.all_cons, Bool.and_eq_true] at h
    cases c <;> simp only [plain2, Bool.false_eq_true, false_and] at h
    · simp only [instL2, inst2, inst1, instL2_p h.2]
    · simp only [instL2, inst2, instL_v h.1, instL2_p h.2]
theorem plainR_flat {r : CV} (h : plainR r = true) : (flatR r).all isV = true := by
  cases r <;> simp only [plainR, Bool.false_eq_true] at h
  · rfl
  · exact h
  · exact flat_p h
theorem callV_plain (hp : E.prim g = none) (hi : E.inl g = false) (hf : E.frz g = false) (hs : omap (snap H depth) args = some args') (hd : ∃ H1, den E d g args' [] = some (r, H1)) (hr : plainR r = true) (hq : E.frr g = false := by rfl) (ho : E.onc g = false := by rfl) : callV E (den E d) g args H = some (r, H) := by
  obtain ⟨H1, hd⟩ := hd
  have hfl := plainR_flat hr
  have h1 : release H1 r = some r := by
    simp only [release, tops_v hfl, nodupB, List.all_nil, and_self, if_true]
    cases r <;> simp only [plainR, Bool.false_eq_true] at hr
    · rfl
    · simp only [rel, relV, rel1_v hr]; rfl
    · simp only [rel, relV_p hr]; rfl
  have h2 : install H r = (r, H) := by
    cases r <;> simp only [plainR, Bool.false_eq_true] at hr
    · rfl
    · simp only [install, inst2, instL_v hr]
    · simp only [install, instL2_p hr]
  rw [callV_data hp hi hf hs hd h1 (fresh_v hfl) hq ho, h2]
@[go_sem] theorem sn_v (k : Nat) (x : Value) : snap H (k + 1) (.v x) = some (.v x) := rfl
@[go_sem] theorem sn_ro (k : Nat) (cs n) : snap H (k + 1) (.ro cs n) = some (.ro cs n) := rfl
@[go_sem] theorem sn_agg (k : Nat) (cs) : snap H (k + 1) (.agg cs) = (omap (snap H k) cs).map .agg := rfl
end
end Go.Den
end
section
set_option linter.all false
set_option linter.unusedVariables false
namespace Go.Age
open Go.Den
def firstN : List Nat := [0x6a09e667, 0xbb67ae85, 0x3c6ef372, 0xa54ff53a, 0x510e527f, 0x9b05688c, 0x1f83d9ab, 0x5be0cd19]
def orderN : List Nat := [
  0, 1, 2, 3, 4, 5, 6, 7, 8, 9, 10, 11, 12, 13, 14, 15,
  14, 10, 4, 8, 9, 15, 13, 6, 1, 12, 0, 2, 11, 7, 5, 3,
  11, 8, 12, 0, 5, 2, 15, 13, 10, 14, 3, 6, 7, 1, 9, 4,
  7, 9, 3, 1, 13, 12, 11, 14, 2, 6, 5, 10, 4, 0, 15, 8,
  9, 0, 5, 7, 2, 4, 10, 15, 14, 1, 11, 12, 6, 8, 3, 13,
  2, 12, 6, 10, 0, 11, 8, 3, 4, 13, 7, 5, 15, 14, 1, 9,
  12, 5, 1, 15, 14, 13, 4, 10, 0, 7, 6, 3, 9, 2, 8, 11,
  13, 11, 7, 14, 12, 1, 3, 9, 5, 0, 15, 4, 8, 6, 2, 10,
  6, 15, 14, 9, 11, 3, 0, 8, 12, 2, 13, 7, 1, 4, 10, 5,
  10, 2, 8, 4, 7, 6, 1, 5, 15, 11, 9, 14, 3, 12, 13, 0]
def quarterN : List Nat := [0, 4, 8, 12, 1, 5, 9, 13, 2, 6, 10, 14, 3, 7, 11, 15, 0, 5, 10, 15, 1, 6, 11, 12, 2, 7, 8, 13, 3, 4, 9, 14]
def getN (l : List Nat) (i : Nat) : Nat := l.getD i 0
def addN (x y : Nat) : Nat := (x + y) % 4294967296
def xorN (x y : Nat) : Nat := (x ^^^ y) % 4294967296
def orN (x y : Nat) : Nat := (x ||| y) % 4294967296
def shlN (x n : Nat) : Nat := x * 2 ^ n % 4294967296
def rotN (x n : Nat) : Nat := orN (shlN x (32 - n)) (x / 2 ^ n)
def mixA (v : List Nat) (a b x : Nat) : List Nat := v.set a (addN (getN v a) (addN (getN v b) x))
def mixD (v : List Nat) (d a n : Nat) : List Nat := v.set d (rotN (xorN (getN v d) (getN v a)) n)
def mixC (v : List Nat) (c d : Nat) : List Nat := v.set c (addN (getN v c) (getN v d))
def mixN (v : List Nat) (a b c d x y : Nat) : List Nat :=
  mixD (mixC (mixD (mixA (mixD (mixC (mixD (mixA v a b x) d a 16) c d) b c 12) a b y) d a 8) c d) b c 7
def wordN (data : List UInt8) (m : List Nat) (i : Nat) : List Nat := m.set (i / 4) (orN (getN m (i / 4)) (shlN (data.getD i 0).toNat (8 * (i % 4))))
def wordsN (data : List UInt8) (n : Nat) : List Nat := (List.range n).foldl (wordN data) (List.replicate 16 0)
def quartN (m : List Nat) (r : Nat) (v : List Nat) (k : Nat) : List Nat :=
  mixN v (getN quarterN (4 * k)) (getN quarterN (4 * k + 1)) (getN quarterN (4 * k + 2)) (getN quarterN (4 * k + 3)) (getN m (getN orderN (16 * r + 2 * k))) (getN m (getN orderN (16 * r + (2 * k + 1))))
def roundN (m : List Nat) (v : List Nat) (r : Nat) : List Nat := (List.range 8).foldl (quartN m r) v
def startN (h : List Nat) (en : Nat) (last : Bool) : List Nat :=
  let v := h ++ firstN
  let v := v.set 12 (xorN (getN v 12) (en % 4294967296))
  let v := v.set 13 (xorN (getN v 13) (en / 4294967296 % 4294967296))
  if last then v.set 14 (xorN (getN v 14) 4294967295) else v
def endN (v h : List Nat) (i : Nat) : List Nat := h.set i (xorN (getN h i) (xorN (getN v i) (getN v (i + 8))))
def blockN (h : List Nat) (data : List UInt8) (en : Nat) (last : Bool) : List Nat :=
  (List.range 8).foldl (endN ((List.range 10).foldl (roundN (wordsN data data.length)) (startN h en last))) h
def blocksN : Nat → List Nat → List UInt8 → Nat → List Nat
  | 0, h, data, done => blockN h data (done + data.length) true
  | n + 1, h, data, done => if data.length ≤ 64 then blockN h data (done + data.length) true else blocksN n (blockN h (data.take 64) (done + 64) false) (data.drop 64) (done + 64)
def bytesN (w : Nat) : List UInt8 := [UInt8.ofNat w, UInt8.ofNat (w / 256), UInt8.ofNat (w / 65536), UInt8.ofNat (w / 16777216)]
def h0N : List Nat := firstN.set 0 (xorN (getN firstN 0) 0x01010020)
def digestL (data : List UInt8) : List UInt8 := (blocksN data.length h0N data 0).flatMap bytesN
end Go.Age
end
