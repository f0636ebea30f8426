/- Part of the proof of BookDigestsCardSaid. -/
import Derived.Test.YtclndflapjmfnaaGreatDoorBkCard3M10
section
set_option linter.all false
set_option linter.unusedVariables false
set_option linter.unusedSimpArgs false
namespace Go.Den
def mk (n : Nat) (σ : Nat → CV) : List CV := (List.range n).map σ
def upd (σ : Nat → CV) (t : Nat) (c : CV) : Nat → CV := fun j => if j = t then c else σ j
def jk : Nat → CV := fun _ => .junk
def ini : List CV → Nat → CV
  | [], _ => .v undef
  | a :: _, 0 => a
  | _ :: l, k + 1 => ini l k
def kp : List Nat → (Nat → CV) → Nat → CV
  | [], _ => jk
  | k :: ks, σ => upd (kp ks σ) k (σ k)

theorem mk_len (n : Nat) (σ : Nat → CV) : (mk n σ).length = n := by simp [mk]
theorem mk_get {n t : Nat} (σ : Nat → CV) (h : t < n) : (mk n σ)[t]? = some (σ t) := by simp [mk, h]
theorem mk_get_none {n t : Nat} (σ : Nat → CV) (h : ¬ t < n) : (mk n σ)[t]? = none := by simp [mk]; omega
theorem mk_set (n : Nat) (σ : Nat → CV) (t : Nat) (c : CV) : (mk n σ).set t c = mk n (upd σ t c) := by
  apply List.ext_getElem?
  intro i
  by_cases hi : i < n
  · rw [mk_get _ hi, List.getElem?_set]
    by_cases h : t = i
    · subst h; simp [upd, mk_len, hi]
    · rw [if_neg h, mk_get _ hi]; rw [upd, if_neg (fun e : i = t => h e.symm)]
  · rw [mk_get_none _ hi, List.getElem?_eq_none (by simp [mk_len]; omega)]
theorem ini_get : ∀ (l : List CV) (k : Nat), ini l k = (l[k]?).getD (.v undef)
  | [], k => by simp [ini]
  | a :: l, 0 => by simp [ini]
  | a :: l, k + 1 => by simp [ini, ini_get l k]
theorem mk_ini {n : Nat} (args : List CV) (h : args.length ≤ n) : args ++ List.replicate (n - args.length) (.v undef) = mk n (ini args) := by
  apply List.ext_getElem?
  intro i
  by_cases hi : i < n
  · rw [mk_get _ hi, ini_get]
    by_cases hl : i < args.length
    · rw [List.getElem?_append_left hl]; simp [hl]
    · rw [List.getElem?_append_right (by omega), List.getElem?_replicate, if_pos (by omega), List.getElem?_eq_none (l := args) (by omega)]; rfl
  · rw [mk_get_none _ hi, List.getElem?_eq_none (by simp; omega)]

theorem kp_get : ∀ (ks : List Nat) (σ : Nat → CV) (j : Nat), kp ks σ j = if ks.contains j then σ j else .junk
  | [], σ, j => by simp [kp, jk]
  | k :: ks, σ, j => by
    by_cases h : j = k
    · subst h; simp [kp, upd]
    · rw [kp, upd, if_neg h, kp_get ks σ j]
      simp only [List.contains_cons, beq_eq_false_iff_ne.2 h, Bool.false_or]
theorem normS_get (ks : List Nat) : ∀ (l : List CV) (i j : Nat), (normS ks i l)[j]? = (l[j]?).map fun c => if ks.contains (i + j) then c else .junk
  | [], i, j => by simp [normS]
  | c :: l, i, 0 => by simp [normS]
  | c :: l, i, j + 1 => by simp only [normS, List.getElem?_cons_succ, normS_get ks l, show i + 1 + j = i + (j + 1) by omega]
theorem norm_mk (ks : List Nat) (n : Nat) (σ : Nat → CV) : normS ks 0 (mk n σ) = mk n (kp ks σ) := by
  apply List.ext_getElem?
  intro i
  rw [normS_get]
  by_cases hi : i < n
  · rw [mk_get _ hi, mk_get _ hi, kp_get]; simp
  · rw [mk_get_none _ hi, mk_get_none _ hi]; rfl

theorem upd_self (σ : Nat → CV) (t : Nat) : upd σ t (σ t) = σ := by
  funext j; by_cases h : j = t
  · subst h; simp [upd]
  · simp [upd, h]

def putS (σ : Nat → CV) (d : Option Tmp) (c : CV) : Nat → CV := match d with
  | some t => upd σ t c
  | none => σ
theorem put_mk (n : Nat) (σ : Nat → CV) (H0 : Hp) (d : Option Tmp) (c : CV) (H : Hp) : St.put ⟨mk n σ, H0⟩ d c H = ⟨mk n (putS σ d c), H⟩ := by
  cases d with
  | none => rfl
  | some t => simp only [St.put, putS, mk_set]
def WB (b : Bool) (σ : Nat → CV) (t : Nat) (K : Bool → (Nat → CV) → Prop) : Prop := K b σ
theorem WB_true (σ : Nat → CV) (t : Nat) (K : Bool → (Nat → CV) → Prop) : WB true σ t K = K true σ := rfl
theorem WB_false (σ : Nat → CV) (t : Nat) (K : Bool → (Nat → CV) → Prop) : WB false σ t K = K false σ := rfl
theorem WB.intro {b : Bool} {σ : Nat → CV} {t : Nat} {K : Bool → (Nat → CV) → Prop} (hs : σ t = .v (.bool b)) (h1 : b = true → K true (upd σ t (.v (.bool true)))) (h2 : b = false → K false (upd σ t (.v (.bool false)))) : WB b σ t K := by
  cases b
  · have := h2 rfl; rwa [← hs, upd_self] at this
  · have := h1 rfl; rwa [← hs, upd_self] at this

def grows (dr : Bool) (H H' : Hp) : Prop := dr = true → H.length ≤ H'.length

section
variable (E : Env) (call : FuncId → List CV → Hp → Option (CV × Hp)) (f : FuncId) (n : Nat)

def gdst (ops : Array Oper) (g : Nat) : Option Nat := (ops[g]?).bind (·.dst)

def WK (dr : Bool) (r : Option (CV × Hp)) (H : Hp) (K : CV → Hp → Prop) : Prop := match r with
  | some (c, H') => grows dr H H' ∧ K c H'
  | none => False

def WO (dr : Bool) (o : Oper) (σ : Nat → CV) (H : Hp) (K : (Nat → CV) → Hp → Prop) : Prop :=
  WK dr (stepOp E call o (mk n σ) H) H fun c H' => K (putS σ o.dst c) H'

def WG (ops : Array Oper) (dr : Bool) (o : Oper) (σ : Nat → CV) (H : Hp) (K : (Nat → CV) → Hp → Prop) : Option (Nat × Bool) → Prop
  | none => WO E call n dr o σ H K
  | some (g, want) => match gdst ops g with
    | some t => if t < n then match σ t with
        | .v (.bool b) => WB b σ t fun b' σ' => match b' == want with
          | true => WO E call n dr o σ' H K
          | false => K (putS σ' o.dst (.v undef)) H
        | .v (.tuple _) => K (putS σ o.dst (.v undef)) H
        | _ => False
      else False
    | none => False

def WL (ops : Array Oper) (dr : Bool) : List Oper → (Nat → CV) → Hp → ((Nat → CV) → Hp → Prop) → Prop
  | [], σ, H, K => K σ H
  | o :: l, σ, H, K => WG E call n ops dr o σ H (fun σ' H' => WL ops dr l σ' H' K) o.guard
def quiet (o : Oper) : Bool := match o.op with
  | .store _ _ _ | .mapUpdate _ _ _ _ | .insert _ _ _ _ => false
  | .call c => match c.callee with
    | .value (.func g) => g != yId && isRf E g
    | .builtin .len | .builtin .min | .builtin .max => true
    | _ => false
  | _ => true
def still (ops : Array Oper) : Bool := drawS ops && (pairs E ops).all fun p => match ops[p.1]?, ops[p.2]? with
  | some a, some b => quiet E a && quiet E b
  | _, _ => false
def adrOf (o : Oper) : Option (Bool × Nat) := match o.op with
  | .load t (.tmp a) => if (E.ty t).isSome then some (false, a) else none
  | .store t (.tmp a) _ => if (E.ty t).isSome then some (true, a) else none
  | _ => none
def later (ops : Array Oper) (i t : Nat) : Bool := (ops.toList.drop i).all fun o => o.dst != some t
inductive Rq where
  | ap (a b : Nat)
  | rf (t : Nat)
deriving DecidableEq
def quietQ (ops : Array Oper) (i : Nat) (o : Oper) : Option (List Rq) := if quiet E o then some [] else match o.op with
  | .call c => match c.callee with
    | .value (.tmp t) => if later ops i t then some [.rf t] else none
    | _ => none
  | _ => none
def dynP (ops : Array Oper) (p : Nat × Nat) : Option (List Rq) := match ops[p.1]?, ops[p.2]? with
  | some a, some b => match quietQ E ops p.1 a, quietQ E ops p.2 b with
    | some x, some y => some (x ++ y)
    | _, _ => match adrOf E a, adrOf E b with
      | some (s, t), some (s', t') => if later ops p.1 t && later ops p.2 t' && s != s' then some [.ap t t'] else none
      | _, _ => none
  | _, _ => none
def dynL (ops : Array Oper) : List (Nat × Nat) → Option (List Rq)
  | [] => some []
  | p :: l => match dynP E ops p, dynL ops l with
    | some q, some r => some (q ++ r)
    | _, _ => none
def apart2 (x y : CV) : Prop := match x, y with
  | .op i _, .op j _ => i ≠ j
  | _, _ => False
def rfV (x : CV) : Prop := match x with
  | .fn g _ => isRf E g = true
  | _ => False
def rqH (σ : Nat → CV) : Rq → Prop
  | .ap a b => apart2 (σ a) (σ b)
  | .rf t => rfV E (σ t)
def rqN (n : Nat) : Rq → Bool
  | .ap a b => decide (a < n ∧ b < n)
  | .rf t => decide (t < n)
def apL (L : List Rq) (σ : Nat → CV) : Prop := ∀ p ∈ L, rqH E σ p
def kD (n : Nat) (L : List Rq) (K : (Nat → CV) → Hp → Prop) (σ : Nat → CV) (H : Hp) : Prop := (apL E L σ ∧ ∀ p ∈ L, rqN n p = true) ∧ K σ H
def WLw (ops : Array Oper) : List (Option Cl) → List Oper → (Nat → CV) → Hp → ((Nat → CV) → Hp → Prop) → Prop
  | _, [], σ, H, K => K σ H
  | some c :: L, o :: l, σ, H, K => clOf E o (mk n σ) H = c ∧ WG E call n ops true o σ H (fun σ' H' => WLw ops L l σ' H' K) o.guard
  | none :: L, o :: l, σ, H, K => WG E call n ops true o σ H (fun σ' H' => WLw ops L l σ' H' K) o.guard
  | [], o :: l, σ, H, K => WG E call n ops true o σ H (fun σ' H' => WLw ops [] l σ' H' K) o.guard
def okW (ops : Array Oper) (L : List (Option Cl)) (p : Nat × Nat) : Bool :=
  (match ops[p.1]?, ops[p.2]? with | some a, some b => quiet E a && quiet E b | _, _ => false) ||
  (match L.getD p.1 none, L.getD p.2 none with
    | some .pure, _ => true
    | _, some .pure => true
    | some c, some c' => okPair c c'
    | _, _ => false)
def nmS (b : Code) (σ : Nat → CV) : Nat → CV := match E.keep f (firstRid b) with
  | some ks => kp ks σ
  | none => σ

def WN (ex : Ex) (p q : Prop) : Prop := match ex with
  | .normal => p
  | _ => q
def WE (ex : Ex) (id : Nat) (p q : Prop) : Prop := match ex with
  | .exit i => if i = id then p else q
  | _ => q

def WC (r : Option CV) (σ : Nat → CV) (t : Nat) (K : Bool → (Nat → CV) → Prop) : Prop := match r with
  | some (.v (.bool b)) => WB b σ t K
  | _ => False
def WFn (r : Option CV) (K : FuncId → List CV → Prop) : Prop := match r with
  | some (.fn g caps) => K g caps
  | _ => False
def WQr (r : Option (FuncId × List Tmp × Code × Code × LQ × List CV)) (K : Ex → Prop) : Prop := match r with
  | some (_, _, _, _, q, _) => match q with
    | .ready => K .normal
    | .done ex => K ex
    | .busy => False
  | none => False
def slotOf : Operand → Nat
  | .tmp t => t
  | _ => n

def W : Code → (Nat → CV) → Hp → (Ex → (Nat → CV) → Hp → Prop) → Prop
  | .skip, σ, H, Q => Q .normal σ H
  | .label _, σ, H, Q => Q .normal σ H
  | .region _ ops false, σ, H, Q => WL E call n ops false ops.toList σ H (Q .normal)
  | .region _ ops true, σ, H, Q => (still E ops = true ∧ WL E call n ops true ops.toList σ H (Q .normal)) ∨ (∃ L, drawS ops = true ∧ dynL E ops (pairs E ops) = some L ∧ WL E call n ops true ops.toList σ H (kD E n L (Q .normal))) ∨ ∃ L, drawS ops = true ∧ ((pairs E ops).all fun p => okW E ops L p) = true ∧ WLw E call n ops L ops.toList σ H (Q .normal)
  | .seq a b, σ, H, Q => W a σ H fun ex σ' H' => WN ex (W b σ' H' Q) (Q ex σ' H')
  | .cond c a b, σ, H, Q => WC (evalO E (mk n σ) c) σ (slotOf n c) fun t σ' => match t with
    | true => W a σ' H Q
    | false => W b σ' H Q
  | .block id b, σ, H, Q => W b σ H fun ex σ' H' => WE ex id (Q .normal σ' H') (Q ex σ' H')
  | .loop b, σ, H, Q => ∃ (Inv : Nat → (Nat → CV) → Hp → Prop) (r : Nat), r < rounds ∧ Inv r (nmS E f b σ) H ∧
      ∀ k σ H, Inv k σ H → W b σ H fun ex σ' H' => WN ex (∃ k', k' < k ∧ Inv k' (nmS E f b σ') H') (Q ex σ' H')
  | .exit id, σ, H, Q => Q (.exit id) σ H
  | .ret, σ, H, Q => Q .ret σ H
  | .rangeFunc g ps as b, σ, H, Q => E.rgf f = true ∧ WFn (evalO E (mk n σ) g) fun gf caps =>
      WK false (call gf (.yd (H.length + 1) :: caps) (H ++ [.row ⟨[], 2, 0, true⟩, .row ⟨.lpc f ps.toList as b .ready :: mk n σ, 1, 0, true⟩])) H fun _ H1 => WQr (getL H1 (H.length + 1)) fun ex => Q ex σ (H1.set (H.length + 1) .dead)
  | _, _, _, _ => False
end

section
variable {E : Env} {call : FuncId → List CV → Hp → Option (CV × Hp)} {f : FuncId} {n : Nat}

theorem WK.out {dr : Bool} {r : Option (CV × Hp)} {H : Hp} {K : CV → Hp → Prop} (h : WK dr r H K) : ∃ c H', r = some (c, H') ∧ grows dr H H' ∧ K c H' := by
  unfold WK at h
  split at h
  · exact ⟨_, _, rfl, h⟩
  · cases h
theorem WG.out {ops : Array Oper} {dr : Bool} {o : Oper} {σ : Nat → CV} {H : Hp} {K : (Nat → CV) → Hp → Prop} (h : WG E call n ops dr o σ H K o.guard) :
    (∃ σ', wantedC ops o (mk n σ) = some true ∧ σ' = σ ∧ ∃ c H', stepOp E call o (mk n σ') H = some (c, H') ∧ grows dr H H' ∧ K (putS σ' o.dst c) H') ∨
    (wantedC ops o (mk n σ) = some false ∧ K (putS σ o.dst (.v undef)) H) := by
  unfold wantedC
  generalize hg : o.guard = g at h
  unfold WG at h
  split at h
  · obtain ⟨c, H', h1, h2, h3⟩ := h.out
    exact .inl ⟨σ, rfl, rfl, c, H', h1, h2, h3⟩
  · rename_i g want
    unfold gdst at h
    simp only
    split at h
    · rename_i t ht
      split at h
      · rename_i hn
        simp only [ht, mk_get σ hn]
        split at h
        · rename_i b hb
          simp only [hb]
          unfold WB at h
          simp only at h
          split at h
          · rename_i hw
            obtain ⟨c, H', h1, h2, h3⟩ := h.out
            exact .inl ⟨σ, by rw [hw], rfl, c, H', h1, h2, h3⟩
          · rename_i hw
            exact .inr ⟨by rw [hw], h⟩
        · rename_i x hb
          simp only [hb]
          exact .inr ⟨trivial, h⟩
        · cases h
      · cases h
    · cases h

theorem WL.out {ops : Array Oper} : ∀ {l : List Oper} {σ : Nat → CV} {H : Hp} {K : (Nat → CV) → Hp → Prop}, WL E call n ops false l σ H K →
    ∃ σ' H', runList E call ops l ⟨mk n σ, H⟩ = some ⟨mk n σ', H'⟩ ∧ K σ' H'
  | [], σ, H, K, h => ⟨σ, H, rfl, h⟩
  | o :: l, σ, H, K, h => by
    simp only [WL] at h
    rcases h.out with ⟨σ', h1, rfl, c, H', h2, h3, h4⟩ | ⟨h1, h4⟩
    · obtain ⟨σ2, H2, h5, h6⟩ := WL.out h4
      exact ⟨σ2, H2, by simp only [runList, h1, h2, put_mk, h5], h6⟩
    · obtain ⟨σ2, H2, h5, h6⟩ := WL.out h4
      exact ⟨σ2, H2, by simp only [runList, h1, put_mk, h5], h6⟩

theorem WL.outT {ops : Array Oper} : ∀ {l : List Oper} {σ : Nat → CV} {H : Hp} {K : (Nat → CV) → Hp → Prop}, WL E call n ops true l σ H K →
    ∃ cs σ' H', runT E call ops l ⟨mk n σ, H⟩ = some (cs, ⟨mk n σ', H'⟩) ∧ K σ' H'
  | [], σ, H, K, h => ⟨[], σ, H, rfl, h⟩
  | o :: l, σ, H, K, h => by
    simp only [WL] at h
    rcases h.out with ⟨σ', h1, rfl, c, H', h2, h3, h4⟩ | ⟨h1, h4⟩
    · obtain ⟨cs, σ2, H2, h5, h6⟩ := WL.outT h4
      exact ⟨_, σ2, H2, by simp only [runT, h1, h2, put_mk, h5, if_pos (h3 rfl)]; rfl, h6⟩
    · obtain ⟨cs, σ2, H2, h5, h6⟩ := WL.outT h4
      exact ⟨_, σ2, H2, by simp only [runT, h1, put_mk, h5]; rfl, h6⟩

theorem WLw.outT {ops : Array Oper} : ∀ {l : List Oper} {L : List (Option Cl)} {σ : Nat → CV} {H : Hp} {K : (Nat → CV) → Hp → Prop}, WLw E call n ops L l σ H K →
    ∃ cs σ' H', runT E call ops l ⟨mk n σ, H⟩ = some (cs, ⟨mk n σ', H'⟩) ∧ K σ' H' ∧ ∀ i c, L.getD i none = some c → i < l.length → cs.getD i .write = c ∨ cs.getD i .write = .pure
  | [], L, σ, H, K, h => ⟨[], σ, H, rfl, by simpa [WLw] using h, fun i c _ hi => by simp at hi⟩
  | o :: l, L, σ, H, K, h => by
    have main : ∀ (L' : List (Option Cl)), WG E call n ops true o σ H (fun σ' H' => WLw E call n ops L' l σ' H' K) o.guard → (∀ c, L.getD 0 none = some c → clOf E o (mk n σ) H = c) → (∀ i, L.getD (i + 1) none = L'.getD i none) →
        ∃ cs σ' H', runT E call ops (o :: l) ⟨mk n σ, H⟩ = some (cs, ⟨mk n σ', H'⟩) ∧ K σ' H' ∧ ∀ i c, L.getD i none = some c → i < (o :: l).length → cs.getD i .write = c ∨ cs.getD i .write = .pure := by
      intro L' h h0 hL
      rcases h.out with ⟨σ', h1, rfl, c, H', h2, h3, h4⟩ | ⟨h1, h4⟩
      · obtain ⟨cs, σ2, H2, h5, h6, h7⟩ := WLw.outT h4
        refine ⟨_, σ2, H2, by simp only [runT, h1, h2, put_mk, h5, if_pos (h3 rfl)]; rfl, h6, fun i c hi hl => ?_⟩
        cases i with
        | zero => exact .inl (h0 c hi)
        | succ i => rw [hL] at hi; simpa using h7 i c hi (by simpa using hl)
      · obtain ⟨cs, σ2, H2, h5, h6, h7⟩ := WLw.outT h4
        refine ⟨_, σ2, H2, by simp only [runT, h1, put_mk, h5]; rfl, h6, fun i c hi hl => ?_⟩
        cases i with
        | zero => exact .inr rfl
        | succ i => rw [hL] at hi; simpa using h7 i c hi (by simpa using hl)
    match L, h with
    | [], h => exact main [] h (fun c hc => by simp at hc) (fun i => by simp)
    | none :: L', h => exact main L' h (fun c hc => by simp at hc) (fun i => by simp)
    | some c0 :: L', h => exact main L' h.2 (fun c hc => by simp at hc; rw [← hc]; exact h.1) (fun i => by simp)

theorem quiet_cl {o : Oper} (h : quiet E o = true) (s : List CV) (H : Hp) : (clOf E o s H).wr = false := by
  unfold clOf
  split
  · rfl
  · rename_i hn
    unfold quiet at h
    split
    · split <;> rfl
    · split <;> rfl
    · rfl
    · rfl
    · rfl
    · rfl
    · rfl
    · rename_i ho; simp [ho] at h
    · rename_i ho; simp [ho] at h
    · rename_i ho; simp [ho] at h
    · rename_i c ho
      simp only [ho] at h
      unfold clCall
      split at h
      · rename_i g hg
        simp only [Bool.and_eq_true, bne_iff_ne, ne_eq] at h
        simp only [hg, evalO, h.1, h.2, if_true, if_false]; rfl
      · rename_i hg; simp only [hg]; split <;> rfl
      · rename_i hg; exact absurd (by simp [isP, ho, hg]) hn
      · rename_i hg; exact absurd (by simp [isP, ho, hg]) hn
      · cases h
    · rfl

theorem okPair_nw {a b : Cl} (ha : a.wr = false) (hb : b.wr = false) : okPair a b = true := by
  cases a <;> cases b <;> simp_all [Cl.wr, okPair]

theorem runT_cl {ops : Array Oper} : ∀ {l : List Oper} {st : St} {cs : List Cl} {r : St}, runT E call ops l st = some (cs, r) → ∀ (i : Nat) (o : Oper), l[i]? = some o → (cs.getD i .write) = .pure ∨ ∃ s H, cs.getD i .write = clOf E o s H
  | [], st, cs, r, h, i, o, hi => by simp at hi
  | x :: l, st, cs, r, h, i, o, hi => by
    simp only [runT] at h
    split at h
    · split at h
      · split at h
        · split at h
          · rename_i cs' r' hr
            cases h
            cases i with
            | zero => simp only [List.getElem?_cons_zero, Option.some.injEq] at hi; subst hi; exact .inr ⟨_, _, rfl⟩
            | succ i => simpa using runT_cl hr i o (by simpa using hi)
          · cases h
        · cases h
      · cases h
    · split at h
      · rename_i cs' r' hr
        cases h
        cases i with
        | zero => exact .inl rfl
        | succ i => simpa using runT_cl hr i o (by simpa using hi)
      · cases h
    · cases h

theorem still_ok {ops : Array Oper} (h : still E ops = true) {st : St} {cs : List Cl} {r : St} (hr : runT E call ops ops.toList st = some (cs, r)) : drawOk E ops cs = true := by
  simp only [still, Bool.and_eq_true] at h
  simp only [drawOk, h.1, Bool.true_and, List.all_eq_true]
  intro p hp
  have := List.all_eq_true.1 h.2 p hp
  split at this
  · rename_i a b ha hb
    simp only [Bool.and_eq_true] at this
    have nw : ∀ (i : Nat) (o : Oper), ops[i]? = some o → quiet E o = true → (cs.getD i .write).wr = false := by
      intro i o hi hq
      rcases runT_cl hr i o (by simpa using hi) with h1 | ⟨s, H, h1⟩
      · rw [h1]; rfl
      · rw [h1]; exact quiet_cl hq s H
    exact okPair_nw (nw _ _ ha this.1) (nw _ _ hb this.2)
  · cases this

theorem runT_slot {ops : Array Oper} {t : Nat} : ∀ {l : List Oper} {st : St} {cs : List Cl} {r : St}, runT E call ops l st = some (cs, r) → (∀ o ∈ l, o.dst ≠ some t) → r.s[t]? = st.s[t]?
  | [], st, cs, r, h, _ => by simp only [runT, Option.some.injEq, Prod.mk.injEq] at h; rw [h.2]
  | o :: l, st, cs, r, h, hl => by
    have hput : ∀ (c : CV) (H : Hp), (st.put o.dst c H).s[t]? = st.s[t]? := by
      intro c H
      have := hl o (by simp)
      cases hd : o.dst with
      | none => rfl
      | some d =>
        rw [hd] at this
        simp only [St.put]
        rw [List.getElem?_set_ne]
        intro e; subst e; exact this rfl
    simp only [runT] at h
    split at h
    · split at h
      · split at h
        · split at h
          · rename_i cs' r' hr
            cases h
            rw [runT_slot hr (fun o ho => hl o (by simp [ho])), hput]
          · cases h
        · cases h
      · cases h
    · split at h
      · rename_i cs' r' hr
        cases h
        rw [runT_slot hr (fun o ho => hl o (by simp [ho])), hput]
      · cases h
    · cases h
theorem runT_at {ops : Array Oper} {t : Nat} : ∀ {l : List Oper} {st : St} {cs : List Cl} {r : St}, runT E call ops l st = some (cs, r) → ∀ (i : Nat) (o : Oper), l[i]? = some o → (∀ o ∈ l.drop i, o.dst ≠ some t) →
    cs.getD i .write = .pure ∨ ∃ (s : List CV) (H : Hp), cs.getD i .write = clOf E o s H ∧ s[t]? = r.s[t]?
  | [], st, cs, r, h, i, o, hi, _ => by simp at hi
  | x :: l, st, cs, r, h, i, o, hi, hl => by
    have hs : i = 0 → r.s[t]? = st.s[t]? := fun e => by subst e; exact runT_slot h (by simpa using hl)
    simp only [runT] at h
    split at h
    · split at h
      · split at h
        · split at h
          · rename_i cs' r' hr
            cases h
            cases i with
            | zero => simp only [List.getElem?_cons_zero, Option.some.injEq] at hi; subst hi; exact .inr ⟨_, _, rfl, (hs rfl).symm⟩
            | succ i => simpa using runT_at hr i o (by simpa using hi) (by simpa using hl)
          · cases h
        · cases h
      · cases h
    · split at h
      · rename_i cs' r' hr
        cases h
        cases i with
        | zero => exact .inl rfl
        | succ i => simpa using runT_at hr i o (by simpa using hi) (by simpa using hl)
      · cases h
    · cases h

theorem cl_adr {o : Oper} {s : Bool} {t : Nat} (h : adrOf E o = some (s, t)) {sl : List CV} {H : Hp} {i off : Nat} (hs : sl[t]? = some (.op i off)) :
    (s = false ∧ ∃ q z, clOf E o sl H = .load i q z) ∨ (s = true ∧ ∃ q z, clOf E o sl H = .store i q z) := by
  unfold adrOf at h
  split at h
  · rename_i ty a ho
    split at h
    rotate_left
    · cases h
    rename_i hty
    cases h
    refine .inl ⟨rfl, ?_⟩
    unfold clOf
    rw [if_neg (by simp [isP, ho])]
    simp only [ho, evalO, hs]
    cases he : E.ty ty with
    | none => rw [he] at hty; cases hty
    | some i' => exact ⟨_, _, rfl⟩
  · rename_i ty a v ho
    split at h
    · rename_i hty
      cases h
      refine .inr ⟨rfl, ?_⟩
      unfold clOf
      rw [if_neg (by simp [isP, ho])]
      simp only [ho, evalO, hs]
      cases he : E.ty ty with
      | none => rw [he] at hty; cases hty
      | some i' => exact ⟨_, _, rfl⟩
    · cases h
  · cases h

theorem dynL_mem {ops : Array Oper} : ∀ {l : List (Nat × Nat)} {L : List Rq}, dynL E ops l = some L → ∀ p ∈ l, ∃ q, dynP E ops p = some q ∧ ∀ x ∈ q, x ∈ L
  | [], L, h, p, hp => by simp at hp
  | a :: l, L, h, p, hp => by
    simp only [dynL] at h
    split at h
    · rename_i q r ha hr
      cases h
      rcases List.mem_cons.1 hp with rfl | hp
      · exact ⟨q, ha, fun x e => List.mem_append_left _ e⟩
      · obtain ⟨q', h1, h2⟩ := dynL_mem hr p hp
        exact ⟨q', h1, fun x e => List.mem_append_right _ (h2 x e)⟩
    · cases h

theorem dyn_ok {ops : Array Oper} {L : List Rq} (h1 : drawS ops = true) (h2 : dynL E ops (pairs E ops) = some L) {st : St} {cs : List Cl} {σ' : Nat → CV} {H' : Hp} (hr : runT E call ops ops.toList st = some (cs, ⟨mk n σ', H'⟩))
    (hL : apL E L σ') (hn : ∀ p ∈ L, rqN n p = true) : drawOk E ops cs = true := by
  simp only [drawOk, h1, Bool.true_and, List.all_eq_true]
  intro p hp
  obtain ⟨q, hq, hm⟩ := dynL_mem h2 p hp
  unfold dynP at hq
  split at hq
  rotate_left
  · cases hq
  rename_i a b ha hb
  have lat : ∀ {k t : Nat}, later ops k t = true → ∀ o ∈ ops.toList.drop k, o.dst ≠ some t := by
    intro k t hk o ho
    simpa using List.all_eq_true.1 hk o ho
  split at hq
  · rename_i x y hx hy
    cases hq
    have nw : ∀ (i : Nat) (o : Oper) (x : List Rq), ops[i]? = some o → quietQ E ops i o = some x → (∀ z ∈ x, z ∈ L) → (cs.getD i .write).wr = false := by
      intro i o x hi hqo hx
      unfold quietQ at hqo
      split at hqo
      · rename_i hqq
        rcases runT_cl hr i o (by simpa using hi) with h1 | ⟨s, H, h1⟩
        · rw [h1]; rfl
        · rw [h1]; exact quiet_cl hqq s H
      · split at hqo
        · rename_i c ho
          split at hqo
          · rename_i t hc
            split at hqo
            · rename_i hl
              cases hqo
              have hm := hx _ (List.mem_singleton.2 rfl)
              have h3 := hL _ hm
              have h4 := hn _ hm
              simp only [rqH, rqN, decide_eq_true_eq] at h3 h4
              rcases runT_at hr i o (by simpa using hi) (lat hl) with h1 | ⟨s, H, h1, h5⟩
              · rw [h1]; rfl
              · rw [h1]
                have h5 : s[t]? = some (σ' t) := by rw [h5]; exact mk_get _ h4
                unfold clOf
                split
                · rfl
                · simp only [ho]
                  unfold clCall
                  simp only [hc, evalO, h5]
                  unfold rfV at h3
                  split at h3
                  · rename_i g caps hg
                    rw [hg]
                    simp only [h3, if_true]
                    rfl
                  · cases h3
            · cases hqo
          · cases hqo
        · cases hqo
    exact okPair_nw (nw _ _ x ha hx fun z hz => hm z (List.mem_append_left _ hz)) (nw _ _ y hb hy fun z hz => hm z (List.mem_append_right _ hz))
  · split at hq
    rotate_left
    · cases hq
    rename_i s t s' t' ha' hb'
    split at hq
    rotate_left
    · cases hq
    rename_i hc
    cases hq
    simp only [Bool.and_eq_true, bne_iff_ne, ne_eq] at hc
    obtain ⟨⟨l1, l2⟩, hne⟩ := hc
    have hmem := hm _ (List.mem_singleton.2 rfl)
    have hap := hL _ hmem
    have hlt := hn _ hmem
    simp only [rqH, rqN, decide_eq_true_eq] at hap hlt
    unfold apart2 at hap
    split at hap
    rotate_left
    · cases hap
    rename_i i o1 j o2 e1 e2
    have g1 : (⟨mk n σ', H'⟩ : St).s[t]? = some (.op i o1) := by simp only; rw [mk_get _ hlt.1, e1]
    have g2 : (⟨mk n σ', H'⟩ : St).s[t']? = some (.op j o2) := by simp only; rw [mk_get _ hlt.2, e2]
    rcases runT_at hr p.1 a (by simpa using ha) (lat l1) with k1 | ⟨s1, H1, k1, k2⟩
    · rw [k1]; rfl
    · rcases runT_at hr p.2 b (by simpa using hb) (lat l2) with k3 | ⟨s2, H2, k3, k4⟩
      · rw [k3]; cases cs.getD p.1 Cl.write <;> rfl
      · rw [k1, k3]
        rcases cl_adr ha' (H := H1) (sl := s1) (by rw [k2, g1]) with ⟨rfl, q1, z1, c1⟩ | ⟨rfl, q1, z1, c1⟩ <;> rcases cl_adr hb' (H := H2) (sl := s2) (by rw [k4, g2]) with ⟨rfl, q2, z2, c2⟩ | ⟨rfl, q2, z2, c2⟩
        · exact absurd rfl hne
        · rw [c1, c2]; simp [okPair, hap]
        · rw [c1, c2]; simp only [okPair, Bool.or_eq_true, bne_iff_ne, ne_eq]
          exact .inl (.inl fun e => hap e.symm)
        · exact absurd rfl hne

theorem okPair_pure_r (a : Cl) : okPair a .pure = true := by cases a <;> rfl
theorem w_ok {ops : Array Oper} {L : List (Option Cl)} (h1 : drawS ops = true) (h2 : ((pairs E ops).all fun p => okW E ops L p) = true) {st : St} {cs : List Cl} {r : St} (hr : runT E call ops ops.toList st = some (cs, r))
    (hL : ∀ i c, L.getD i none = some c → i < ops.toList.length → cs.getD i .write = c ∨ cs.getD i .write = .pure) : drawOk E ops cs = true := by
  simp only [drawOk, h1, Bool.true_and, List.all_eq_true]
  intro p hp
  have hq := List.all_eq_true.1 h2 p hp
  have hlt : p.1 < ops.toList.length ∧ p.2 < ops.toList.length := by
    unfold pairs at hp
    simp only [List.mem_flatMap, List.mem_range, List.mem_filterMap] at hp
    obtain ⟨k, hk, i, hi, he⟩ := hp
    split at he
    · split at he
      · cases he
      · cases he; simp only [Array.length_toList]; omega
    · cases he
  unfold okW at hq
  rw [Bool.or_eq_true] at hq
  rcases hq with hq | hq
  · split at hq
    · rename_i a b ha hb
      simp only [Bool.and_eq_true] at hq
      have nw : ∀ (i : Nat) (o : Oper), ops[i]? = some o → quiet E o = true → (cs.getD i .write).wr = false := by
        intro i o hi hqo
        rcases runT_cl hr i o (by simpa using hi) with h1 | ⟨s, H, h1⟩
        · rw [h1]; rfl
        · rw [h1]; exact quiet_cl hqo s H
      exact okPair_nw (nw _ _ ha hq.1) (nw _ _ hb hq.2)
    · cases hq
  · cases ea : L.getD p.1 none with
    | none =>
      rw [ea] at hq
      cases eb : L.getD p.2 none with
      | none => rw [eb] at hq; cases hq
      | some c' =>
        rw [eb] at hq
        have hc : c' = .pure := by cases c' <;> first | rfl | cases hq
        subst hc
        rcases hL _ _ eb hlt.2 with e | e <;> rw [e] <;> exact okPair_pure_r _
    | some c =>
      rw [ea] at hq
      rcases hL _ _ ea hlt.1 with e | e
      · rw [e]
        cases eb : L.getD p.2 none with
        | none =>
          rw [eb] at hq
          have hc : c = .pure := by cases c <;> first | rfl | cases hq
          subst hc; rfl
        | some c' =>
          rw [eb] at hq
          rcases hL _ _ eb hlt.2 with e' | e'
          · rw [e']
            cases c <;> cases c' <;> first | exact hq | rfl
          · rw [e']; exact okPair_pure_r _
      · rw [e]; rfl

theorem nm_mk (b : Code) (σ : Nat → CV) (H : Hp) : norm E f b ⟨mk n σ, H⟩ = ⟨mk n (nmS E f b σ), H⟩ := by
  unfold norm nmS
  cases E.keep f (firstRid b) with
  | some ks => simp only [norm_mk]
  | none => rfl

theorem W.out : ∀ {c : Code} {σ : Nat → CV} {H : Hp} {Q : Ex → (Nat → CV) → Hp → Prop}, W E call f n c σ H Q →
    ∃ ex σ' H', runC E call f c ⟨mk n σ, H⟩ = some (ex, ⟨mk n σ', H'⟩) ∧ Q ex σ' H' := by
  intro c
  induction c with
  | skip => intro σ H Q h; exact ⟨_, σ, H, rfl, by simpa [W] using h⟩
  | label l => intro σ H Q h; exact ⟨_, σ, H, rfl, by simpa [W] using h⟩
  | exit id => intro σ H Q h; exact ⟨_, σ, H, rfl, by simpa [W] using h⟩
  | ret => intro σ H Q h; exact ⟨_, σ, H, rfl, by simpa [W] using h⟩
  | region id ops draw =>
    intro σ H Q h
    cases draw with
    | false =>
      simp only [W] at h
      obtain ⟨σ', H', h1, h2⟩ := h.out
      exact ⟨_, σ', H', by simp only [runC, h1]; rfl, h2⟩
    | true =>
      simp only [W] at h
      rcases h with ⟨h0, h⟩ | ⟨L, g1, g2, h⟩ | ⟨L, g1, g2, h⟩
      · obtain ⟨cs, σ', H', h1, h2⟩ := h.outT
        exact ⟨_, σ', H', by simp only [runC, h1, still_ok h0 h1, if_true], h2⟩
      · obtain ⟨cs, σ', H', h1, h2⟩ := h.outT
        exact ⟨_, σ', H', by simp only [runC, h1, dyn_ok g1 g2 h1 h2.1.1 h2.1.2, if_true], h2.2⟩
      · obtain ⟨cs, σ', H', h1, h2, h3⟩ := h.outT
        exact ⟨_, σ', H', by simp only [runC, h1, w_ok g1 g2 h1 h3, if_true], h2⟩
  | seq a b iha ihb =>
    intro σ H Q h
    simp only [W] at h
    obtain ⟨ex, σ1, H1, h1, h2⟩ := iha h
    cases ex with
    | normal =>
      obtain ⟨ex, σ2, H2, h3, h4⟩ := ihb h2
      exact ⟨ex, σ2, H2, by simp only [runC, h1, h3], h4⟩
    | exit i => exact ⟨_, σ1, H1, by simp only [runC, h1], h2⟩
    | ret => exact ⟨_, σ1, H1, by simp only [runC, h1], h2⟩
  | cond c a b iha ihb =>
    intro σ H Q h
    simp only [W, WC] at h
    split at h
    · rename_i t ht
      unfold WB at h
      cases t with
      | true =>
        obtain ⟨ex, σ2, H2, h3, h4⟩ := iha h
        exact ⟨ex, σ2, H2, by simp only [runC, ht, h3], h4⟩
      | false =>
        obtain ⟨ex, σ2, H2, h3, h4⟩ := ihb h
        exact ⟨ex, σ2, H2, by simp only [runC, ht, h3], h4⟩
    · cases h
  | block id b ih =>
    intro σ H Q h
    simp only [W] at h
    obtain ⟨ex, σ1, H1, h1, h2⟩ := ih h
    cases ex with
    | normal => exact ⟨_, σ1, H1, by simp only [runC, h1], h2⟩
    | ret => exact ⟨_, σ1, H1, by simp only [runC, h1], h2⟩
    | exit i =>
      simp only [WE] at h2
      by_cases hi : i = id
      · rw [if_pos hi] at h2
        exact ⟨_, σ1, H1, by simp only [runC, h1, if_pos hi], h2⟩
      · rw [if_neg hi] at h2
        exact ⟨_, σ1, H1, by simp only [runC, h1, if_neg hi], h2⟩
  | loop b ih =>
    intro σ H Q h
    simp only [W] at h
    obtain ⟨Inv, r, hr, h0, hI⟩ := h
    have go : ∀ (m k : Nat) (σ : Nat → CV) (H : Hp), k < m → Inv k (nmS E f b σ) H → ∃ ex σ' H', iter (fun st' => runC E call f b (norm E f b st')) m ⟨mk n σ, H⟩ = some (ex, ⟨mk n σ', H'⟩) ∧ Q ex σ' H' := by
      intro m
      induction m with
      | zero => intro k σ H hk; omega
      | succ m ihm =>
        intro k σ H hk hi
        obtain ⟨ex, σ1, H1, h1, h2⟩ := ih (hI k _ H hi)
        cases ex with
        | normal =>
          obtain ⟨k', hk', hi'⟩ := h2
          obtain ⟨ex, σ2, H2, h3, h4⟩ := ihm k' σ1 H1 (by omega) hi'
          exact ⟨ex, σ2, H2, by simp only [iter, nm_mk, h1, h3], h4⟩
        | exit i => exact ⟨_, σ1, H1, by simp only [iter, nm_mk, h1], h2⟩
        | ret => exact ⟨_, σ1, H1, by simp only [iter, nm_mk, h1], h2⟩
    obtain ⟨ex, σ', H', h1, h2⟩ := go rounds r σ H hr h0
    exact ⟨ex, σ', H', by simp only [runC, h1], h2⟩
  | rangeFunc g ps as b =>
    intro σ H Q h
    simp only [W] at h
    obtain ⟨hf, h⟩ := h
    unfold WFn at h
    split at h
    rotate_left
    · cases h
    rename_i gf caps hgf
    obtain ⟨c, H1, h1, _, h2⟩ := h.out
    unfold WQr at h2
    split at h2
    rotate_left
    · cases h2
    rename_i f' ps' as' b' q s' hL
    split at h2
    · exact ⟨_, σ, _, by simp only [runC, hf, if_true, hgf, h1, hL], h2⟩
    · exact ⟨_, σ, _, by simp only [runC, hf, if_true, hgf, h1, hL], h2⟩
    · cases h2
  | _ => intro σ H Q h; exact absurd h (by simp [W])
def RS (E : Env) (n : Nat) (rs : Array ResultVar) (σ : Nat → CV) (H : Hp) (r : CV × Hp) : Prop := (match omap (resultC E ⟨mk n σ, H⟩) rs.toList with
  | some [c] => some (c, H)
  | some vs => some (.tup vs, H)
  | none => none) = some r

def QR (E : Env) (n : Nat) (rs : Array ResultVar) (P : CV → Hp → Prop) (ex : Ex) (σ : Nat → CV) (H : Hp) : Prop := match ex with
  | .exit _ => False
  | _ => match omap (resultC E ⟨mk n σ, H⟩) rs.toList with
    | some [c] => P c H
    | some vs => P (.tup vs) H
    | none => False

theorem den_of_W0 {d : Nat} {fn : Func} {cd : Code} {args : List CV} {H : Hp} {P : CV → Hp → Prop} (hc : E.code f = some fn) (hb : fn.body = some cd) (hn : fn.ntmps = n) (hl : args.length ≤ n) (rs : Array ResultVar) (hrs : fn.results = rs)
    (h : W E (callV E (den E d)) f n cd (ini args) H (QR E n rs P)) : ∃ c H', den E (d + 1) f args H = endH E f H (some (c, H')) ∧ P c H' := by
  subst hn hrs
  obtain ⟨ex, σ', H', h1, h2⟩ := h.out
  unfold QR at h2
  split at h2
  · cases h2
  · rename_i hex
    have hr : ∃ c, resultsC E fn ⟨mk fn.ntmps σ', H'⟩ = some (c, H') ∧ P c H' := by
      unfold resultsC
      split at h2
      · rename_i c ho; exact ⟨c, by rw [ho], h2⟩
      · rename_i vs hv ho; exact ⟨_, by rw [ho]; cases vs with
          | nil => rfl
          | cons a l => cases l with
            | nil => exact absurd rfl (hv a)
            | cons b l => rfl, h2⟩
      · cases h2
    obtain ⟨c, hr, hp⟩ := hr
    refine ⟨c, H', ?_, hp⟩
    simp only [den, hc, hb, mk_ini args hl, h1]
    cases ex with
    | normal => exact congrArg (endH E f H) hr
    | ret => exact congrArg (endH E f H) hr
    | exit i => exact absurd rfl (hex i)
theorem den_of_W {d : Nat} {fn : Func} {cd : Code} {args : List CV} {H : Hp} {P : CV → Hp → Prop} (hc : E.code f = some fn) (hb : fn.body = some cd) (hn : fn.ntmps = n) (hl : args.length ≤ n) (rs : Array ResultVar) (hrs : fn.results = rs)
    (h : W E (callV E (den E d)) f n cd (ini args) H (QR E n rs P)) (hq : E.rgf f = false := by rfl) : ∃ c H', den E (d + 1) f args H = some (c, H') ∧ P c H' := by
  obtain ⟨c, H', h1, h2⟩ := den_of_W0 hc hb hn hl rs hrs h
  exact ⟨c, H', by rw [h1, endH, hq]; rfl, h2⟩
def updP : List Tmp → List CV → (Nat → CV) → Nat → CV
  | t :: ts, x :: xs, σ => updP ts xs (upd σ t x)
  | _, _, σ => σ
def WXn (ex : Ex) (p : Prop) : Prop := match ex with
  | .normal => p
  | _ => False
def WZn (ex : Ex) (P : LQ → Bool → Prop) : Prop := match ex with
  | .normal => P .ready true
  | e => P (.done e) false
end
attribute [irreducible] WB
end Go.Den
end
