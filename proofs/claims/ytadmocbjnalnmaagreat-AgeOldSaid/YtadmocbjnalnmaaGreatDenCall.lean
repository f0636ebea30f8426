/- Calls do what the interpreter tells. -/
import Derived.Test.YtadmocbjnalnmaaGreatDenProg
import Derived.Test.YtadmocbjnalnmaaGreatDenDrawD
set_option linter.all false
set_option linter.unusedVariables false
set_option linter.unusedSimpArgs false
namespace Go.Den
open Go.RowKit

section
variable {P : Program} {E : Env} {base : Nat}
def CallRaw (P : Program) (E : Env) (call : FuncId → List CV → Hp → Option (CV × Hp)) : Prop :=
  ∀ f args H c H', call f args H = some (c, H') → Enters P f ∧
    ∀ base st μ w vs, Sim base st H μ w → Gl E st w → VRels μ st w args vs → Free H μ → Calls P f vs.toArray w fun e w' => ∃ v, e = .returned v ∧ WPost base st H μ w H' c v w'
structure EnvOk (P : Program) (E : Env) : Prop where
  ty : ∀ t i, E.ty t = some i → tyOf P t = some i
  code : ∀ f fn, E.code f = some fn → P.funcs[f]? = some fn ∧ (fn.name == "runtime.NumGoroutine") = false
  prim : ∀ f p, E.prim f = some p → ∀ args H c H', p args H = some (c, H') → Enters P f ∧
    ∀ base st μ w vs, Sim base st H μ w → Gl E st w → VRels μ st w args vs → Free H μ → Calls P f vs.toArray w fun e w' => ∃ v, e = .returned v ∧ WPost base st H μ w H' c v w'
  primR : ∀ f p, E.prim f = some p → E.primR f = true → ∀ args H c H', p args H = some (c, H') → (∃ news, H' = H ++ news) ∧
    ∀ base st μ w vs, Sim base st H μ w → Gl E st w → VRels μ st w args vs → (∀ id, H.length ≤ id → id < H'.length → μ id = none) → Calls P f vs.toArray w fun e w' => ∃ v, e = .returned v ∧ RPost base st H μ w H' c v w'
  mixed : P.follows .mixedOrders = true
theorem body_sound (hE : EnvOk P E) {call : FuncId → List CV → Hp → Option (CV × Hp)} (hR : CallR P E call) (hW : CallW P E call) {f : FuncId} {fn : Func} {cd : Code} (hcode : E.code f = some fn) (hb : fn.body = some cd)
    {args : List CV} {H : Hp} {ex : Ex} {s1 : St} (hex : ex = .ret ∨ ex = .normal) (h : runC E call f cd ⟨args ++ List.replicate (fn.ntmps - args.length) (.v undef), H⟩ = some (ex, s1)) {c : CV} {H' : Hp} (hr : resultsC E fn s1 = some (c, H'))
    {st : Nat → Prop} {μ : Mu} {w : World} {vs : List Value} (hs : Sim base st H μ w) (hg : Gl E st w) (hv : VRels μ st w args vs) (hf : Free H μ) :
    Calls P f vs.toArray w fun e w' => ∃ v, e = .returned v ∧ WPost base st H μ w H' c v w' := by
  refine calls_of_wp (hE.code f fn hcode).1 hb ?_
  refine runC_sound hE.ty hR hW (draw_sound hE.mixed hE.ty call hR hW) f cd _ ex s1 _ _ w st μ h hs hg ?_ hf ?_
  · have : (vs.toArray ++ Array.replicate (fn.ntmps - vs.toArray.size) undef).toList = vs ++ List.replicate (fn.ntmps - args.length) undef := by simp [hv.len]
    rw [this]
    exact hv.append (VRels.replicate (by simp only [VRel]) _)
  · intro a' w' μ' st' h1 h2 h3
    obtain ⟨rfl, v, h4, h5⟩ := resultsC_run (P := P) hE.ty h1.sim h2 hr
    rcases hex with rfl | rfl
    · exact ⟨h3, v, h4, v, rfl, μ', st', h1, h5⟩
    · exact ⟨h3, v, h4, v, rfl, μ', st', h1, h5⟩

theorem enters_of (hE : EnvOk P E) {f : FuncId} {fn : Func} {cd : Code} (hcode : E.code f = some fn) (hb : fn.body = some cd) : Enters P f :=
  ⟨fn, (hE.code f fn hcode).1, (hE.code f fn hcode).2, by rw [hb]; rfl⟩

theorem den_raw (hE : EnvOk P E) {d : Nat} (hR : CallR P E (callV E (den E d))) (hW : CallW P E (callV E (den E d))) : CallRaw P E (den E (d + 1)) := by
  intro f args H c H' h
  simp only [den] at h
  split at h
  rotate_left
  · cases h
  rename_i fn hcode
  split at h
  rotate_left
  · cases h
  rename_i cd hb
  refine ⟨enters_of hE hcode hb, fun base st μ w vs hs hg hv hf => ?_⟩
  split at h
  · rename_i s1 hrun
    exact body_sound hE hR hW hcode hb (.inl rfl) hrun h hs hg hv hf
  · rename_i s1 hrun
    exact body_sound hE hR hW hcode hb (.inr rfl) hrun h hs hg hv hf
  · cases h
theorem omap_length {α β : Type} {f : α → Option β} : ∀ {l : List α} {r : List β}, omap f l = some r → r.length = l.length
  | [], r, h => by simp only [omap, Option.some.injEq] at h; subst h; rfl
  | a :: l, r, h => by
    simp only [omap] at h
    split at h
    · split at h
      · rename_i hb; cases h; simp [omap_length hb]
      · cases h
    · cases h
theorem omap_get {α β : Type} {f : α → Option β} : ∀ {l : List α} {r : List β}, omap f l = some r → ∀ {j : Nat} {a : α}, l[j]? = some a → ∃ b, r[j]? = some b ∧ f a = some b
  | [], r, h, j, a, hj => by simp at hj
  | x :: l, r, h, j, a, hj => by
    simp only [omap] at h
    split at h
    · rename_i b hb
      split at h
      · rename_i bs hbs
        cases h
        cases j with
        | zero => simp at hj; subst hj; exact ⟨b, rfl, hb⟩
        | succ j => simpa using omap_get hbs (by simpa using hj)
      · cases h
    · cases h
theorem snap_rel {H : Hp} {st st0 : Nat → Prop} {μ : Mu} {w : World} (hs : Sim base st H μ w) (hst : ∀ b, st b → st0 b) : ∀ (k : Nat) (c c' : CV) (v : Value), snap H k c = some c' → VRel μ st w c v →
    (∀ id ∈ ids H k c, ∀ r, getRow H id = some r → ∀ h, μ id = some h → st0 h.g) → VRel (fun _ => none) st0 w c' v
  | 0, c, c', v, h, _, _ => by simp [snap] at h
  | k + 1, c, c', v, h, hv, hi => by
    have list : ∀ (cs cs' : List CV) (us : List Value), omap (snap H k) cs = some cs' → VRels μ st w cs us → (∀ c ∈ cs, ∀ id ∈ ids H k c, ∀ r, getRow H id = some r → ∀ h, μ id = some h → st0 h.g) → VRels (fun _ => none) st0 w cs' us := by
      intro cs cs' us h1 h2 h3
      refine VRels.of_get (by rw [h2.len, omap_length h1]) fun j c2 u hc2 hu => ?_
      obtain ⟨c1, hc1, hr⟩ := h2.get' hu
      obtain ⟨c3, hc3, hsn⟩ := omap_get h1 hc1
      rw [hc2] at hc3
      cases hc3
      exact snap_rel hs hst k c1 c2 u hsn hr (h3 c1 (List.mem_of_getElem? hc1))
    cases c <;> simp only [snap] at h <;> try (cases h; done)
    case v x => cases h; simp only [VRel] at hv ⊢; exact hv
    case agg cs =>
      simp only [Option.map_eq_some_iff] at h
      obtain ⟨cs', h1, rfl⟩ := h
      simp only [VRel] at hv ⊢
      obtain ⟨us, rfl, hv⟩ := hv
      exact ⟨us, rfl, list cs cs' us h1 hv fun c hc id hid => hi id (by simp only [ids, List.mem_flatMap]; exact ⟨c, hc, hid⟩)⟩
    case ro cs n =>
      cases h
      simp only [VRel] at hv ⊢
      obtain ⟨A, cap, us, rfl, h1, h2, h3, h4, h5⟩ := hv
      exact ⟨A, cap, us, rfl, h1, h2, h3.mono (fun _ _ h => h) hst (fun _ _ => rfl), fun j x hj => by obtain ⟨ad, e1, e2, e3⟩ := h4 j x hj; exact ⟨ad, e1, hst _ e2, e3⟩, h5⟩
    case cut id off n sz =>
      split at h
      · rename_i hn
        subst hn
        cases h
        simp only [VRel] at hv ⊢
        obtain ⟨A, rfl, h1, _, h5⟩ := hv
        exact ⟨A, rfl, h1, .inl (by first | rfl | trivial), h5⟩
      · cases h
    case own id off n sz =>
      split at h
      · rename_i r hr
        split at h
        · rename_i hfit
          simp only [Option.map_eq_some_iff] at h
          obtain ⟨cs', h1, rfl⟩ := h
          simp only [VRel] at hv ⊢
          obtain ⟨A, cap, rfl, hn, hc, hcap, hA⟩ := hv
          rcases hcap with hcap | ⟨hh, hm, rfl, hb⟩
          · have hn0 : n = 0 := by omega
            subst hn0
            simp only [Nat.zero_mul, List.take_zero, omap, Option.some.injEq] at h1
            subst h1
            exact ⟨A, cap, [], rfl, by omega, hc, VRels.nil, fun j x hj => by simp at hj, hA⟩
          · obtain ⟨_, cur, hcur, ht, vs, hrv, hrx⟩ := hs.rowC hr hm
            have hsub : VRels μ st w ((r.cells.drop off).take (n * sz)) ((vs.drop off).take (n * sz)) := (hrv.drop _).take _
            refine ⟨_, cap, (vs.drop off).take (n * sz), rfl, hn, hc, list _ _ _ h1 hsub (fun c hcm id' hid => hi id' ?_), fun j x hj => ⟨_, rfl, hi id (by simp [ids]) r (getR_row hr).1 hh hm, ?_⟩, by simp⟩
            · simp only [ids, hr, List.mem_cons, List.mem_flatMap]
              exact .inr ⟨c, hcm, hid⟩
            · rw [List.getElem?_take] at hj
              split at hj
              · exact row_cell hcur hrx j x hj
              · cases hj
        · cases h
      · cases h
end

end Go.Den
