/- Part of the proof of LabelMakesCardSaid. -/
import Derived.Test.YtclnbgdojccheaaGreatDoorLabCard4M22
import Derived.Test.YtclnbgdojccheaaGreatDoorLabCard4M20
section
set_option linter.all false
set_option linter.unusedVariables false
set_option linter.unusedSimpArgs false
set_option maxRecDepth 100000
set_option maxHeartbeats 8000000
attribute [local irreducible] Go.Den.W Go.Den.WL Go.Den.WX Go.Den.WQ Go.Den.QR Go.Den.WG Go.Den.WO Go.Den.WK Go.Den.grows Go.Den.stepOp Go.Den.callV Go.Den.den
namespace Go.Age
open Go.Den Go.Proofs
def SnL (H : Hp) (v : CV) (l : List ByteArray) : Prop := (∃ nb, ∀ k, snap H (k + 2) v = some (sl nb (l.map strC) l.length)) ∧ CV.leaf v = true ∧ CV.cells v = [v]
theorem HasL.snl {H : Hp} {v : CV} {l : List ByteArray} (h : HasL H v l) : SnL H v l := ⟨⟨_, h.sn⟩, h.lf⟩
def Changes (d : Nat) (g : FuncId) (y : Int) (o : ByteArray) (s : Int) (l : List ByteArray) (y' : Int) (o' : ByteArray) (l' : List ByteArray) : Prop :=
  ∀ (H T : Hp) (v : CV), HasL (H ++ .row ⟨[i64 y, strC o, i64 s, v], 40, 4, true⟩ :: T) v l → ∃ v', callV E (den E d) g [.op H.length 0] (H ++ .row ⟨[i64 y, strC o, i64 s, v], 40, 4, true⟩ :: T) = some (.tup [], H ++ .row ⟨[i64 y', strC o', i64 s, v'], 40, 4, true⟩ :: T) ∧ SnL (H ++ .row ⟨[i64 y', strC o', i64 s, v'], 40, 4, true⟩ :: T) v' l'
abbrev noSuch : ByteArray := ⟨#[110, 111, 32, 115, 117, 99, 104, 32, 111, 114, 105, 103, 105, 110]⟩
theorem l22 (d : Nat) (x : LabD) (b : Bool) (hl : x.al.length ≤ 100000) : ∃ H0, den E (d + 2) 22 [.agg x.cells, .agg ({ x with nilA := b } : LabD).cells] [] = some (bl true, H0) := by
  have k16 : ∀ H, callV E (den E (d + 1)) 16 [sl x.nilA (x.al.map strC) x.al.length, sl b (x.al.map strC) x.al.length] H = some (bl true, H) := fun H => callV_plain rfl rfl rfl (by simp (disch := omega) only [go_sem, seval]) (l16 d x.nilA b x.al hl) rfl
  have e := strEq_self x.org
  refine den_ex Tryz.func22 rfl Tryz.ntmps22 (by simp) _ Tryz.results22 ?_
  repeat' (first | refine i_seq ?_ | refine k_seq ?_ | refine i_region ?_ | refine l_o ?_ | refine l_nil ?_ | (show RD _ _; refine e_do (by simp (disch := omega) only [go_sem, seval, k16, e]; exact IsX.mk) ?_) | refine s_f ?_ | refine f_s ?_ | refine f_n ?_ | refine st2 ?_)
  rfl
theorem cl22s (d : Nat) (y s : Int) (o : ByteArray) (al : List ByteArray) {H : Hp} {v v' : CV} (hl : al.length ≤ 100000) (h : SnL H v al) (h' : SnL H v' al) : callV E (den E (d + 2)) 22 [.agg [i64 y, strC o, i64 s, v], .agg [i64 y, strC o, i64 s, v']] H = some (bl true, H) := by
  obtain ⟨⟨b, h1⟩, _⟩ := h
  obtain ⟨⟨b', h2⟩, _⟩ := h'
  exact callV_plain (args' := [.agg (⟨y, o, s, b, al⟩ : LabD).cells, .agg (⟨y, o, s, b', al⟩ : LabD).cells]) rfl rfl rfl (by simp (disch := omega) only [go_sem, seval, h1, h2]) (l22 d ⟨y, o, s, b, al⟩ b' hl) rfl
end Go.Age
end
