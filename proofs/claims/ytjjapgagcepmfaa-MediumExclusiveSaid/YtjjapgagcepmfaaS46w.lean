/-
  Chapter 46: awake, run on its concrete inputs.
-/
import Derived.Test.YtjjapgagcepmfaaS46a
namespace Go.Aw.S46
open Go.RowKit Go.Proofs
attribute [local irreducible] AW ACall ARun AEx opA takeA appK evC evL
set_option maxHeartbeats 4000000
set_option maxRecDepth 10000
theorem awake_ok (w0 : World) (n : Nat) (H : Heap) (K : Value → Nat → Heap → Prop) (hk : K (.bool true) n H) : ACall ⟨Try.prog, w0⟩ 9 [] K n H := by
  refine ACall.go Try.func9 rfl Try.ntmps9 Try.results9 (by simp) fun hU hu J0 => ?_
  simp
  repeat first
    | (refine AW.rounds 10 ?_; simp)
    | (refine ACall.run Try.func21 rfl Try.ntmps21 Try.results21 (by simp) fun J0 => ?_; simp)
    | (refine ACall.run Try.func15 rfl Try.ntmps15 Try.results15 (by simp) fun J0 => ?_; simp)
    | (refine ACall.run Try.func10 rfl Try.ntmps10 Try.results10 (by simp) fun J0 => ?_; simp)
    | (refine ACall.run Try.func22 rfl Try.ntmps22 Try.results22 (by simp) fun J0 => ?_; simp)
    | (refine ACall.run Try.func14 rfl Try.ntmps14 Try.results14 (by simp) fun J0 => ?_; simp)
    | (refine ACall.run Try.func18 rfl Try.ntmps18 Try.results18 (by simp) fun J0 => ?_; simp)
    | (refine AW.draw (X := ⟨_, 44, _, _⟩) (id := 2) mixed (.take 0 <| .take 1 <| .take 2 <| .take 3 <| .take 4 <| .take 5 <| .each 6 [0, 1, 2, 3, 4] (.each 7 [0] (.take 8 <| .take 9 <| .each 10 [] (.done) <| .stop) <| .stop) <| .stop) (by kernel_rfl) ?_; simp)
    | (refine AW.draw (X := ⟨_, 44, _, _⟩) (id := 7) mixed (.take 0 <| .take 1 <| .take 2 <| .take 3 <| .take 4 <| .take 5 <| .take 6 <| .take 7 <| .take 8 <| .take 9 <| .each 10 [] (.done) <| .stop) (by kernel_rfl) ?_; simp)
    | (refine AW.draw (X := ⟨_, 32, _, _⟩) (id := 2) mixed (.take 0 <| .take 1 <| .take 2 <| .take 3 <| .take 4 <| .take 5 <| .take 6 <| .take 7 <| .take 8 <| .take 9 <| .take 10 <| .take 11 <| .take 12 <| .take 13 <| .take 14 <| .take 15 <| .take 16 <| .take 17 <| .take 18 <| .take 19 <| .take 20 <| .take 21 <| .take 22 <| .take 23 <| .take 24 <| .done) (by kernel_rfl) ?_; simp)
    | (refine Fin_run ?_; simp)
    | (refine Fin_each ?_; simp)
  refine Fin.same hU (by simp) (by omega) (fun i hi => ?_) hk
  repeat first | (refine (hset_lt (Nat.lt_add_right _ hi) _ _).trans ?_) | (refine (hset_lt hi _ _).trans ?_)
  with_reducible rfl
end Go.Aw.S46
