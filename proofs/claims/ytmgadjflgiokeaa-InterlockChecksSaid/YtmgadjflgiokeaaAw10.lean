/-
  The abstract machine, part 10: operations that read no memory and write none.
-/
import Derived.Test.YtmgadjflgiokeaaAw9
namespace Go.Aw
open Go.RowKit

def pureOp : Op → Bool
  | .move _ | .assign _ | .pick .. | .build .. | .nilCheck _ | .binOp .. | .unOp .. | .fieldAddr .. | .indexAddr .. | .field .. | .index .. | .extract .. | .makeFunc .. | .convert .. | .slice _ _ _ _ none => true
  | .call ⟨.builtin .len, _, _⟩ => true
  | .call ⟨.builtin .max, _, _⟩ => true
  | .call ⟨.builtin .min, _, _⟩ => true
  | _ => false
section
variable {C : Ctx} {N n : Nat} {J : Nat → Nat × Nat} {fr : Fr} {a : Act} {o : Oper} {κ : Value → Prop} {H : Heap}
set_option maxHeartbeats 2000000 in
theorem pure_sound (hf : FrOk N n J fr a) (hp : pureOp o.op = true) (h : opA C (ev fr) o.op (fun v _ _ => κ v) n (fun _ => .dead)) :
    ∃ v, κ v ∧ Und n v ∧ ∀ w, (execOp a.eval o).run C.P w = .ok (.value (ren J v)) w := by
  obtain ⟨dst, op, ty, pos, after, guard⟩ := o
  dsimp only at h hp ⊢
  unfold opA at h
  split at h
  · -- move
    replace h := optK_ex h
    obtain ⟨v, hv, hk⟩ := h
    obtain ⟨e, u⟩ := ev_sound hf hv
    exact ⟨_, hk, u, fun w => by simp [execOp, e]⟩
  · -- assign
    replace h := optK_ex h
    obtain ⟨v, hv, hk⟩ := h
    obtain ⟨e, u⟩ := ev_sound hf hv
    exact ⟨_, hk, u, fun w => by simp [execOp, e]⟩
  · -- pick
    replace h := optK_ex h
    obtain ⟨c, hc, h⟩ := h
    replace h := optK_ex h
    obtain ⟨b, hb, h⟩ := h
    replace h := optK_ex h
    obtain ⟨v1, hv1, h⟩ := h
    replace h := optK_ex h
    obtain ⟨v2, hv2, hk⟩ := h
    obtain rfl := asB_some hb
    obtain ⟨e0, _⟩ := ev_sound hf hc
    obtain ⟨e1, u1⟩ := ev_sound hf hv1
    obtain ⟨e2, u2⟩ := ev_sound hf hv2
    refine ⟨if b then v1 else v2, hk, (by cases b <;> simp [u1, u2]), fun w => ?_⟩
    simp [execOp, e0, e1, e2, asBool]
    cases b <;> simp
  · exact nomatch hp
  · exact nomatch hp
  · -- build
    rename_i t parts
    replace h := optK_ex h
    obtain ⟨ps, hps, h⟩ := h
    replace h := optK_ex h
    obtain ⟨z, hz, h⟩ := h
    replace h := optK_ex h
    obtain ⟨pl, hpl, h⟩ := h
    replace h := optK_ex h
    obtain ⟨cs, hcs, hk⟩ := h
    obtain ⟨e, u⟩ := partsA_some hf _ _ hps
    have hu := (run_build (J := J) (n := n) hz hpl hcs u default).2
    refine ⟨.agg cs.toArray, hk, hu, fun w => ?_⟩
    have e2 : (parts.map fun (i, x) => (i, a.eval x)) = (ps.map fun (i, v) => (i, ren J v)).toArray := by
      rw [← e]; apply Array.ext'; simp
    simp only [execOp, e2, Sem.run_bind, (run_build (J := J) (n := n) hz hpl hcs u w).1, Result.andThen_ok, Sem.run_pure]
  · exact nomatch hp
  · exact nomatch hp
  · exact nomatch hp
  · -- nilCheck
    replace h := optK_ex h
    obtain ⟨p, hp, h⟩ := h
    replace h := optK_ex h
    obtain ⟨v, hv, hk⟩ := h
    obtain ⟨e, u⟩ := ev_sound hf hp
    unfold nilA at hv
    split at hv
    · obtain rfl := Option.some.inj hv
      exact ⟨_, hk, u, fun w => by simp [execOp, e]⟩
    · obtain rfl := Option.some.inj hv
      exact ⟨_, hk, u, fun w => by simp [execOp, e]⟩
    · cases hv
  · -- binOp
    rename_i op' t x' y' ty'
    replace h := optK_ex h
    obtain ⟨x, hx, h⟩ := h
    replace h := optK_ex h
    obtain ⟨y, hy, h⟩ := h
    obtain ⟨e1, _⟩ := ev_sound hf hx
    obtain ⟨e2, _⟩ := ev_sound hf hy
    obtain ⟨v, hr, hv, hk⟩ := binK_run (binHK_dead h) J x' y'
    refine ⟨v, hk, (hv n).1, fun w => ?_⟩
    simp only [execOp, e1, e2]
    rw [Sem.run_bind, hr w, Result.andThen_ok, ren, (hv n).2]
    rfl
  · -- unOp
    replace h := optK_ex h
    obtain ⟨x, hx, h⟩ := h
    replace h := optK_ex h
    obtain ⟨v, hv, hk⟩ := h
    obtain ⟨e1, _⟩ := ev_sound hf hx
    unfold unA at hv
    split at hv
    · obtain rfl := Option.some.inj hv
      exact ⟨_, hk, (by simp), fun w => by simp [execOp, e1, Op.unary]⟩
    · obtain rfl := Option.some.inj hv
      exact ⟨_, hk, (by simp), fun w => by simp [execOp, e1, Op.unary, Op.intArith]⟩
    · cases hv
  · -- fieldAddr
    replace h := optK_ex h
    obtain ⟨p, hp, h⟩ := h
    replace h := optK_ex h
    obtain ⟨b, hb, h⟩ := h
    replace h := optK_ex h
    obtain ⟨off, hoff, hk⟩ := h
    obtain rfl := asA_some hb
    obtain ⟨e, u⟩ := ev_sound hf hp
    refine ⟨.pointer (some (b.add off)), hk, (und_ptr.2 (UndA.add (und_ptr.1 u) _)), fun w => ?_⟩
    rw [ren_ptr] at e
    simp only [execOp, e, Sem.run_bind, run_fieldAt hoff, Result.andThen_ok]
    rw [ren_ptr, renA_add]; rfl
  · -- indexAddr
    replace h := optK_ex h
    obtain ⟨p, hp, h⟩ := h
    replace h := optK_ex h
    obtain ⟨y, hy, h⟩ := h
    replace h := optK_ex h
    obtain ⟨⟨q, i⟩, hi, h⟩ := h
    obtain rfl := asI_some hi
    obtain ⟨e, u⟩ := ev_sound hf hp
    obtain ⟨e2, _⟩ := ev_sound hf hy
    obtain ⟨v, hr, hu, hk⟩ := ixA_run J (q := q) u h
    refine ⟨v, hk, hu, fun w => ?_⟩
    rw [ren_int] at e2
    simp only [execOp, e, e2, Sem.run_bind, hr w, Result.andThen_ok]
    rfl
  · -- field
    replace h := optK_ex h
    obtain ⟨x, hx, h⟩ := h
    replace h := optK_ex h
    obtain ⟨cs, hcs, h⟩ := h
    replace h := optK_ex h
    obtain ⟨⟨u, off⟩, hfld, h⟩ := h
    replace h := optK_ex h
    obtain ⟨v, hv, hk⟩ := h
    obtain ⟨e, hu⟩ := ev_sound hf hx
    cases x <;> simp only [asG, Option.some.injEq, reduceCtorEq] at hcs
    rename_i arr
    subst hcs
    unfold fieldA at hfld
    split at hfld
    · rename_i fs hd
      split at hfld
      · rename_i f hf'
        simp only [Option.some.injEq, Prod.mk.injEq] at hfld
        obtain ⟨rfl, rfl⟩ := hfld
        have hr2 := fun w => partA_run (J := J) hv (fun c hc => und_of_agg hu (by simpa using hc)) w
        refine ⟨v, hk, (hr2 default).2, fun w => ?_⟩
        have hr := (hr2 w).1
        rw [ren_agg] at e
        have e3 : (arr.toList.map (ren J)).toArray = arr.map (ren J) := by apply Array.ext'; simp
        rw [e3] at hr
        simp [execOp, e, Instr.field, run_under hd, hf', asAgg, hr]
      · cases hfld
    · cases hfld
  · -- index
    replace h := optK_ex h
    obtain ⟨x, hx, h⟩ := h
    replace h := optK_ex h
    obtain ⟨y, hy, h⟩ := h
    replace h := optK_ex h
    obtain ⟨⟨q, i⟩, hi, h⟩ := h
    obtain rfl := asI_some hi
    obtain ⟨e, hu⟩ := ev_sound hf hx
    obtain ⟨e2, _⟩ := ev_sound hf hy
    obtain ⟨v, hr, hv, hk⟩ := idxA_run J (q := q) hu h
    rw [ren_int] at e2
    exact ⟨v, hk, hv, fun w => by simp only [execOp, e, e2, Sem.run_bind, hr w, Result.andThen_ok]; rfl⟩
  · -- convert
    replace h := optK_ex h
    obtain ⟨x, hx, h⟩ := h
    replace h := optK_ex h
    obtain ⟨v, hv, hk⟩ := h
    obtain ⟨e, hu⟩ := ev_sound hf hx
    obtain ⟨hr, hv2⟩ := convA_run J hv
    exact ⟨v, hk, hv2 n, fun w => by simp only [execOp, e, Sem.run_bind, hr w, Result.andThen_ok]; rfl⟩
  · -- slice
    replace h := optK_ex h
    obtain ⟨x, hx, h⟩ := h
    replace h := optK_ex h
    obtain ⟨lo', hlo, h⟩ := h
    replace h := optK_ex h
    obtain ⟨hi', hhi, h⟩ := h
    obtain ⟨e, hu⟩ := ev_sound hf hx
    obtain ⟨v, hr, hv, hk⟩ := sliceA_run J hu h
    exact ⟨v, hk, hv, fun w => by simp only [execOp, e, bndA_some hf hlo, bndA_some hf hhi, Option.map_none, Sem.run_bind, sliceAt_run h, hr w, Result.andThen_ok]; rfl⟩
  · exact nomatch hp
  · exact nomatch hp
  · exact nomatch hp
  · exact nomatch hp
  · exact nomatch hp
  · exact nomatch hp
  · exact nomatch hp
  · exact nomatch hp
  · exact nomatch hp
  · -- extract
    rename_i xo idx
    replace h := optK_ex h
    obtain ⟨x, hx, h⟩ := h
    replace h := optK_ex h
    obtain ⟨cs, hcs, h⟩ := h
    replace h := optK_ex h
    obtain ⟨v, hv, hk⟩ := h
    obtain ⟨e, hu⟩ := ev_sound hf hx
    cases x <;> simp only [asT, Option.some.injEq, reduceCtorEq] at hcs
    rename_i arr
    subst hcs
    rw [ren_tuple] at e
    have hv' : arr[idx]? = some v := by simpa using hv
    refine ⟨v, hk, (und_of_tuple hu (Array.mem_of_getElem? hv')), fun w => ?_⟩
    simp [execOp, e, Instr.extract, hv']
  · -- makeFunc
    rename_i f xs ys
    replace h := optK_ex h
    obtain ⟨x, hx, h⟩ := h
    replace h := optK_ex h
    obtain ⟨y, hy, hk⟩ := h
    obtain ⟨e1, u1⟩ := argsA_some hf _ _ hx
    obtain ⟨e2, u2⟩ := argsA_some hf _ _ hy
    refine ⟨_, hk, (und_func.2 ⟨by simpa using u1, by simpa using u2⟩), fun w => ?_⟩
    have e3 : xs.map a.eval = (x.map (ren J)).toArray := by rw [← e1]; apply Array.ext'; simp
    have e4 : ys.map a.eval = (y.map (ren J)).toArray := by rw [← e2]; apply Array.ext'; simp
    simp [execOp, Instr.makeFunc, e3, e4]
  · exact nomatch hp
  · -- builtin
    rename_i b args ts
    replace h := optK_ex h
    obtain ⟨vs, hvs, h⟩ := h
    obtain ⟨e1, u1⟩ := argsA_some hf _ _ hvs
    have e3 : args.map a.eval = (vs.map (ren J)).toArray := by rw [← e1]; apply Array.ext'; simp
    unfold builtinA at h
    split at h
    · -- len
      rename_i t _ v _ hts
      replace h := optK_ex h
      obtain ⟨l, hl, hk⟩ := h
      refine ⟨.int .i64 l, hk, (by simp), fun w => ?_⟩
      have ht0 : ts[0]? = some t := by rw [← Array.getElem?_toList, hts]; rfl
      simp only [execOp, resolve, e3, Sem.run_bind, Sem.run_pure, Result.andThen_ok, invoke, builtin]
      have hl2 := lenH_case hl
      clear hl
      rcases hl2 with hl | ⟨q, hq, hl⟩
      rotate_left
      · unfold lenM at hl
        split at hl
        · split at hl
          · cases hl
          · cases hl
        · cases hl
      unfold lenA at hl
      split at hl
      · rename_i s htk
        obtain rfl := Option.some.inj hl
        simp [Builtin.len_, ht0, run_under (tk_string htk), goInt]
      · rename_i m _ htk
        obtain rfl := Option.some.inj hl
        obtain ⟨e, hu⟩ := tk_array htk
        simp [Builtin.len_, ht0, run_under hu, goInt]
      · rename_i A l c htk
        obtain rfl := Option.some.inj hl
        obtain ⟨e, hu⟩ := tk_slice htk
        simp [Builtin.len_, ht0, run_under hu, goInt, ren_slice_map]
      · rename_i htk
        obtain rfl := Option.some.inj hl
        obtain ⟨k', e, hu⟩ := tk_map htk
        simp [Builtin.len_, ht0, run_under hu, goInt]
      · cases hl
    · rename_i hts; cases ts; simp_all [pureOp]
    · rename_i hts; cases ts; simp_all [pureOp]
    · rename_i hts; cases ts; simp_all [pureOp]
    · rename_i hts; cases ts; simp_all [pureOp]
    · rename_i hts; cases ts; simp_all [pureOp]
    · rename_i q x q' y
      exact ⟨.int q (if x < y then y else x), h, by simp, fun w => by simp [execOp, resolve, e3, invoke, builtin, Builtin.max_, Builtin.max2]⟩
    · rename_i q x q' y
      exact ⟨.int q (if y < x then y else x), h, by simp, fun w => by simp [execOp, resolve, e3, invoke, builtin, Builtin.min_, Builtin.min2]⟩
    · exact h.elim
  · exact h.elim
end
end Go.Aw
