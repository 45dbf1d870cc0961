/- The law's contract in the row's words. -/
import Derived.Test.YtidggficpcdpoaaGreatDoorRowA
import Derived.Test.YtidggficpcdpoaaGreatDoorCards
import Derived.Test.YtidggficpcdpoaaGreatDoorTie
import Derived.WalkKit
import Derived.ProofKit
import Derived.OpenShut
import Derived.Deep.DeepHandedRow
import Derived.LaidHandle
import Derived.SevenTiedAt

namespace Go.Proofs.YtidggficpcdpoaaGreatDoor
open Go.ChangeShapes Go.WideShapes Go.ChangeAt Go.RowKit

theorem own : ownKnob Tryz.prog.godebug = none := by kernel_rfl
theorem laidOut : laidOutB Tryz.prog = true := by kernel_rfl
theorem read24 : Tryz.prog.readableRec 24 = true := by kernel_rfl
theorem read3 : Tryz.prog.readableRec 3 = true := by kernel_rfl
theorem row24 : 24 < Tryz.prog.types.size := of_decide_eq_true (by kernel_rfl)
theorem row3 : 3 < Tryz.prog.types.size := of_decide_eq_true (by kernel_rfl)

theorem below_trod {H : Type} {enc : TypeId × Value → H} {t : TypeId} (hr : Tryz.prog.readableRec t = true) (hrow : t < Tryz.prog.types.size) {W W' : World} {v : Value} {d : DataW H} {ps : List MemPlace}
    (h : DataW.Trod enc Tryz.prog W 0 (fun _ => true) true t v d ps) (hb : Below W.heap.size W W') (hlt : ∀ x ∈ ps, x.block < W.heap.size) (sp : Nat → Bool) (hsp : ∀ p ∈ ps, sp p.block = true) :
    DataW.Trod enc Tryz.prog W' 0 sp true t v d ps :=
  WideElems.Trod_stays laidOut hr hrow h (fun x hx => hb.same (hlt x hx)) hsp

end Go.Proofs.YtidggficpcdpoaaGreatDoor

namespace Go.Proofs.YtidggficpcdpoaaGreatDoor
open Go.ChangeShapes Go.WideShapes Go.ChangeAt Go.RowKit

set_option maxRecDepth 100000 in
theorem contract (H : Type) (enc : TypeId × Value → H) (W : World) (base : Nat) (args : Array Value) (ds gs : List (DataW H)) (before : List MemPlace)
    (hval : ∀ (j : Nat) t v, Tryz.f3.params[j]? = some t → args[j]? = some v → Value.okWide Tryz.prog W .any base t v)
    (hW : DataW.Whole enc Tryz.prog Tryz.f3.params.toList Rows.worldBoundsSpec.vars false W args.toList ds gs before) :
    Calls Tryz.prog 3 args W fun e W' => ∃ v, e = .returned v ∧ Rows.worldBoundsSpec.post enc Tryz.prog Tryz.f3 false true false false W args v W' := by
  have hW' := hW
  have hlt := hW.lt
  obtain ⟨p, q, hA0, hV, rfl, hfz, hnd⟩ := hW
  have hA : DataW.TrodAll enc Tryz.prog W 0 (fun _ => true) true Tryz.f3.params.toList args.toList ds p := hA0
  rw [Tryz.params3] at hA hval
  obtain ⟨v0, vs0, d0, ds0, p0, q0, hargs, rfl, rfl, h0, r0⟩ := trodAll_cons hA
  obtain ⟨v1, vs1, d1, ds1, p1, q1, rfl, rfl, rfl, h1, r1⟩ := trodAll_cons r0
  obtain ⟨v2, vs2, d2, ds2, p2, q2, rfl, rfl, rfl, h2, r2⟩ := trodAll_cons r1
  obtain ⟨v3, vs3, d3, ds3, p3, q3, rfl, rfl, rfl, h3, r3⟩ := trodAll_cons r2
  obtain ⟨rfl, rfl, rfl⟩ := trodAll_nil r3
  obtain rfl : args = #[v0, v1, v2, v3] := by cases args; simp_all
  obtain ⟨rfl, rfl⟩ := trodVars_none hV
  obtain ⟨u0, c1, c2, c3, c4, c5, c6, c7, c8, c9, c10, c11, rfl, hviews⟩ := cfg_open (hval 0 24 v0 rfl rfl) h0
  obtain ⟨t, rfl, rfl, rfl, wt⟩ := open_int Tryz.underlying3 (hval 1 3 v1 rfl rfl) h1
  obtain ⟨b, rfl, rfl, rfl, wb⟩ := open_int Tryz.underlying3 (hval 2 3 v2 rfl rfl) h2
  obtain ⟨c, rfl, rfl, rfl, wc⟩ := open_int Tryz.underlying3 (hval 3 3 v3 rfl rfl) h3
  clear hA0
  simp only [List.append_nil] at hW' hlt
  have e1 : (Rows.worldBoundsSpec.fn H ([d0, .lit (.int .i64 t), .lit (.int .i64 b), .lit (.int .i64 c)] ++ [])) = { results := [.lit (.bool true)], args := [d0, .lit (.int .i64 t), .lit (.int .i64 b), .lit (.int .i64 c)] } := by
    simp [Rows.worldBoundsSpec]
  refine (law_any u0 c1 c2 c3 c4 c5 c6 c7 c8 c9 c10 c11 t b c W hviews).mono fun e W' ⟨he, hg⟩ => ?_
  subst he
  refine ⟨_, rfl, _, _, _, [], p0, [], hW', ?_, ?_, ?_, hg.frame _, fun h => by cases h⟩
  · rw [e1]; exact trodAll_cons_mk (shut_bool Tryz.underlying4 true) trodAll_mk0
  · rw [e1]
    have hh := trodAll_cons_mk (below_trod read24 row24 h0 hg (fun x hx => hlt x hx) (fun b => decide (b < W.heap.size)) (fun x hx => decide_eq_true (hlt x hx))) (trodAll_cons_mk (shut_int Tryz.underlying3 wt) (trodAll_cons_mk (shut_int Tryz.underlying3 wb) (trodAll_cons_mk (shut_int Tryz.underlying3 wc) trodAll_mk0)))
    simp only [List.append_nil] at hh
    rw [Tryz.params3]
    exact hh
  · rw [e1]; rfl
end Go.Proofs.YtidggficpcdpoaaGreatDoor
