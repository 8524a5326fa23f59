/- Texts on the heap, merged: S6p, S6a. -/
import Derived.Test.YtodfpclekihbhaaG48
import Derived.Deep.LoopGhost
import Derived.Deep.CutRange
/- HeapShares: a part of the walk. -/
namespace Go.Proofs.Ytodfpclekihbhaa
open Go.RowKit Go.Shelf

def findR (n : Nat) : Code → Option Code
  | .region id ops d => if id = n then some (.region id ops d) else none
  | .seq a b => match findR n a with
    | some c => some c
    | none => findR n b
  | .block _ c => findR n c
  | .loop c => findR n c
  | .scope c => findR n c
  | .cond _ a b => match findR n a with
    | some c => some c
    | none => findR n b
  | _ => none
def headR (n : Nat) : Code → Bool
  | .region id _ _ => decide (id = n)
  | _ => false
def findS (n : Nat) : Code → Option Code
  | .seq a b => if headR n a then some (.seq a b) else match findS n a with
    | some c => some c
    | none => findS n b
  | .block _ c => findS n c
  | .loop c => findS n c
  | .scope c => findS n c
  | .cond _ a b => match findS n a with
    | some c => some c
    | none => findS n b
  | _ => none
def testOn (n : Nat) : Operand → Bool
  | .tmp t => decide (t = n)
  | _ => false
def findC (n : Nat) : Code → Option Code
  | .cond c a b => if testOn n c then some (.cond c a b) else match findC n a with
    | some c => some c
    | none => findC n b
  | .seq a b => match findC n a with
    | some c => some c
    | none => findC n b
  | .block _ c => findC n c
  | .loop c => findC n c
  | .scope c => findC n c
  | _ => none
noncomputable def codeA : Code := ((Try.f3.body.bind (findR 23)).getD .skip)
noncomputable def codeB : Code := ((Try.f3.body.bind (findC 131)).getD .skip)
noncomputable def codeC : Code := ((Try.f3.body.bind (findS 39)).getD .skip)
end Go.Proofs.Ytodfpclekihbhaa

/- HeapShares: a part of the walk. -/
namespace Go.Proofs.Ytodfpclekihbhaa
open Go.RowKit Go.Shelf

set_option maxRecDepth 1000000 in
set_option maxHeartbeats 2000000 in
theorem sharesA {t0 t1 t2 t3 t4 t5 t6 t7 t10 t12 t14 t15 t16 t18 t19 t20 t21 t22 t23 t24 t25 t26 t27 t28 t29 t30 t31 t32 t33 t34 t35 t36 t37 t38 t39 t40 t41 t42 t43 t44 t45 t46 t47 t48 t49 t50 t51 t52 t53 t54 t55 t56 t57 t58 t59 t60 t61 t62 t63 t64 t65 t66 t67 t68 t69 t70 t71 t72 t73 t74 t75 t76 t77 t78 t79 t80 t81 t82 t83 t84 t85 t86 t87 t88 t89 t90 t91 t92 t93 t94 t95 t96 t97 t98 t99 t100 t101 t102 t103 t104 t105 t106 t107 t108 t109 t110 t111 t112 t113 t114 t115 t116 t117 t118 t119 t120 t121 t122 t123 t124 t125 t126 t127 t128 t129 t130 t131 t132 t133 t134 t135 t136 t137 t138 t139 t140 t141 t142 t143 t144 t145 t146 t147 t148 t149 t150 t151 t152 t153 t154 t155 t156 t157 t158 t159 t160 t161 t162 t163 t164 t165 t166 t167 t168 t169 t170 t171 t172 t173 t174 t175 t176 t177 t178 t179 t180 t181 t182 t183 t184 t185 t186 t187 t188 t189 t190 t191 t192 t193 t194 t195 t196 t197 t198 t199 t200 t201 t202 t203 t204 t205 t206 t207 t208 t209 t210 t211 t212 t213 t214 t215 t216 t217 t218 t219 t220 t221 t222 t223 t224 t225 t226 t227 t228 t229 t230 t231 t232 t233 t234 t235 t236 t237 t238 t239 t240 t241 t242 t243 t244 t245 t246 t247 t248 t249 t250 t251 t252 t253 t254 t255 t256 : Value} (wa wr w3 : World) (hb j _k m n : Nat) (g9 C9 g8 C8 : Nat) (f t : Nat) (ca cn : Int) (cp : Bool) (Ak : Option Addr) (D Ck : Nat) (AV : Option Addr) (L : Nat) (R : List Int) (rs : List (Nat × Nat)) (vs : List Value) (H2 : Hp) (w5 : World)
  (hm : 0 < m) (hm31 : m ≤ 31)
  (HMM : Hid (rs.length = m ∧ vs.length = m ∧ R.length = n))
  (HCB5 : Hid (w5.heap[wr.heap.size]? = some (.cells #[.int .i64 (f : Int), .int .i64 (t : Int), .int .i64 ca, .int .i64 cn, .bool cp] 37 (0, 0))))
  (H5 : Hid (SA (· = wr.heap.size) wa w5 hb H2 (j + 2) w3.heap.size R (some ⟨g9, 0, none⟩) C9 (numsL m) (some ⟨g8, 0, none⟩) C8 vs))
  (hvo : (Value.slice AV L L).oneCell' = true)
  (hrun : ∀ w, (Instr.slice 33 (.slice Ak D Ck) (some (.int .i64 (f : Int))) (some (.int .i64 (t : Int))) (some (.int .i64 (t : Int)))).run Try.prog w = .ok (.slice AV L L) w)
  {J K' : Act → World → Prop} {Q0 : Exit → Act → World → Prop}
  (hP : ∀ (a : Act) (i : Nat) v ch w, Q0 (.panic ch) (a.put (some i) v) w → Q0 (.panic ch) a w)
  (hJ : ∀ a' w', (∃ u8 u9 u115 u116 u117 u118 u119 u120 u121 u122 u123 u124 u125 u126 u127 u128 u129 : Value, (∃ (ga ca' gb cb' : Nat), u8 = .slice (some ⟨gb, 0, none⟩) (m + 1) cb' ∧ u9 = .slice (some ⟨ga, 0, none⟩) (m + 1) ca' ∧ Hid (SA (· = wr.heap.size) wa w' hb H2 (j + 2) w3.heap.size R (some ⟨ga, 0, none⟩) ca' (numsL m ++ [(m : Int) + 1]) (some ⟨gb, 0, none⟩) cb' (vs ++ [.slice AV L L])) ∧ Hid (w'.heap[wr.heap.size]? = some (.cells #[.int .i64 (f : Int), .int .i64 (t : Int), .int .i64 ca, .int .i64 cn, .bool cp] 37 (0, 0)))) ∧ a' = ⟨#[t0, t1, t2, t3, t4, t5, t6, t7, u8, u9, t10, .pointer (some ⟨wr.heap.size, 0, none⟩), t12, .slice Ak D Ck, t14, t15, t16, .int .i64 ((m : Int) + 1), t18, t19, t20, t21, t22, t23, t24, t25, t26, t27, t28, t29, t30, t31, t32, t33, t34, t35, t36, t37, t38, t39, t40, t41, t42, t43, t44, t45, t46, t47, t48, t49, t50, t51, t52, t53, t54, t55, t56, t57, t58, t59, t60, t61, t62, t63, t64, t65, t66, t67, t68, t69, t70, t71, t72, t73, t74, t75, t76, t77, t78, t79, t80, t81, t82, t83, t84, t85, t86, t87, t88, t89, t90, t91, t92, t93, t94, t95, t96, t97, t98, t99, t100, t101, t102, t103, t104, t105, t106, t107, t108, t109, t110, t111, t112, t113, t114, u115, u116, u117, u118, u119, u120, u121, u122, u123, u124, u125, u126, u127, u128, u129, t130, t131, t132, t133, t134, t135, t136, t137, t138, t139, t140, t141, t142, t143, t144, t145, t146, t147, t148, t149, t150, t151, t152, t153, t154, t155, t156, t157, t158, t159, t160, t161, t162, t163, t164, t165, t166, t167, t168, t169, t170, t171, t172, t173, t174, t175, t176, t177, t178, t179, t180, t181, t182, t183, t184, t185, t186, t187, t188, t189, t190, t191, t192, t193, t194, t195, t196, t197, t198, t199, t200, t201, t202, t203, t204, t205, t206, t207, t208, t209, t210, t211, t212, t213, t214, t215, t216, t217, t218, t219, t220, t221, t222, t223, t224, t225, t226, t227, t228, t229, t230, t231, t232, t233, t234, t235, t236, t237, t238, t239, t240, t241, t242, t243, t244, t245, t246, t247, t248, t249, t250, t251, t252, t253, t254, t255, t256], []⟩) → J a' w') (hK : ∀ a' w', Met J a' w' → K' a' w') :
  Code.wp Try.prog codeA (Exit.then K' Q0) ⟨#[t0, t1, t2, t3, t4, t5, t6, t7, .slice (some ⟨g8, 0, none⟩) m C8, .slice (some ⟨g9, 0, none⟩) m C9, t10, .pointer (some ⟨wr.heap.size, 0, none⟩), t12, .slice Ak D Ck, t14, t15, t16, .int .i64 ((m : Int) + 1), t18, t19, t20, t21, t22, t23, t24, t25, t26, t27, t28, t29, t30, t31, t32, t33, t34, t35, t36, t37, t38, t39, t40, t41, t42, t43, t44, t45, t46, t47, t48, t49, t50, t51, t52, t53, t54, t55, t56, t57, t58, t59, t60, t61, t62, t63, t64, t65, t66, t67, t68, t69, t70, t71, t72, t73, t74, t75, t76, t77, t78, t79, t80, t81, t82, t83, t84, t85, t86, t87, t88, t89, t90, t91, t92, t93, t94, t95, t96, t97, t98, t99, t100, t101, t102, t103, t104, t105, t106, t107, t108, t109, t110, t111, t112, t113, t114, t115, t116, t117, t118, t119, t120, t121, t122, t123, t124, t125, t126, t127, t128, t129, t130, t131, t132, t133, t134, t135, t136, t137, t138, t139, t140, t141, t142, t143, t144, t145, t146, t147, t148, t149, t150, t151, t152, t153, t154, t155, t156, t157, t158, t159, t160, t161, t162, t163, t164, t165, t166, t167, t168, t169, t170, t171, t172, t173, t174, t175, t176, t177, t178, t179, t180, t181, t182, t183, t184, t185, t186, t187, t188, t189, t190, t191, t192, t193, t194, t195, t196, t197, t198, t199, t200, t201, t202, t203, t204, t205, t206, t207, t208, t209, t210, t211, t212, t213, t214, t215, t216, t217, t218, t219, t220, t221, t222, t223, t224, t225, t226, t227, t228, t229, t230, t231, t232, t233, t234, t235, t236, t237, t238, t239, t240, t241, t242, t243, t244, t245, t246, t247, t248, t249, t250, t251, t252, t253, t254, t255, t256], []⟩ w5 := by
  conv => arg 2; whnf
  refine wp_regionG (fun W => W.heap[wr.heap.size]? = some (.cells #[.int .i64 (f : Int), .int .i64 (t : Int), .int .i64 ca, .int .i64 cn, .bool cp] 37 (0, 0))) [] (by kernel_rfl) ?_
  have HSD : Hid (w5.drew.heap[wr.heap.size]? = some (.cells #[.int .i64 (f : Int), .int .i64 (t : Int), .int .i64 ca, .int .i64 cn, .bool cp] 37 (0, 0))) := Lib.hid HCB5.out
  have H5d := Lib.hid (H5.out.below (Below.refl _ _).drew)
  refine wpG_takeY (i := 0) (v := ?v1) rfl (by kernel_rfl) (by kernel_rfl) (by kernel_rfl) (by kernel_rfl) (some 115) rfl (fun _ _ _ h => hP _ _ _ _ _ h) (Or.inl ⟨by rfl, ?y1⟩) (fun _ => HSD.out) ?t1
  case y1 => (intro w; go_simp; try with_reducible rfl)
  refine wpG_takeY (i := 1) (v := ?v2) rfl (by kernel_rfl) (by kernel_rfl) (by kernel_rfl) (by kernel_rfl) (some 116) rfl (fun _ _ _ h => hP _ _ _ _ _ h) (Or.inl ⟨by rfl, ?y2⟩) (fun _ => HSD.out) ?t2
  case y2 => (intro w; go_simp; try with_reducible rfl)
  refine wpG_takeY (i := 4) (v := ?v3) rfl (by kernel_rfl) (by kernel_rfl) (by kernel_rfl) (by kernel_rfl) (some 119) rfl (fun _ _ _ h => hP _ _ _ _ _ h) (Or.inl ⟨by rfl, ?y3⟩) (fun _ => HSD.out) ?t3
  case y3 => (intro w; go_simp; try with_reducible rfl)
  refine wpG_takeY (i := 5) (v := ?v4) rfl (by kernel_rfl) (by kernel_rfl) (by kernel_rfl) (by kernel_rfl) (some 120) rfl (fun _ _ _ h => hP _ _ _ _ _ h) (Or.inl ⟨by rfl, ?y4⟩) (fun _ => HSD.out) ?t4
  case y4 => (intro w; go_simp; try with_reducible rfl)
  refine wpG_takeY (i := 6) (v := ?v5) rfl (by kernel_rfl) (by kernel_rfl) (by kernel_rfl) (by kernel_rfl) (some 121) rfl (fun _ _ _ h => hP _ _ _ _ _ h) (Or.inl ⟨by rfl, ?y5⟩) (fun _ => HSD.out) ?t5
  case y5 => (intro w; go_simp; try with_reducible rfl)
  refine wpG_take (i := 7) (v := ?v6) rfl (by kernel_rfl) (by kernel_rfl) (by kernel_rfl) (by kernel_rfl) (by kernel_rfl) (some 122) rfl (fun _ _ _ h => hP _ _ _ _ _ h) (Or.inl ⟨by rfl, ?y6⟩) HSD.out ?t6
  case y6 => (intro w s0; have s1 := cell_of_heap (v := .int .i64 (f : Int)) s0 (j := 0) rfl; clear s0; go_simp; with_reducible rfl)
  refine wpG_takeY (i := 8) (v := ?v7) rfl (by kernel_rfl) (by kernel_rfl) (by kernel_rfl) (by kernel_rfl) (some 123) rfl (fun _ _ _ h => hP _ _ _ _ _ h) (Or.inl ⟨by rfl, ?y7⟩) (fun _ => HSD.out) ?t7
  case y7 => (intro w; go_simp; try with_reducible rfl)
  refine wpG_take (i := 9) (v := ?v8) rfl (by kernel_rfl) (by kernel_rfl) (by kernel_rfl) (by kernel_rfl) (by kernel_rfl) (some 124) rfl (fun _ _ _ h => hP _ _ _ _ _ h) (Or.inl ⟨by rfl, ?y8⟩) HSD.out ?t8
  case y8 => (intro w s0; have s1 := cell_of_heap (v := .int .i64 (t : Int)) s0 (j := 1) rfl; clear s0; go_simp; with_reducible rfl)
  refine wpG_takeY (i := 10) (v := ?v9) rfl (by kernel_rfl) (by kernel_rfl) (by kernel_rfl) (by kernel_rfl) (some 125) rfl (fun _ _ _ h => hP _ _ _ _ _ h) (Or.inl ⟨by rfl, ?y9⟩) (fun _ => HSD.out) ?t9
  case y9 => (intro w; go_simp; try with_reducible rfl)
  refine wpG_take (i := 11) (v := ?v10) rfl (by kernel_rfl) (by kernel_rfl) (by kernel_rfl) (by kernel_rfl) (by kernel_rfl) (some 126) rfl (fun _ _ _ h => hP _ _ _ _ _ h) (Or.inl ⟨by rfl, ?y10⟩) HSD.out ?t10
  case y10 => (intro w s0; have s1 := cell_of_heap (v := .int .i64 (t : Int)) s0 (j := 1) rfl; clear s0; go_simp; with_reducible rfl)
  refine wpG_takeY (i := 12) (v := ?v11) rfl (by kernel_rfl) (by kernel_rfl) (by kernel_rfl) (by kernel_rfl) (some 127) rfl (fun _ _ _ h => hP _ _ _ _ _ h) (Or.inl ⟨by rfl, ?y11⟩) (fun _ => HSD.out) ?t11
  case y11 => (intro w; go_simp; try with_reducible rfl)
  refine wpG_two (i := 2) (j := 13) (by kernel_rfl) rfl rfl ?p1 ?p2
  case p1 =>
    intro K hK
    go_simp
    have B1 := Lib.hid (box_al (.cells #[.int .i64 ((m : Int) + 1)] 26) HSD.out)
    have A1 := Lib.hid (H5d.out.below ((Below.refl _ _).alloc (Nat.le_refl _) (.cells #[.int .i64 ((m : Int) + 1)] 26)))
    have Q1 := Lib.hid (heap_alloc_new w5.drew (.cells #[.int .i64 ((m : Int) + 1)] 26))
    refine hK _ _ (fun _ => B1.out) ?_
    clear hK K
    refine wpG_two (i := 3) (j := 13) (by kernel_rfl) rfl rfl ?p3 ?p4
    case p3 =>
      intro K hK
      refine step_app9 rfl _ _ rfl A1.out (numsL_len m) ((m : Int) + 1) rfl _ rfl (by first | exact Q1.out | (have h := Q1.out; rw [World.size_alloc] at h; exact h)) (by omega) ?_
      intro ga2 ca2 wn2 A2 KT2
      have B2 := Lib.hid (KT2.out _ _ _ _ B1.out (by decide))
      refine hK _ _ (fun _ => B2.out) ?_
      clear hK K
      refine wpG_one (i := 13) (by kernel_rfl) rfl ?p5
      intro K hK
      go_simp
      have B3 := Lib.hid (box_al (.cells #[.slice AV L L] 33) B2.out)
      have A3 := Lib.hid (A2.out.below ((Below.refl _ _).alloc (Nat.le_refl _) (.cells #[.slice AV L L] 33)))
      have Q3 := Lib.hid (heap_alloc_new wn2 (.cells #[.slice AV L L] 33))
      refine hK _ _ (fun _ => B3.out) ?_
      clear hK K
      refine wpG_one (i := 14) (by kernel_rfl) rfl ?p6
      intro K hK
      refine step_app8 rfl _ _ rfl A3.out HMM.out.2.1 hvo rfl _ rfl (by first | exact Q3.out | (have h := Q3.out; rw [World.size_alloc] at h; exact h)) (by omega) ?_
      intro gb4 cb4 wn4 A4 KT4
      have B4 := Lib.hid (KT4.out _ _ _ _ B3.out (by decide))
      refine hK _ _ (fun _ => B4.out) ?_
      clear hK K
      refine wpG_takeY (i := 15) (v := ?va6) rfl (by kernel_rfl) (by kernel_rfl) (by kernel_rfl) (by kernel_rfl) (some 9) rfl (fun _ _ _ h => hP _ _ _ _ _ h) (Or.inl ⟨by rfl, ?ya6⟩) (fun _ => B4.out) ?ta6
      case ya6 => (intro w; go_simp; try with_reducible rfl)
      refine wpG_takeY (i := 16) (v := ?va7) rfl (by kernel_rfl) (by kernel_rfl) (by kernel_rfl) (by kernel_rfl) (some 8) rfl (fun _ _ _ h => hP _ _ _ _ _ h) (Or.inl ⟨by rfl, ?ya7⟩) (fun _ => B4.out) ?ta7
      case ya7 => (intro w; go_simp; try with_reducible rfl)
      refine wpG_done (by kernel_rfl) ?_ _
      go_wp2
      go_meet
      case rel => exact ⟨ga2, ca2, gb4, cb4, rfl, rfl, A4, B4⟩
    case p4 =>
      intro K hK
      go_simp
      have B8 := Lib.hid (box_al (.cells #[.slice AV L L] 33) B1.out)
      have A8 := Lib.hid (A1.out.below ((Below.refl _ _).alloc (Nat.le_refl _) (.cells #[.slice AV L L] 33)))
      have Q8 := Lib.hid (heap_alloc_new (w5.drew.alloc (.cells #[.int .i64 ((m : Int) + 1)] 26)) (.cells #[.slice AV L L] 33))
      have R8 := Lib.hid (box_al (.cells #[.slice AV L L] 33) Q1.out)
      refine hK _ _ (fun _ => B8.out) ?_
      clear hK K
      refine wpG_one (i := 3) (by kernel_rfl) rfl ?p7
      intro K hK
      refine step_app9 rfl _ _ rfl A8.out (numsL_len m) ((m : Int) + 1) rfl _ rfl (by first | exact R8.out | (have h := R8.out; rw [World.size_alloc] at h; exact h)) (by omega) ?_
      intro ga9 ca9 wn9 A9 KT9
      have B9 := Lib.hid (KT9.out _ _ _ _ B8.out (by decide))
      have R9 := Lib.hid (KT9.out _ _ _ _ Q8.out (by decide))
      refine hK _ _ (fun _ => B9.out) ?_
      clear hK K
      refine wpG_one (i := 14) (by kernel_rfl) rfl ?p8
      intro K hK
      refine step_app8 rfl _ _ rfl A9.out HMM.out.2.1 hvo rfl _ rfl (by first | exact R9.out | (have h := R9.out; rw [World.size_alloc] at h; exact h)) (by omega) ?_
      intro gb10 cb10 wn10 A10 KT10
      have B10 := Lib.hid (KT10.out _ _ _ _ B9.out (by decide))
      refine hK _ _ (fun _ => B10.out) ?_
      clear hK K
      refine wpG_takeY (i := 15) (v := ?va12) rfl (by kernel_rfl) (by kernel_rfl) (by kernel_rfl) (by kernel_rfl) (some 9) rfl (fun _ _ _ h => hP _ _ _ _ _ h) (Or.inl ⟨by rfl, ?ya12⟩) (fun _ => B10.out) ?ta12
      case ya12 => (intro w; go_simp; try with_reducible rfl)
      refine wpG_takeY (i := 16) (v := ?va13) rfl (by kernel_rfl) (by kernel_rfl) (by kernel_rfl) (by kernel_rfl) (some 8) rfl (fun _ _ _ h => hP _ _ _ _ _ h) (Or.inl ⟨by rfl, ?ya13⟩) (fun _ => B10.out) ?ta13
      case ya13 => (intro w; go_simp; try with_reducible rfl)
      refine wpG_done (by kernel_rfl) ?_ _
      go_wp2
      go_meet
      case rel => exact ⟨ga9, ca9, gb10, cb10, rfl, rfl, A10, B10⟩
  case p2 =>
    intro K hK
    go_simp
    have B14 := Lib.hid (box_al (.cells #[.slice AV L L] 33) HSD.out)
    have A14 := Lib.hid (H5d.out.below ((Below.refl _ _).alloc (Nat.le_refl _) (.cells #[.slice AV L L] 33)))
    have Q14 := Lib.hid (heap_alloc_new w5.drew (.cells #[.slice AV L L] 33))
    refine hK _ _ (fun _ => B14.out) ?_
    clear hK K
    refine wpG_one (i := 2) (by kernel_rfl) rfl ?p9
    intro K hK
    go_simp
    have B15 := Lib.hid (box_al (.cells #[.int .i64 ((m : Int) + 1)] 26) B14.out)
    have A15 := Lib.hid (A14.out.below ((Below.refl _ _).alloc (Nat.le_refl _) (.cells #[.int .i64 ((m : Int) + 1)] 26)))
    have Q15 := Lib.hid (heap_alloc_new (w5.drew.alloc (.cells #[.slice AV L L] 33)) (.cells #[.int .i64 ((m : Int) + 1)] 26))
    have R15 := Lib.hid (box_al (.cells #[.int .i64 ((m : Int) + 1)] 26) Q14.out)
    refine hK _ _ (fun _ => B15.out) ?_
    clear hK K
    refine wpG_one (i := 3) (by kernel_rfl) rfl ?pa
    intro K hK
    refine step_app9 rfl _ _ rfl A15.out (numsL_len m) ((m : Int) + 1) rfl _ rfl (by first | exact Q15.out | (have h := Q15.out; rw [World.size_alloc] at h; exact h)) (by omega) ?_
    intro ga16 ca16 wn16 A16 KT16
    have B16 := Lib.hid (KT16.out _ _ _ _ B15.out (by decide))
    have R16 := Lib.hid (KT16.out _ _ _ _ R15.out (by decide))
    refine hK _ _ (fun _ => B16.out) ?_
    clear hK K
    refine wpG_one (i := 14) (by kernel_rfl) rfl ?pb
    intro K hK
    refine step_app8 rfl _ _ rfl A16.out HMM.out.2.1 hvo rfl _ rfl (by first | exact R16.out | (have h := R16.out; rw [World.size_alloc] at h; exact h)) (by omega) ?_
    intro gb17 cb17 wn17 A17 KT17
    have B17 := Lib.hid (KT17.out _ _ _ _ B16.out (by decide))
    refine hK _ _ (fun _ => B17.out) ?_
    clear hK K
    refine wpG_takeY (i := 15) (v := ?va19) rfl (by kernel_rfl) (by kernel_rfl) (by kernel_rfl) (by kernel_rfl) (some 9) rfl (fun _ _ _ h => hP _ _ _ _ _ h) (Or.inl ⟨by rfl, ?ya19⟩) (fun _ => B17.out) ?ta19
    case ya19 => (intro w; go_simp; try with_reducible rfl)
    refine wpG_takeY (i := 16) (v := ?va20) rfl (by kernel_rfl) (by kernel_rfl) (by kernel_rfl) (by kernel_rfl) (some 8) rfl (fun _ _ _ h => hP _ _ _ _ _ h) (Or.inl ⟨by rfl, ?ya20⟩) (fun _ => B17.out) ?ta20
    case ya20 => (intro w; go_simp; try with_reducible rfl)
    refine wpG_done (by kernel_rfl) ?_ _
    go_wp2
    go_meet
    case rel => exact ⟨ga16, ca16, gb17, cb17, rfl, rfl, A17, B17⟩
end Go.Proofs.Ytodfpclekihbhaa

