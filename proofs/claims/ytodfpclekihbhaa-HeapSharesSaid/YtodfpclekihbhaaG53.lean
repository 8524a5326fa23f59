/- HeapShares: a part of the walk. -/
import Derived.Test.YtodfpclekihbhaaG49
namespace Go.Proofs.Ytodfpclekihbhaa
open Go.RowKit Go.Shelf

set_option maxRecDepth 1000000 in
set_option maxHeartbeats 2000000 in
theorem sharesB2y {t0 t1 t2 t3 t4 t6 t7 t10 t12 t15 t16 t18 t19 t20 t21 t22 t23 t24 t25 t26 t27 t28 t29 t30 t31 t32 t33 t34 t35 t36 t37 t38 t39 t40 t41 t42 t43 t44 t45 t46 t47 t48 t49 t50 t51 t52 t53 t54 t55 t56 t57 t58 t59 t60 t61 t62 t63 t64 t65 t66 t67 t68 t69 t70 t71 t72 t73 t74 t75 t76 t77 t78 t79 t80 t81 t82 t83 t84 t85 t86 t87 t88 t89 t90 t91 t92 t93 t94 t95 t96 t97 t98 t99 t100 t101 t102 t103 t104 t105 t106 t107 t108 t109 t110 t111 t112 t113 t114 t115 t116 t117 t118 t119 t120 t121 t122 t123 t124 t125 t126 t127 t128 t129 t130 t132 t133 t134 t135 t136 t137 t138 t139 t140 t141 t142 t143 t144 t145 t146 t147 t148 t149 t150 t151 t152 t153 t154 t155 t156 t157 t158 t159 t160 t161 t162 t163 t164 t165 t166 t167 t168 t169 t170 t171 t172 t173 t174 t175 t176 t177 t178 t179 t180 t181 t182 t183 t184 t185 t186 t187 t188 t189 t190 t191 t192 t193 t194 t195 t196 t197 t198 t199 t200 t201 t202 t203 t204 t205 t206 t207 t208 t209 t210 t211 t212 t213 t214 t215 t216 t217 t218 t219 t220 t221 t222 t223 t224 t225 t226 t227 t228 t229 t230 t231 t232 t233 t234 t235 t236 t237 t238 t239 t240 t241 t242 t243 t244 t245 t246 t247 t248 t249 t250 t251 t252 t253 t254 t255 t256 : Value} (wa wr w3 : World) (hb j k m n : Nat) (_g9 _C9 _g8 _C8 : Nat) (f t : Nat) (ca cn : Int) (Ak : Option Addr) (D Ck : Nat) (AV : Option Addr) (L : Nat) (R : List Int) (rs : List (Nat × Nat)) (vs : List Value) (H2 : Hp) (wc : World) (ga ca' gb cb' : Nat)
  (hm : 0 < m) (hmj : m ≤ j + 1) (hkm : k < m) (_hn3 : n ≤ 30) (hj30 : j ≤ 30) (hft : f ≤ t) (htD : t ≤ D) (hD30 : D ≤ 30) (_hcap : D ≤ Ck) (hkr : k < rs.length)
  (_hAk : 0 < Ck → Ak = some ⟨w3.heap.size, (rs[k]'hkr).1, none⟩) (_hAn : Ak ≠ none)
  (HD : Hid (D = (rs[k]'hkr).2 - (rs[k]'hkr).1)) (HLL : Hid (L = t - f))
  (HPV : Hid (PV w3.heap.size (.slice AV L L) ((rs[k]'hkr).1 + f, (rs[k]'hkr).1 + t)))
  (HMM : Hid (rs.length = m ∧ vs.length = m ∧ R.length = n))
  (HS6 : Hid (SA (· = wr.heap.size) wa wc hb H2 (j + 2) w3.heap.size R (some ⟨ga, 0, none⟩) ca' (numsL (m + 1)) (some ⟨gb, 0, none⟩) cb' (vs ++ [.slice AV L L])))
  (HHX : Hid (Sh H2 R (rs ++ [((rs[k]'hkr).1 + f, (rs[k]'hkr).1 + t)]) ∧ (rs ++ [((rs[k]'hkr).1 + f, (rs[k]'hkr).1 + t)]).length = m + 1 ∧ (vs ++ [Value.slice AV L L]).length = m + 1 ∧ R.length = n))
  (HB6 : Hid (wc.heap[wr.heap.size]? = some (.cells #[.int .i64 (f : Int), .int .i64 (t : Int), .int .i64 ca, .int .i64 cn, .bool false] 37 (0, 0))))
  (bp : ¬ (ca < 0 ∨ ((t : Int) - f) ≤ ca))
  {J K' K1 : Act → World → Prop} {Q0 : Exit → Act → World → Prop}
  (hJ : ∀ a' w', (∃ u4 u19 u20 u130 u131 u132 u133 u134 u135 u136 u137 u138 u139 u140 u141 u142 u143 u144 u145 u146 u147 u148 u149 u150 u151 u152 u153 u154 u155 u156 u157 u158 u159 u160 u161 u162 u163 u164 u165 u166 u167 u168 u169 u170 u171 u172 u173 u174 u175 u176 u177 u178 u179 u180 u181 u182 u183 u184 u185 u186 u187 u188 u189 u190 u191 u192 u193 u194 u195 u196 u197 u198 u199 u200 u201 u202 u203 u204 : Value, (∃ (H3 : Hp) (R3 : List Int), Hid (SA (fun _ => False) wa w' hb H3 (j + 2) w3.heap.size R3 (some ⟨ga, 0, none⟩) ca' (numsL (m + 1)) (some ⟨gb, 0, none⟩) cb' (vs ++ [.slice AV L L])) ∧ Hid (Sh H3 R3 (rs ++ [((rs[k]'hkr).1 + f, (rs[k]'hkr).1 + t)]) ∧ R3.length = n)) ∧ a' = ⟨#[t0, t1, t2, t3, u4, .pointer (some ⟨hb, 0, none⟩), t6, t7, .slice (some ⟨gb, 0, none⟩) (m + 1) cb', .slice (some ⟨ga, 0, none⟩) (m + 1) ca', t10, .pointer (some ⟨wr.heap.size, 0, none⟩), t12, .slice Ak D Ck, .int .i64 ((k : Int) + 1), t15, t16, .int .i64 ((m : Int) + 1), t18, u19, u20, t21, t22, t23, t24, t25, t26, t27, t28, t29, t30, t31, t32, t33, t34, t35, t36, t37, t38, t39, t40, t41, t42, t43, t44, t45, t46, t47, t48, t49, t50, t51, t52, t53, t54, t55, t56, t57, t58, t59, t60, t61, t62, t63, t64, t65, t66, t67, t68, t69, t70, t71, t72, t73, t74, t75, t76, t77, t78, t79, t80, t81, t82, t83, t84, t85, t86, t87, t88, t89, t90, t91, t92, t93, t94, t95, t96, t97, t98, t99, t100, t101, t102, t103, t104, t105, t106, t107, t108, t109, t110, t111, t112, t113, t114, t115, t116, t117, t118, t119, t120, t121, t122, t123, t124, t125, t126, t127, t128, t129, u130, u131, u132, u133, u134, u135, u136, u137, u138, u139, u140, u141, u142, u143, u144, u145, u146, u147, u148, u149, u150, u151, u152, u153, u154, u155, u156, u157, u158, u159, u160, u161, u162, u163, u164, u165, u166, u167, u168, u169, u170, u171, u172, u173, u174, u175, u176, u177, u178, u179, u180, u181, u182, u183, u184, u185, u186, u187, u188, u189, u190, u191, u192, u193, u194, u195, u196, u197, u198, u199, u200, u201, u202, u203, u204, t205, t206, t207, t208, t209, t210, t211, t212, t213, t214, t215, t216, t217, t218, t219, t220, t221, t222, t223, t224, t225, t226, t227, t228, t229, t230, t231, t232, t233, t234, t235, t236, t237, t238, t239, t240, t241, t242, t243, t244, t245, t246, t247, t248, t249, t250, t251, t252, t253, t254, t255, t256], []⟩) → J a' w') (hK : ∀ a' w', Met J a' w' → K' a' w')
  (_hC : ∀ (u4 u19 u20 u130 u131 u132 u133 u134 u135 u136 u137 u138 u139 u140 u141 u142 u143 u144 u145 u146 u147 u148 u149 u150 u151 u152 u153 u154 u155 u156 u157 u158 u159 u160 u161 u162 u163 u164 u165 u166 u167 u168 u169 u170 u171 u172 u173 u174 u175 u176 u177 u178 u179 u180 u181 u182 u183 u184 u185 u186 u187 u188 u189 u190 u191 u192 u193 u194 u195 u196 u197 u198 u199 u200 u201 u202 u203 u204 : Value) (w' : World), Hid (SA (fun _ => False) wa w' hb H2 (j + 2) w3.heap.size R (some ⟨ga, 0, none⟩) ca' (numsL (m + 1)) (some ⟨gb, 0, none⟩) cb' (vs ++ [.slice AV L L])) → K1 ⟨#[t0, t1, t2, t3, u4, .pointer (some ⟨hb, 0, none⟩), t6, t7, .slice (some ⟨gb, 0, none⟩) (m + 1) cb', .slice (some ⟨ga, 0, none⟩) (m + 1) ca', t10, .pointer (some ⟨wr.heap.size, 0, none⟩), t12, .slice Ak D Ck, .int .i64 ((k : Int) + 1), t15, t16, .int .i64 ((m : Int) + 1), t18, u19, u20, t21, t22, t23, t24, t25, t26, t27, t28, t29, t30, t31, t32, t33, t34, t35, t36, t37, t38, t39, t40, t41, t42, t43, t44, t45, t46, t47, t48, t49, t50, t51, t52, t53, t54, t55, t56, t57, t58, t59, t60, t61, t62, t63, t64, t65, t66, t67, t68, t69, t70, t71, t72, t73, t74, t75, t76, t77, t78, t79, t80, t81, t82, t83, t84, t85, t86, t87, t88, t89, t90, t91, t92, t93, t94, t95, t96, t97, t98, t99, t100, t101, t102, t103, t104, t105, t106, t107, t108, t109, t110, t111, t112, t113, t114, t115, t116, t117, t118, t119, t120, t121, t122, t123, t124, t125, t126, t127, t128, t129, u130, u131, u132, u133, u134, u135, u136, u137, u138, u139, u140, u141, u142, u143, u144, u145, u146, u147, u148, u149, u150, u151, u152, u153, u154, u155, u156, u157, u158, u159, u160, u161, u162, u163, u164, u165, u166, u167, u168, u169, u170, u171, u172, u173, u174, u175, u176, u177, u178, u179, u180, u181, u182, u183, u184, u185, u186, u187, u188, u189, u190, u191, u192, u193, u194, u195, u196, u197, u198, u199, u200, u201, u202, u203, u204, t205, t206, t207, t208, t209, t210, t211, t212, t213, t214, t215, t216, t217, t218, t219, t220, t221, t222, t223, t224, t225, t226, t227, t228, t229, t230, t231, t232, t233, t234, t235, t236, t237, t238, t239, t240, t241, t242, t243, t244, t245, t246, t247, t248, t249, t250, t251, t252, t253, t254, t255, t256], []⟩ w') :
  Code.wp Try.prog codeB (Exit.then K' (Exit.inBlock 1 (Exit.then K1 Q0))) ⟨#[t0, t1, t2, t3, t4, .pointer (some ⟨hb, 0, none⟩), t6, t7, .slice (some ⟨gb, 0, none⟩) (m + 1) cb', .slice (some ⟨ga, 0, none⟩) (m + 1) ca', t10, .pointer (some ⟨wr.heap.size, 0, none⟩), t12, .slice Ak D Ck, .int .i64 ((k : Int) + 1), t15, t16, .int .i64 ((m : Int) + 1), t18, t19, t20, t21, t22, t23, t24, t25, t26, t27, t28, t29, t30, t31, t32, t33, t34, t35, t36, t37, t38, t39, t40, t41, t42, t43, t44, t45, t46, t47, t48, t49, t50, t51, t52, t53, t54, t55, t56, t57, t58, t59, t60, t61, t62, t63, t64, t65, t66, t67, t68, t69, t70, t71, t72, t73, t74, t75, t76, t77, t78, t79, t80, t81, t82, t83, t84, t85, t86, t87, t88, t89, t90, t91, t92, t93, t94, t95, t96, t97, t98, t99, t100, t101, t102, t103, t104, t105, t106, t107, t108, t109, t110, t111, t112, t113, t114, t115, t116, t117, t118, t119, t120, t121, t122, t123, t124, t125, t126, t127, t128, t129, t130, .bool false, t132, t133, t134, t135, t136, t137, t138, t139, t140, t141, t142, t143, t144, t145, t146, t147, t148, t149, t150, t151, t152, t153, t154, t155, t156, t157, t158, t159, t160, t161, t162, t163, t164, t165, t166, t167, t168, t169, t170, t171, t172, t173, t174, t175, t176, t177, t178, t179, t180, t181, t182, t183, t184, t185, t186, t187, t188, t189, t190, t191, t192, t193, t194, t195, t196, t197, t198, t199, t200, t201, t202, t203, t204, t205, t206, t207, t208, t209, t210, t211, t212, t213, t214, t215, t216, t217, t218, t219, t220, t221, t222, t223, t224, t225, t226, t227, t228, t229, t230, t231, t232, t233, t234, t235, t236, t237, t238, t239, t240, t241, t242, t243, t244, t245, t246, t247, t248, t249, t250, t251, t252, t253, t254, t255, t256], []⟩ wc := by
  clear _hC
  conv => arg 2; whnf
  have d0 := cell_of_heap (v := .int .i64 (f : Int)) HB6.out (j := 0) rfl
  have d1 := cell_of_heap (v := .int .i64 (t : Int)) HB6.out (j := 1) rfl
  have d2 := cell_of_heap (v := .int .i64 ca) HB6.out (j := 2) rfl
  have d3 := cell_of_heap (v := .int .i64 cn) HB6.out (j := 3) rfl
  have d4 := cell_of_heap (v := .bool false) HB6.out (j := 4) rfl
  have dl := lt_of_heap HB6.out
  obtain ⟨q, rfl⟩ : ∃ q : Nat, ca = q := ⟨ca.toNat, by omega⟩
  have hqL : q < t - f := by omega
  have hHC := HHX.out.1.put_part (q := q) (v := cn) HMM.out.1 hqL
  obtain ⟨H3, hH3⟩ : ∃ H3, H3 = (putH H2 ((m : Int) + 1) q 0 ⟨cn, 0⟩).1 := ⟨_, rfl⟩
  have HPU : Hid (Calls Try.prog 16 #[.pointer (some ⟨hb, 0, none⟩), .int .i64 ((m : Int) + 1), .int .i64 (q : Int), .int .i64 0, .agg #[.int .i64 cn, .int .i64 0]] wc fun e w' => e = .returned (.int .i64 0) ∧ CPost wa wc hb (fun x => SK w3.heap.size (some ⟨ga, 0, none⟩) (some ⟨gb, 0, none⟩) x ∨ x = wr.heap.size) H3 w') := Lib.hid (by
    have := HS6.out.car.put HS6.out.ok (by omega) ((m : Int) + 1) q 0 cn 0
    rw [hHC.1, ← hH3] at this
    exact this)
  rw [← hH3] at hHC
  have HOK3 : Hid (Ok H3 (j + 2)) := Lib.hid (by rw [hH3]; exact HS6.out.ok.put _ _ _ _)
  have hAV : AV = some ⟨w3.heap.size, (rs[k]'hkr).1 + f, none⟩ := by
    obtain ⟨Ax, Cx, h1, h2, h3, h4⟩ := HPV.out
    injection h1 with h1 h5 h6
    rw [h1]
    exact h3 (by have := HLL.out; omega)
  have hloR : (rs[k]'hkr).1 + D ≤ R.length := by have h1 := HHX.out.1.le k (by rw [HHX.out.2.1]; omega); rw [List.getElem_append_left hkr] at h1; have h3 := HD.out; omega
  have HHC := Lib.hid hHC.2
  obtain ⟨lo, hlo⟩ : ∃ lo, lo = (rs[k]'hkr).1 + f := ⟨_, rfl⟩
  rw [← hlo] at hAV
  subst hAV
  have hqR : lo + q < R.length := by omega
  have HHC : Hid (Sh H3 (R.set (lo + q) cn) (rs ++ [((rs[k]'hkr).1 + f, (rs[k]'hkr).1 + t)])) := Lib.hid (by rw [hlo]; exact hHC.2)
  have s1 : IntKind.i64.wrap ((t : Int) - f) = ((t - f : Nat) : Int) := by rw [IntWalk.i64_in _ (by omega)]; omega
  have hb1 : ¬ (((t - f : Nat) : Int) ≤ (q : Int)) := by omega
  have hb2 : ¬ (t - f ≤ q) := by omega
  have hqL2 : q < L := by have := HLL.out; omega
  have s3 : IntKind.i64.wrap (((m + 1 : Nat) : Int) - 1) = (m : Int) := by rw [IntWalk.i64_in _ (by omega)]; omega
  have s4 : IntKind.i64.wrap ((m : Int) + 1 - 1) = (m : Int) := by rw [IntWalk.i64_in _ (by omega)]; omega
  clear hHC hH3 hlo hloR
  go_wp2_with (go_at_call 16; refine HPU.out.mono ?_; rintro e w6 ⟨rfl, hc6⟩
               have H6 := Lib.hid (HS6.out.next hc6 HOK3.out).drop
               have hcb6 := hc6.at HB6.out (.inl (.inr rfl))
               have f0 := cell_of_heap (v := .int .i64 (f : Int)) hcb6 (j := 0) rfl
               have f1 := cell_of_heap (v := .int .i64 (t : Int)) hcb6 (j := 1) rfl
               have f2 := cell_of_heap (v := .int .i64 (q : Int)) hcb6 (j := 2) rfl
               have f3 := cell_of_heap (v := .int .i64 cn) hcb6 (j := 3) rfl
               have fl := lt_of_heap hcb6
               obtain ⟨_, _, e9, e8, hcell⟩ := H6.out.sm.open HHX.out.2.2.1 (Nat.succ_pos m)
               cases e9
               cases e8
               have c8 := (hcell m (Nat.lt_succ_self m)).2
               rw [List.getElem_append_right (by rw [HMM.out.2.1]; exact Nat.le_refl _)] at c8
               simp only [HMM.out.2.1, Nat.sub_self, List.getElem_cons_zero] at c8
               have c8l := (own_blk H6.out.sm.pl _ rfl).2
               have cpl := lt_of_heap H6.out.sm.pb
               have cpf := frozen_of_heap H6.out.sm.pb (lo + q)
               have cpv : w6.cell? ⟨w3.heap.size, lo + q, none⟩ = some (.int .i64 (R[lo + q]'hqR)) := cell_of_heap H6.out.sm.pb (by simp [hqR])
               clear hc6 hcb6 hcell)
  go_region
  go_wp2
  go_meet
  case rel => exact ⟨H3, _, Lib.hid ((H6.out.plain (R' := R.set (lo + q) cn) (Mut.setCell _ _ _ _ rfl) (by
    rw [heap_setCell_same _ _ (lo + q) _ _ (.int .i64 cn) H6.out.sm.pb]
    simp [List.map_set])).below (Below.refl _ _).drew), Lib.hid ⟨HHC.out, by rw [List.length_set]; exact HMM.out.2.2⟩⟩
end Go.Proofs.Ytodfpclekihbhaa

