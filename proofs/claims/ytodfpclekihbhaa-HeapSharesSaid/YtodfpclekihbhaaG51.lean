/- HeapShares: a part of the walk. -/
import Derived.Test.YtodfpclekihbhaaG49
namespace Go.Proofs.Ytodfpclekihbhaa
open Go.RowKit Go.Shelf

set_option maxRecDepth 1000000 in
set_option maxHeartbeats 600000 in
theorem sharesB1y {t0 t1 t2 t3 t4 t6 t7 t10 t12 t15 t16 t18 t19 t20 t21 t22 t23 t24 t25 t26 t27 t28 t29 t30 t31 t32 t33 t34 t35 t36 t37 t38 t39 t40 t41 t42 t43 t44 t45 t46 t47 t48 t49 t50 t51 t52 t53 t54 t55 t56 t57 t58 t59 t60 t61 t62 t63 t64 t65 t66 t67 t68 t69 t70 t71 t72 t73 t74 t75 t76 t77 t78 t79 t80 t81 t82 t83 t84 t85 t86 t87 t88 t89 t90 t91 t92 t93 t94 t95 t96 t97 t98 t99 t100 t101 t102 t103 t104 t105 t106 t107 t108 t109 t110 t111 t112 t113 t114 t115 t116 t117 t118 t119 t120 t121 t122 t123 t124 t125 t126 t127 t128 t129 t130 t132 t133 t134 t135 t136 t137 t138 t139 t140 t141 t142 t143 t144 t145 t146 t147 t148 t149 t150 t151 t152 t153 t154 t155 t156 t157 t158 t159 t160 t161 t162 t163 t164 t165 t166 t167 t168 t169 t170 t171 t172 t173 t174 t175 t176 t177 t178 t179 t180 t181 t182 t183 t184 t185 t186 t187 t188 t189 t190 t191 t192 t193 t194 t195 t196 t197 t198 t199 t200 t201 t202 t203 t204 t205 t206 t207 t208 t209 t210 t211 t212 t213 t214 t215 t216 t217 t218 t219 t220 t221 t222 t223 t224 t225 t226 t227 t228 t229 t230 t231 t232 t233 t234 t235 t236 t237 t238 t239 t240 t241 t242 t243 t244 t245 t246 t247 t248 t249 t250 t251 t252 t253 t254 t255 t256 : Value} (wa wr w3 : World) (hb j k m n : Nat) (_g9 _C9 _g8 _C8 : Nat) (f t : Nat) (ca cn : Int) (Ak : Option Addr) (D Ck : Nat) (AV : Option Addr) (L : Nat) (R : List Int) (rs : List (Nat × Nat)) (vs : List Value) (H2 : Hp) (wc : World) (ga ca' gb cb' : Nat)
  (_hm : 0 < m) (_hmj : m ≤ j + 1) (hkm : k < m) (_hn3 : n ≤ 30) (hj30 : j ≤ 30) (hft : f ≤ t) (htD : t ≤ D) (hD30 : D ≤ 30) (hcap : D ≤ Ck) (hkr : k < rs.length)
  (hAk : 0 < Ck → Ak = some ⟨w3.heap.size, (rs[k]'hkr).1, none⟩) (_hAn : Ak ≠ none)
  (HD : Hid (D = (rs[k]'hkr).2 - (rs[k]'hkr).1)) (HLL : Hid (L = t - f))
  (_HPV : Hid (PV w3.heap.size (.slice AV L L) ((rs[k]'hkr).1 + f, (rs[k]'hkr).1 + t)))
  (HMM : Hid (rs.length = m ∧ vs.length = m ∧ R.length = n))
  (HS6 : Hid (SA (· = wr.heap.size) wa wc hb H2 (j + 2) w3.heap.size R (some ⟨ga, 0, none⟩) ca' (numsL (m + 1)) (some ⟨gb, 0, none⟩) cb' (vs ++ [.slice AV L L])))
  (HHX : Hid (Sh H2 R (rs ++ [((rs[k]'hkr).1 + f, (rs[k]'hkr).1 + t)]) ∧ (rs ++ [((rs[k]'hkr).1 + f, (rs[k]'hkr).1 + t)]).length = m + 1 ∧ (vs ++ [Value.slice AV L L]).length = m + 1 ∧ R.length = n))
  (HB6 : Hid (wc.heap[wr.heap.size]? = some (.cells #[.int .i64 (f : Int), .int .i64 (t : Int), .int .i64 ca, .int .i64 cn, .bool true] 37 (0, 0))))
  (bc : ¬ (ca < 0 ∨ (D : Int) - ((t : Int) - f) < ca))
  {J K' K1 : Act → World → Prop} {Q0 : Exit → Act → World → Prop}
  (hJ : ∀ a' w', (∃ u4 u19 u20 u130 u131 u132 u133 u134 u135 u136 u137 u138 u139 u140 u141 u142 u143 u144 u145 u146 u147 u148 u149 u150 u151 u152 u153 u154 u155 u156 u157 u158 u159 u160 u161 u162 u163 u164 u165 u166 u167 u168 u169 u170 u171 u172 u173 u174 u175 u176 u177 u178 u179 u180 u181 u182 u183 u184 u185 u186 u187 u188 u189 u190 u191 u192 u193 u194 u195 u196 u197 u198 u199 u200 u201 u202 u203 u204 : Value, (∃ (H3 : Hp) (R3 : List Int), Hid (SA (fun _ => False) wa w' hb H3 (j + 2) w3.heap.size R3 (some ⟨ga, 0, none⟩) ca' (numsL (m + 1)) (some ⟨gb, 0, none⟩) cb' (vs ++ [.slice AV L L])) ∧ Hid (Sh H3 R3 (rs ++ [((rs[k]'hkr).1 + f, (rs[k]'hkr).1 + t)]) ∧ R3.length = n)) ∧ a' = ⟨#[t0, t1, t2, t3, u4, .pointer (some ⟨hb, 0, none⟩), t6, t7, .slice (some ⟨gb, 0, none⟩) (m + 1) cb', .slice (some ⟨ga, 0, none⟩) (m + 1) ca', t10, .pointer (some ⟨wr.heap.size, 0, none⟩), t12, .slice Ak D Ck, .int .i64 ((k : Int) + 1), t15, t16, .int .i64 ((m : Int) + 1), t18, u19, u20, t21, t22, t23, t24, t25, t26, t27, t28, t29, t30, t31, t32, t33, t34, t35, t36, t37, t38, t39, t40, t41, t42, t43, t44, t45, t46, t47, t48, t49, t50, t51, t52, t53, t54, t55, t56, t57, t58, t59, t60, t61, t62, t63, t64, t65, t66, t67, t68, t69, t70, t71, t72, t73, t74, t75, t76, t77, t78, t79, t80, t81, t82, t83, t84, t85, t86, t87, t88, t89, t90, t91, t92, t93, t94, t95, t96, t97, t98, t99, t100, t101, t102, t103, t104, t105, t106, t107, t108, t109, t110, t111, t112, t113, t114, t115, t116, t117, t118, t119, t120, t121, t122, t123, t124, t125, t126, t127, t128, t129, u130, u131, u132, u133, u134, u135, u136, u137, u138, u139, u140, u141, u142, u143, u144, u145, u146, u147, u148, u149, u150, u151, u152, u153, u154, u155, u156, u157, u158, u159, u160, u161, u162, u163, u164, u165, u166, u167, u168, u169, u170, u171, u172, u173, u174, u175, u176, u177, u178, u179, u180, u181, u182, u183, u184, u185, u186, u187, u188, u189, u190, u191, u192, u193, u194, u195, u196, u197, u198, u199, u200, u201, u202, u203, u204, t205, t206, t207, t208, t209, t210, t211, t212, t213, t214, t215, t216, t217, t218, t219, t220, t221, t222, t223, t224, t225, t226, t227, t228, t229, t230, t231, t232, t233, t234, t235, t236, t237, t238, t239, t240, t241, t242, t243, t244, t245, t246, t247, t248, t249, t250, t251, t252, t253, t254, t255, t256], []⟩) → J a' w') (hK : ∀ a' w', Met J a' w' → K' a' w')
  (_hC : ∀ (u4 u19 u20 u130 u131 u132 u133 u134 u135 u136 u137 u138 u139 u140 u141 u142 u143 u144 u145 u146 u147 u148 u149 u150 u151 u152 u153 u154 u155 u156 u157 u158 u159 u160 u161 u162 u163 u164 u165 u166 u167 u168 u169 u170 u171 u172 u173 u174 u175 u176 u177 u178 u179 u180 u181 u182 u183 u184 u185 u186 u187 u188 u189 u190 u191 u192 u193 u194 u195 u196 u197 u198 u199 u200 u201 u202 u203 u204 : Value) (w' : World), Hid (SA (fun _ => False) wa w' hb H2 (j + 2) w3.heap.size R (some ⟨ga, 0, none⟩) ca' (numsL (m + 1)) (some ⟨gb, 0, none⟩) cb' (vs ++ [.slice AV L L])) → K1 ⟨#[t0, t1, t2, t3, u4, .pointer (some ⟨hb, 0, none⟩), t6, t7, .slice (some ⟨gb, 0, none⟩) (m + 1) cb', .slice (some ⟨ga, 0, none⟩) (m + 1) ca', t10, .pointer (some ⟨wr.heap.size, 0, none⟩), t12, .slice Ak D Ck, .int .i64 ((k : Int) + 1), t15, t16, .int .i64 ((m : Int) + 1), t18, u19, u20, t21, t22, t23, t24, t25, t26, t27, t28, t29, t30, t31, t32, t33, t34, t35, t36, t37, t38, t39, t40, t41, t42, t43, t44, t45, t46, t47, t48, t49, t50, t51, t52, t53, t54, t55, t56, t57, t58, t59, t60, t61, t62, t63, t64, t65, t66, t67, t68, t69, t70, t71, t72, t73, t74, t75, t76, t77, t78, t79, t80, t81, t82, t83, t84, t85, t86, t87, t88, t89, t90, t91, t92, t93, t94, t95, t96, t97, t98, t99, t100, t101, t102, t103, t104, t105, t106, t107, t108, t109, t110, t111, t112, t113, t114, t115, t116, t117, t118, t119, t120, t121, t122, t123, t124, t125, t126, t127, t128, t129, u130, u131, u132, u133, u134, u135, u136, u137, u138, u139, u140, u141, u142, u143, u144, u145, u146, u147, u148, u149, u150, u151, u152, u153, u154, u155, u156, u157, u158, u159, u160, u161, u162, u163, u164, u165, u166, u167, u168, u169, u170, u171, u172, u173, u174, u175, u176, u177, u178, u179, u180, u181, u182, u183, u184, u185, u186, u187, u188, u189, u190, u191, u192, u193, u194, u195, u196, u197, u198, u199, u200, u201, u202, u203, u204, t205, t206, t207, t208, t209, t210, t211, t212, t213, t214, t215, t216, t217, t218, t219, t220, t221, t222, t223, t224, t225, t226, t227, t228, t229, t230, t231, t232, t233, t234, t235, t236, t237, t238, t239, t240, t241, t242, t243, t244, t245, t246, t247, t248, t249, t250, t251, t252, t253, t254, t255, t256], []⟩ w') :
  Code.wp Try.prog codeB (Exit.then K' (Exit.inBlock 1 (Exit.then K1 Q0))) ⟨#[t0, t1, t2, t3, t4, .pointer (some ⟨hb, 0, none⟩), t6, t7, .slice (some ⟨gb, 0, none⟩) (m + 1) cb', .slice (some ⟨ga, 0, none⟩) (m + 1) ca', t10, .pointer (some ⟨wr.heap.size, 0, none⟩), t12, .slice Ak D Ck, .int .i64 ((k : Int) + 1), t15, t16, .int .i64 ((m : Int) + 1), t18, t19, t20, t21, t22, t23, t24, t25, t26, t27, t28, t29, t30, t31, t32, t33, t34, t35, t36, t37, t38, t39, t40, t41, t42, t43, t44, t45, t46, t47, t48, t49, t50, t51, t52, t53, t54, t55, t56, t57, t58, t59, t60, t61, t62, t63, t64, t65, t66, t67, t68, t69, t70, t71, t72, t73, t74, t75, t76, t77, t78, t79, t80, t81, t82, t83, t84, t85, t86, t87, t88, t89, t90, t91, t92, t93, t94, t95, t96, t97, t98, t99, t100, t101, t102, t103, t104, t105, t106, t107, t108, t109, t110, t111, t112, t113, t114, t115, t116, t117, t118, t119, t120, t121, t122, t123, t124, t125, t126, t127, t128, t129, t130, .bool true, t132, t133, t134, t135, t136, t137, t138, t139, t140, t141, t142, t143, t144, t145, t146, t147, t148, t149, t150, t151, t152, t153, t154, t155, t156, t157, t158, t159, t160, t161, t162, t163, t164, t165, t166, t167, t168, t169, t170, t171, t172, t173, t174, t175, t176, t177, t178, t179, t180, t181, t182, t183, t184, t185, t186, t187, t188, t189, t190, t191, t192, t193, t194, t195, t196, t197, t198, t199, t200, t201, t202, t203, t204, t205, t206, t207, t208, t209, t210, t211, t212, t213, t214, t215, t216, t217, t218, t219, t220, t221, t222, t223, t224, t225, t226, t227, t228, t229, t230, t231, t232, t233, t234, t235, t236, t237, t238, t239, t240, t241, t242, t243, t244, t245, t246, t247, t248, t249, t250, t251, t252, t253, t254, t255, t256], []⟩ wc := by
  clear _hC
  conv => arg 2; whnf
  have d0 := cell_of_heap (v := .int .i64 (f : Int)) HB6.out (j := 0) rfl
  have d1 := cell_of_heap (v := .int .i64 (t : Int)) HB6.out (j := 1) rfl
  have d2 := cell_of_heap (v := .int .i64 ca) HB6.out (j := 2) rfl
  have d3 := cell_of_heap (v := .int .i64 cn) HB6.out (j := 3) rfl
  have d4 := cell_of_heap (v := .bool true) HB6.out (j := 4) rfl
  have dl := lt_of_heap HB6.out
  obtain ⟨q, rfl⟩ : ∃ q : Nat, ca = q := ⟨ca.toNat, by omega⟩
  have hqD : q + (t - f) ≤ D := by omega
  have hHC := HHX.out.1.copy_part (q := q) hkr HMM.out.1 hft (by rw [← HD.out]; exact hqD)
  obtain ⟨H3, hH3⟩ : ∃ H3, H3 = (copyH H2 ((k : Int) + 1) q ((m : Int) + 1)).1 := ⟨_, rfl⟩
  have HCY : Hid (Calls Try.prog 15 #[.pointer (some ⟨hb, 0, none⟩), .int .i64 ((k : Int) + 1), .int .i64 (q : Int), .int .i64 ((m : Int) + 1)] wc fun e w' => e = .returned (.int .i64 0) ∧ CPost wa wc hb (fun x => SK w3.heap.size (some ⟨ga, 0, none⟩) (some ⟨gb, 0, none⟩) x ∨ x = wr.heap.size) H3 w') := Lib.hid (by
    have := HS6.out.car.copy HS6.out.ok (by omega) ((k : Int) + 1) q ((m : Int) + 1)
    rw [hHC.1, ← hH3] at this
    exact this)
  rw [← hH3] at hHC
  have hOK3 : Ok H3 (j + 2) := by rw [hH3]; exact HS6.out.ok.copy _ _ _
  have HOK3 := Lib.hid hOK3
  obtain ⟨lo, hlo⟩ : ∃ lo, lo = (rs[k]'hkr).1 := ⟨_, rfl⟩
  have hloR : lo + D ≤ R.length := by have h1 := HHX.out.1.le k (by rw [HHX.out.2.1]; omega); rw [List.getElem_append_left hkr] at h1; have h3 := HD.out; omega
  obtain ⟨cs, hcs⟩ : ∃ cs, cs = (R.drop (lo + f)).take (t - f) := ⟨_, rfl⟩
  have hcl : cs.length = L := by rw [hcs, HLL.out, List.length_take, List.length_drop]; omega
  have HHC : Hid (Sh H3 (putL R (lo + q) cs) (rs ++ [((rs[k]'hkr).1 + f, (rs[k]'hkr).1 + t)])) := Lib.hid (by rw [hcs, hlo]; exact hHC.2)
  have HCS : Hid (cs = (R.drop (lo + f)).take cs.length) := Lib.hid (by rw [hcl, HLL.out]; exact hcs)
  have HCL := Lib.hid hcl
  obtain ⟨A1, hA1⟩ : ∃ A1, A1 = (if Ck = q then Ak else Ak.map (·.add (q * 1))) := ⟨_, rfl⟩
  obtain ⟨A2, hA2⟩ : ∃ A2, A2 = (if Ck = f then Ak else Ak.map (·.add (f * 1))) := ⟨_, rfl⟩
  have hr1 : ∀ w, (Instr.slice 33 (.slice Ak D Ck) (some (.int .i64 (q : Int))) none none).run Try.prog w = .ok (.slice A1 (D - q) (Ck - q)) w := fun w => by rw [hA1]; exact run_slice_64l w Ak D Ck q (by omega)
  have hr2 : ∀ w, (Instr.slice 33 (.slice Ak D Ck) (some (.int .i64 (f : Int))) (some (.int .i64 (t : Int))) none).run Try.prog w = .ok (.slice A2 L (Ck - f)) w := fun w => by rw [hA2, HLL.out]; exact run_slice_64lh w Ak D Ck f t hft (by omega)
  have HP1 : Hid (0 < cs.length → A1 = some ⟨w3.heap.size, lo + q, none⟩ ∧ ∃ so, A2 = some ⟨w3.heap.size, so, none⟩ ∧ cs = (R.drop so).take cs.length) := Lib.hid fun h0 => by
    have hL0 : 0 < t - f := by have h4 := HLL.out; omega
    have hAk1 := hAk (by omega)
    rw [← hlo] at hAk1
    refine ⟨?_, lo + f, ?_, HCS.out⟩
    · rw [hA1, if_neg (by omega), hAk1]; simp [Addr.add]
    · rw [hA2, if_neg (by omega), hAk1]; simp [Addr.add]
  have HP2 : Hid (cs.length = Nat.min L (D - q)) := Lib.hid (by rw [hcl, HLL.out]; exact (Nat.min_eq_left (by omega)).symm)
  have HP3 : Hid (lo + q + cs.length ≤ R.length) := Lib.hid (by have h4 := HLL.out; omega)
  have s1 : IntKind.i64.wrap ((t : Int) - f) = ((t - f : Nat) : Int) := by rw [IntWalk.i64_in _ (by omega)]; omega
  have s2 : IntKind.i64.wrap ((D : Int) - ((t - f : Nat) : Int)) = ((D - (t - f) : Nat) : Int) := by rw [IntWalk.i64_in _ (by omega)]; omega
  have hb1 : ¬ (((D - (t - f) : Nat) : Int) < (q : Int)) := by omega
  have hb2 : ¬ (D - (t - f) < q) := by omega
  clear hHC hH3 hOK3 hlo hcs hcl hA1 hA2 hloR
  go_wp2_with (go_at_call 15; refine HCY.out.mono ?_; rintro e w6 ⟨rfl, hc6⟩
               have H6 := Lib.hid (HS6.out.next hc6 HOK3.out).drop
               have hcb6 := hc6.at HB6.out (.inl (.inr rfl))
               have f0 := cell_of_heap (v := .int .i64 (f : Int)) hcb6 (j := 0) rfl
               have f1 := cell_of_heap (v := .int .i64 (t : Int)) hcb6 (j := 1) rfl
               have f2 := cell_of_heap (v := .int .i64 (q : Int)) hcb6 (j := 2) rfl
               have fl := lt_of_heap hcb6
               clear hc6 hcb6)
  go_still_tail 10, (by kernel_rfl)
  change wpList _ _ _ _ _ w6.drew
  refine wpList_copy8 (o := ⟨some 166, _, _, _, _, _⟩) rfl _ _ rfl (H6.out.below (Below.refl _ _).drew) A1 A2 (D - q) (Ck - q) L (Ck - f) rfl rfl (lo + q) cs HP2.out HP1.out HP3.out ?_
  intro w7 H7 K7
  clear K7
  go_wp2
  go_meet
  case rel => exact ⟨H3, _, H7, Lib.hid ⟨HHC.out, by rw [len_putL HP3.out]; exact HMM.out.2.2⟩⟩
end Go.Proofs.Ytodfpclekihbhaa

