/- HeapShares: a part of the walk. -/
import Derived.Test.YtodfpclekihbhaaG49
namespace Go.Proofs.Ytodfpclekihbhaa
open Go.RowKit Go.Shelf

set_option maxRecDepth 1000000 in
set_option maxHeartbeats 2000000 in
theorem sharesC {t0 t1 t2 t3 t4 t6 t7 t10 t11 t12 t13 t14 t15 t16 t17 t18 t19 t20 t21 t22 t23 t24 t25 t26 t27 t28 t29 t30 t31 t32 t33 t34 t35 t36 t37 t38 t39 t40 t41 t42 t43 t44 t45 t46 t47 t48 t49 t50 t51 t52 t53 t54 t55 t56 t57 t58 t59 t60 t61 t62 t63 t64 t65 t66 t67 t68 t69 t70 t71 t72 t73 t74 t75 t76 t77 t78 t79 t80 t81 t82 t83 t84 t85 t86 t87 t88 t89 t90 t91 t92 t93 t94 t95 t96 t97 t98 t99 t100 t101 t102 t103 t104 t105 t106 t107 t108 t109 t110 t111 t112 t113 t114 t115 t116 t117 t118 t119 t120 t121 t122 t123 t124 t125 t126 t127 t128 t129 t130 t131 t132 t133 t134 t135 t136 t137 t138 t139 t140 t141 t142 t143 t144 t145 t146 t147 t148 t149 t150 t151 t152 t153 t154 t155 t156 t157 t158 t159 t160 t161 t162 t163 t164 t165 t166 t167 t168 t169 t170 t171 t172 t173 t174 t175 t176 t177 t178 t179 t180 t181 t182 t183 t184 t185 t186 t187 t188 t189 t190 t191 t192 t193 t194 t195 t196 t197 t198 t199 t200 t201 t202 t203 t204 t205 t206 t207 t208 t209 t210 t211 t212 t213 t214 t215 t216 t217 t218 t219 t220 t221 t222 t223 t224 t225 t226 t227 t228 t229 t230 t231 t232 t233 t234 t235 t236 t237 t238 t239 t240 t241 t242 t243 t244 t245 t246 t247 t248 t249 t250 t251 t252 t253 t254 t255 t256 : Value} (wa w3 wx : World) (hb j m n : Nat) (H3 : Hp) (R3 : List Int) (ga ca' gb cb' : Nat) (VX : List Value) (RX : List (Nat × Nat))
  (hn3 : n ≤ 30) (hj30 : j ≤ 30) (hm30 : m ≤ 31)
  (HS3 : Hid (SA (fun _ => False) wa wx hb H3 (j + 2) w3.heap.size R3 (some ⟨ga, 0, none⟩) ca' (numsL (m + 1)) (some ⟨gb, 0, none⟩) cb' VX))
  (HVX3 : Hid (∀ i (h1 : i < VX.length) (h2 : i < RX.length), PV w3.heap.size (VX[i]'h1) (RX[i]'h2)))
  (HHZ : Hid (Sh H3 R3 RX ∧ RX.length = m + 1 ∧ VX.length = m + 1 ∧ R3.length = n))
  {K1 : Act → World → Prop} {Q0 : Exit → Act → World → Prop}
  (hC : ∀ (u4 u21 u22 u23 u24 u25 u26 u27 u28 u205 u206 u207 u208 u209 u210 u211 u212 u213 u214 u215 u216 u217 u218 u219 u220 u221 u222 u223 u224 u225 u226 u227 u228 u229 u230 u231 u232 u233 u234 u235 u236 u237 u238 u239 u240 u241 u242 u243 u244 u245 u246 u247 u248 u249 u250 u251 u252 u253 u254 u255 : Value) (w' : World), Hid (SA (fun _ => False) wa w' hb H3 (j + 2) w3.heap.size R3 (some ⟨ga, 0, none⟩) ca' (numsL (m + 1)) (some ⟨gb, 0, none⟩) cb' VX) → K1 ⟨#[t0, t1, t2, t3, u4, .pointer (some ⟨hb, 0, none⟩), t6, t7, .slice (some ⟨gb, 0, none⟩) (m + 1) cb', .slice (some ⟨ga, 0, none⟩) (m + 1) ca', t10, t11, t12, t13, t14, t15, t16, t17, t18, t19, t20, u21, u22, u23, u24, u25, u26, u27, u28, t29, t30, t31, t32, t33, t34, t35, t36, t37, t38, t39, t40, t41, t42, t43, t44, t45, t46, t47, t48, t49, t50, t51, t52, t53, t54, t55, t56, t57, t58, t59, t60, t61, t62, t63, t64, t65, t66, t67, t68, t69, t70, t71, t72, t73, t74, t75, t76, t77, t78, t79, t80, t81, t82, t83, t84, t85, t86, t87, t88, t89, t90, t91, t92, t93, t94, t95, t96, t97, t98, t99, t100, t101, t102, t103, t104, t105, t106, t107, t108, t109, t110, t111, t112, t113, t114, t115, t116, t117, t118, t119, t120, t121, t122, t123, t124, t125, t126, t127, t128, t129, t130, t131, t132, t133, t134, t135, t136, t137, t138, t139, t140, t141, t142, t143, t144, t145, t146, t147, t148, t149, t150, t151, t152, t153, t154, t155, t156, t157, t158, t159, t160, t161, t162, t163, t164, t165, t166, t167, t168, t169, t170, t171, t172, t173, t174, t175, t176, t177, t178, t179, t180, t181, t182, t183, t184, t185, t186, t187, t188, t189, t190, t191, t192, t193, t194, t195, t196, t197, t198, t199, t200, t201, t202, t203, t204, u205, u206, u207, u208, u209, u210, u211, u212, u213, u214, u215, u216, u217, u218, u219, u220, u221, u222, u223, u224, u225, u226, u227, u228, u229, u230, u231, u232, u233, u234, u235, u236, u237, u238, u239, u240, u241, u242, u243, u244, u245, u246, u247, u248, u249, u250, u251, u252, u253, u254, u255, t256], []⟩ w') :
  Code.wp Try.prog codeC (Exit.inBlock 1 (Exit.then K1 Q0)) ⟨#[t0, t1, t2, t3, t4, .pointer (some ⟨hb, 0, none⟩), t6, t7, .slice (some ⟨gb, 0, none⟩) (m + 1) cb', .slice (some ⟨ga, 0, none⟩) (m + 1) ca', t10, t11, t12, t13, t14, t15, t16, t17, t18, t19, t20, t21, t22, t23, t24, t25, t26, t27, t28, t29, t30, t31, t32, t33, t34, t35, t36, t37, t38, t39, t40, t41, t42, t43, t44, t45, t46, t47, t48, t49, t50, t51, t52, t53, t54, t55, t56, t57, t58, t59, t60, t61, t62, t63, t64, t65, t66, t67, t68, t69, t70, t71, t72, t73, t74, t75, t76, t77, t78, t79, t80, t81, t82, t83, t84, t85, t86, t87, t88, t89, t90, t91, t92, t93, t94, t95, t96, t97, t98, t99, t100, t101, t102, t103, t104, t105, t106, t107, t108, t109, t110, t111, t112, t113, t114, t115, t116, t117, t118, t119, t120, t121, t122, t123, t124, t125, t126, t127, t128, t129, t130, t131, t132, t133, t134, t135, t136, t137, t138, t139, t140, t141, t142, t143, t144, t145, t146, t147, t148, t149, t150, t151, t152, t153, t154, t155, t156, t157, t158, t159, t160, t161, t162, t163, t164, t165, t166, t167, t168, t169, t170, t171, t172, t173, t174, t175, t176, t177, t178, t179, t180, t181, t182, t183, t184, t185, t186, t187, t188, t189, t190, t191, t192, t193, t194, t195, t196, t197, t198, t199, t200, t201, t202, t203, t204, t205, t206, t207, t208, t209, t210, t211, t212, t213, t214, t215, t216, t217, t218, t219, t220, t221, t222, t223, t224, t225, t226, t227, t228, t229, t230, t231, t232, t233, t234, t235, t236, t237, t238, t239, t240, t241, t242, t243, t244, t245, t246, t247, t248, t249, t250, t251, t252, t253, t254, t255, t256], []⟩ wx := by
  obtain ⟨J1, hJ1, hK1⟩ : ∃ J1 : Act → World → Prop, (∀ a' w', (∃ u4 u21 u22 u23 u24 u25 u26 u27 u28 u205 u206 u207 u208 u209 u210 u211 u212 u213 u214 u215 u216 u217 u218 u219 u220 u221 u222 u223 u224 u225 u226 u227 u228 u229 u230 u231 u232 u233 u234 u235 u236 u237 u238 u239 u240 u241 u242 u243 u244 u245 u246 u247 u248 u249 u250 u251 u252 u253 u254 u255 : Value, Hid (SA (fun _ => False) wa w' hb H3 (j + 2) w3.heap.size R3 (some ⟨ga, 0, none⟩) ca' (numsL (m + 1)) (some ⟨gb, 0, none⟩) cb' VX) ∧ a' = ⟨#[t0, t1, t2, t3, u4, .pointer (some ⟨hb, 0, none⟩), t6, t7, .slice (some ⟨gb, 0, none⟩) (m + 1) cb', .slice (some ⟨ga, 0, none⟩) (m + 1) ca', t10, t11, t12, t13, t14, t15, t16, t17, t18, t19, t20, u21, u22, u23, u24, u25, u26, u27, u28, t29, t30, t31, t32, t33, t34, t35, t36, t37, t38, t39, t40, t41, t42, t43, t44, t45, t46, t47, t48, t49, t50, t51, t52, t53, t54, t55, t56, t57, t58, t59, t60, t61, t62, t63, t64, t65, t66, t67, t68, t69, t70, t71, t72, t73, t74, t75, t76, t77, t78, t79, t80, t81, t82, t83, t84, t85, t86, t87, t88, t89, t90, t91, t92, t93, t94, t95, t96, t97, t98, t99, t100, t101, t102, t103, t104, t105, t106, t107, t108, t109, t110, t111, t112, t113, t114, t115, t116, t117, t118, t119, t120, t121, t122, t123, t124, t125, t126, t127, t128, t129, t130, t131, t132, t133, t134, t135, t136, t137, t138, t139, t140, t141, t142, t143, t144, t145, t146, t147, t148, t149, t150, t151, t152, t153, t154, t155, t156, t157, t158, t159, t160, t161, t162, t163, t164, t165, t166, t167, t168, t169, t170, t171, t172, t173, t174, t175, t176, t177, t178, t179, t180, t181, t182, t183, t184, t185, t186, t187, t188, t189, t190, t191, t192, t193, t194, t195, t196, t197, t198, t199, t200, t201, t202, t203, t204, u205, u206, u207, u208, u209, u210, u211, u212, u213, u214, u215, u216, u217, u218, u219, u220, u221, u222, u223, u224, u225, u226, u227, u228, u229, u230, u231, u232, u233, u234, u235, u236, u237, u238, u239, u240, u241, u242, u243, u244, u245, u246, u247, u248, u249, u250, u251, u252, u253, u254, u255, t256], []⟩) → J1 a' w') ∧ (∀ a' w', Met J1 a' w' → K1 a' w') :=
    ⟨_, fun _ _ h => h, fun a' w' h => by
      obtain ⟨u4, h⟩ := h
      obtain ⟨u21, h⟩ := h
      obtain ⟨u22, h⟩ := h
      obtain ⟨u23, h⟩ := h
      obtain ⟨u24, h⟩ := h
      obtain ⟨u25, h⟩ := h
      obtain ⟨u26, h⟩ := h
      obtain ⟨u27, h⟩ := h
      obtain ⟨u28, h⟩ := h
      obtain ⟨u205, h⟩ := h
      obtain ⟨u206, h⟩ := h
      obtain ⟨u207, h⟩ := h
      obtain ⟨u208, h⟩ := h
      obtain ⟨u209, h⟩ := h
      obtain ⟨u210, h⟩ := h
      obtain ⟨u211, h⟩ := h
      obtain ⟨u212, h⟩ := h
      obtain ⟨u213, h⟩ := h
      obtain ⟨u214, h⟩ := h
      obtain ⟨u215, h⟩ := h
      obtain ⟨u216, h⟩ := h
      obtain ⟨u217, h⟩ := h
      obtain ⟨u218, h⟩ := h
      obtain ⟨u219, h⟩ := h
      obtain ⟨u220, h⟩ := h
      obtain ⟨u221, h⟩ := h
      obtain ⟨u222, h⟩ := h
      obtain ⟨u223, h⟩ := h
      obtain ⟨u224, h⟩ := h
      obtain ⟨u225, h⟩ := h
      obtain ⟨u226, h⟩ := h
      obtain ⟨u227, h⟩ := h
      obtain ⟨u228, h⟩ := h
      obtain ⟨u229, h⟩ := h
      obtain ⟨u230, h⟩ := h
      obtain ⟨u231, h⟩ := h
      obtain ⟨u232, h⟩ := h
      obtain ⟨u233, h⟩ := h
      obtain ⟨u234, h⟩ := h
      obtain ⟨u235, h⟩ := h
      obtain ⟨u236, h⟩ := h
      obtain ⟨u237, h⟩ := h
      obtain ⟨u238, h⟩ := h
      obtain ⟨u239, h⟩ := h
      obtain ⟨u240, h⟩ := h
      obtain ⟨u241, h⟩ := h
      obtain ⟨u242, h⟩ := h
      obtain ⟨u243, h⟩ := h
      obtain ⟨u244, h⟩ := h
      obtain ⟨u245, h⟩ := h
      obtain ⟨u246, h⟩ := h
      obtain ⟨u247, h⟩ := h
      obtain ⟨u248, h⟩ := h
      obtain ⟨u249, h⟩ := h
      obtain ⟨u250, h⟩ := h
      obtain ⟨u251, h⟩ := h
      obtain ⟨u252, h⟩ := h
      obtain ⟨u253, h⟩ := h
      obtain ⟨u254, h⟩ := h
      obtain ⟨u255, h⟩ := h
      obtain ⟨h, rfl⟩ := h
      exact hC u4 u21 u22 u23 u24 u25 u26 u27 u28 u205 u206 u207 u208 u209 u210 u211 u212 u213 u214 u215 u216 u217 u218 u219 u220 u221 u222 u223 u224 u225 u226 u227 u228 u229 u230 u231 u232 u233 u234 u235 u236 u237 u238 u239 u240 u241 u242 u243 u244 u245 u246 u247 u248 u249 u250 u251 u252 u253 u254 u255 _ h⟩
  clear hC
  conv => arg 2; whnf
  go_wp2
  go_loopw [207] (fun p wr => ∃ i : Nat, i ≤ m + 1 ∧ p = .int .i64 i ∧ Hid (SA (fun _ => False) wa wr hb H3 (j + 2) w3.heap.size R3 (some ⟨ga, 0, none⟩) ca' (numsL (m + 1)) (some ⟨gb, 0, none⟩) cb' VX)) (fun i _ => (m + 1) - (intOf i).toNat)
  case atStart => exact ⟨0, Nat.zero_le _, rfl, HS3⟩
  case round =>
    obtain ⟨i, hi, rfl, HR⟩ := hrel
    clear HS3
    by_cases hlt2 : i < m + 1
    · obtain ⟨_, _, e9, e8, hcell⟩ := HR.out.sm.open HHZ.out.2.2.1 (Nat.succ_pos m)
      cases e9
      cases e8
      obtain ⟨c9, c8⟩ := hcell i hlt2
      have hri : i < RX.length := by rw [HHZ.out.2.1]; exact hlt2
      have hvi : i < VX.length := by rw [HHZ.out.2.2.1]; exact hlt2
      obtain ⟨Ai, Ci, hv, hcapi, hAi, hAni⟩ := HVX3.out i hvi hri
      rw [hv] at c8
      have HLE := Lib.hid (HHZ.out.1.le i hri)
      have HLN := Lib.hid (HHZ.out.1.len_calls HR.out.car (by rw [HHZ.out.2.2.2]; omega) hri)
      have HAT : Hid (∀ W, SA (fun _ => False) wa W hb H3 (j + 2) w3.heap.size R3 (some ⟨ga, 0, none⟩) ca' (numsL (m + 1)) (some ⟨gb, 0, none⟩) cb' VX → ∀ y, y < (RX[i]'hri).2 - (RX[i]'hri).1 → ∃ z : Int, W.cell? ⟨w3.heap.size, (RX[i]'hri).1 + y, none⟩ = some (.int .i64 z) ∧ Calls Try.prog 18 #[.pointer (some ⟨hb, 0, none⟩), .int .i64 ((i : Int) + 1), .int .i64 (y : Int), .int .i64 0] W fun e w' => e = .returned (.tuple #[.agg #[.int .i64 z, .int .i64 0], .int .i64 0]) ∧ Below W.heap.size W w') := Lib.hid fun W hW y hy => by
        have hyR : (RX[i]'hri).1 + y < R3.length := by have := HLE.out; omega
        refine ⟨R3[(RX[i]'hri).1 + y]'hyR, cell_of_heap hW.sm.pb (by simp [hyR]), HHZ.out.1.at_calls hW.car hW.ok (by omega) hri hy hyR⟩
      obtain ⟨lo, hlo⟩ : ∃ lo, lo = (RX[i]'hri).1 := ⟨_, rfl⟩
      obtain ⟨Di, hDi⟩ : ∃ Di, Di = (RX[i]'hri).2 - (RX[i]'hri).1 := ⟨_, rfl⟩
      have hDb : Di ≤ 31 := by have h1 := HLE.out; have h2 := HHZ.out.2.2.2; omega
      rw [← hDi] at c8 hcapi HLN HAT
      rw [← hlo] at hAi HAT
      have q0 : (0 : Int) ≤ (i : Int) := by omega
      have q1 : (i : Int) < (m : Int) + 1 := by omega
      have c9l := (own_blk HR.out.sm.ra _ rfl).2
      have c8l := (own_blk HR.out.sm.pl _ rfl).2
      have C8 := Lib.hid c8
      clear hcell hv hlo hDi HLE
      go_wp2_with (go_at_call 17; refine HLN.out.mono ?_; rintro e w8 ⟨rfl, hb8⟩
                   have HR8 := Lib.hid (HR.out.below hb8)
                   have c8' := cell_later hb8 C8.out
                   have c8l' := (own_blk HR8.out.sm.pl _ rfl).2
                   clear hb8)
      go_loopw [234] (fun p wr => ∃ y : Nat, y ≤ Di ∧ p = .int .i64 y ∧ Hid (SA (fun _ => False) wa wr hb H3 (j + 2) w3.heap.size R3 (some ⟨ga, 0, none⟩) ca' (numsL (m + 1)) (some ⟨gb, 0, none⟩) cb' VX)) (fun i _ => Di - (intOf i).toNat)
      case atStart => exact ⟨0, Nat.zero_le _, rfl, HR8⟩
      case round =>
        obtain ⟨y, hy, rfl, HI⟩ := hrel
        clear HR8 c8' c8l'
        by_cases hly : y < Di
        · have hA := hAi (by omega)
          subst hA
          obtain ⟨z, cz, hcz⟩ := HAT.out _ HI.out y hly
          have HCZ := Lib.hid hcz
          have czl := lt_of_heap HI.out.sm.pb
          have p0 : (0 : Int) ≤ (y : Int) := by omega
          have p1 : (y : Int) < (Di : Int) := by omega
          clear hcz
          go_wp2_with (go_at_call 18; refine HCZ.out.mono ?_; rintro e w9 ⟨rfl, hb9⟩
                       have H9 := Lib.hid (HI.out.below hb9)
                       clear hb9)
          go_roundw
          case rel => exact ⟨y + 1, by omega, by go_num, Lib.hid (H9.out.below ((Below.refl _ _).alloc (Nat.le_refl _) _))⟩
          case measure => simp [intOf]; omega
        · obtain rfl : y = Di := by omega
          go_wp2
          go_roundw
          case rel => exact ⟨i + 1, by omega, by go_num, HI⟩
          case measure => simp [intOf]; omega
    · obtain rfl : i = m + 1 := by omega
      go_wp2
      go_meet
      case rel => exact HR
end Go.Proofs.Ytodfpclekihbhaa

