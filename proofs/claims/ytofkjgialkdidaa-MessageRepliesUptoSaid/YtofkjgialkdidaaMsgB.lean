/- What the bound says of a message's lists. -/
import Derived.Test.YtofkjgialkdidaaRowK
namespace Go.Proofs.Ytofkjgialkdidaa.RK
set_option linter.unusedVariables false
set_option linter.unusedSimpArgs false
open Go Go.Eng
abbrev KQ : K := (.pair .str (.pair (.int .i64) (.int .i64)))
abbrev KR : K := (.pair .str (.pair (.int .i64) (.pair (.int .i64) (.pair (.int .i64) .str))))
abbrev KMsg : K := (.pair (.int .i64) (.pair .bool (.pair (.int .i64) (.pair .bool (.pair .bool (.pair .bool (.pair .bool (.pair (.int .i64) (.pair (.int .i64) (.pair (.list 124 (.pair .str (.pair (.int .i64) (.int .i64)))) (.pair (.list 54 (.pair .str (.pair (.int .i64) (.pair (.int .i64) (.pair (.int .i64) .str))))) (.pair (.list 54 (.pair .str (.pair (.int .i64) (.pair (.int .i64) (.pair (.int .i64) .str))))) (.list 54 (.pair .str (.pair (.int .i64) (.pair (.int .i64) (.pair (.int .i64) .str)))))))))))))))))
theorem kBulk_pair {a b : K} {x : (K.pair a b).T} : kBulk (.pair a b) x = kBulk a x.1 + kBulk b x.2 := rfl
theorem oneQ (x : KQ.T) : 1 ≤ kBulk KQ x := by simp only [kBulk]; omega
theorem oneR (x : KR.T) : 1 ≤ kBulk KR x := by simp only [kBulk]; omega
theorem msg_lens {x : KMsg.T} (h : kBulk KMsg x ≤ 1048576) : x.2.2.2.2.2.2.2.2.2.1.length ≤ 1048576 ∧ x.2.2.2.2.2.2.2.2.2.2.1.length ≤ 1048576 ∧ x.2.2.2.2.2.2.2.2.2.2.2.1.length ≤ 1048576 ∧ x.2.2.2.2.2.2.2.2.2.2.2.2.length ≤ 1048576 := by
  have h0 := list_len (e := 124) oneQ x.2.2.2.2.2.2.2.2.2.1
  have h1 := list_len (e := 54) oneR x.2.2.2.2.2.2.2.2.2.2.1
  have h2 := list_len (e := 54) oneR x.2.2.2.2.2.2.2.2.2.2.2.1
  have h3 := list_len (e := 54) oneR x.2.2.2.2.2.2.2.2.2.2.2.2
  simp only [KMsg, kBulk_pair] at h
  simp only [KQ, KR] at h0 h1 h2 h3
  omega
theorem len_q {x : KMsg.T} (h : kBulk KMsg x ≤ 1048576) : x.2.2.2.2.2.2.2.2.2.1.length ≤ 1048576 := (msg_lens h).1
theorem len_a {x : KMsg.T} (h : kBulk KMsg x ≤ 1048576) : x.2.2.2.2.2.2.2.2.2.2.1.length ≤ 1048576 := (msg_lens h).2.1
theorem len_n {x : KMsg.T} (h : kBulk KMsg x ≤ 1048576) : x.2.2.2.2.2.2.2.2.2.2.2.1.length ≤ 1048576 := (msg_lens h).2.2.1
theorem len_d {x : KMsg.T} (h : kBulk KMsg x ≤ 1048576) : x.2.2.2.2.2.2.2.2.2.2.2.2.length ≤ 1048576 := (msg_lens h).2.2.2
end Go.Proofs.Ytofkjgialkdidaa.RK
