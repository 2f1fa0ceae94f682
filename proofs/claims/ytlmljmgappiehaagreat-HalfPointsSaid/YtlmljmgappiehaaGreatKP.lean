/-
  The law HalfPoints: walk.
-/
import Derived.Test.YtlmljmgappiehaaGreatK9
set_option linter.all false
set_option maxRecDepth 100000
namespace Go.Pg
open Go.Proofs Go.RowKit

/-! ### The law -/
theorem eq3 (a b c : Int) : (a == a && (b == b && (c == c && true))) = true := by simp
theorem eq2 (a b : Int) : (a == a && (b == b && true)) = true := by simp
set_option maxHeartbeats 4000000 in
theorem s_HalfPoints (g h : Half) (p q : Corner) (a b : Frac) (f : Form) : Spec PP 5 [g.v, h.v, p.v, q.v, a.v, b.v, f.v] [B true] := by
  refine specC_at [7] Tryz.func5 rfl (by kernel_rfl) rfl ?_
  refine CallSt.pure (s_Cross g h) rfl rfl ?_
  refine CallSt.pure (r_Cross g h) rfl rfl ?_
  refine CallSt.pure (s_Value f p) rfl rfl ?_
  refine CallSt.pure (r_Value f p) rfl rfl ?_
  refine CallSt.pure (s_Back h) rfl rfl ?_
  refine CallSt.pure (r_Back h) rfl rfl ?_
  refine CutOb.at [(7, .box 7 0), (8, .box 8 0), (9, .box 9 0), (10, .box 10 0), (11, .box 11 0), (12, .box 12 0), (13, .box 13 0), (15, .box 15 0), (17, .box 17 0), (19, .box 19 0), (21, .box 21 0), (23, .box 23 0), (25, .box 25 0), (16, .d (I (cross g h).2)), (18, .d (I (cross g h).2)), (20, .d (I (valueE f p).2)), (22, .d (I (valueE f p).2)), (24, .d (I (back h).2)), (26, .d (I (back h).2))] [(7, .box [.d (I g.A), .d (I g.B), .d (I g.C)]), (8, .box [.d (I h.A), .d (I h.B), .d (I h.C)]), (9, .box [.d (I p.X), .d (I p.Y), .d (I p.Den)]), (10, .box [.d (I q.X), .d (I q.Y), .d (I q.Den)]), (11, .box [.d (I a.Num), .d (I a.Den)]), (12, .box [.d (I b.Num), .d (I b.Den)]), (13, .box [.d (I f.X), .d (I f.Y)]), (15, .box [.d (I (cross g h).1.X), .d (I (cross g h).1.Y), .d (I (cross g h).1.Den)]), (17, .box [.d (I (cross g h).1.X), .d (I (cross g h).1.Y), .d (I (cross g h).1.Den)]), (19, .box [.d (I (valueE f p).1.Num), .d (I (valueE f p).1.Den)]), (21, .box [.d (I (valueE f p).1.Num), .d (I (valueE f p).1.Den)]), (23, .box [.d (I (back h).1.A), .d (I (back h).1.B), .d (I (back h).1.C)]), (25, .box [.d (I (back h).1.A), .d (I (back h).1.B), .d (I (back h).1.C)])]
    ⟨rfl, ⟨obD [I g.A, I g.B, I g.C] rfl, obD [I h.A, I h.B, I h.C] rfl, obD [I p.X, I p.Y, I p.Den] rfl, obD [I q.X, I q.Y, I q.Den] rfl, obD [I a.Num, I a.Den] rfl, obD [I b.Num, I b.Den] rfl, obD [I f.X, I f.Y] rfl, obD [I (cross g h).1.X, I (cross g h).1.Y, I (cross g h).1.Den] rfl, obD [I (cross g h).1.X, I (cross g h).1.Y, I (cross g h).1.Den] rfl, obD [I (valueE f p).1.Num, I (valueE f p).1.Den] rfl, obD [I (valueE f p).1.Num, I (valueE f p).1.Den] rfl, obD [I (back h).1.A, I (back h).1.B, I (back h).1.C] rfl, obD [I (back h).1.A, I (back h).1.B, I (back h).1.C] rfl, trivial⟩, ⟨rfl, rfl⟩, ⟨rfl, rfl⟩, ⟨rfl, rfl⟩, ⟨rfl, rfl⟩, ⟨rfl, rfl⟩, ⟨rfl, rfl⟩, ⟨rfl, rfl⟩, ⟨rfl, rfl⟩, ⟨rfl, rfl⟩, ⟨rfl, rfl⟩, ⟨rfl, rfl⟩, ⟨rfl, rfl⟩, ⟨rfl, rfl⟩, avR _ rfl, avR _ rfl, avR _ rfl, avR _ rfl, avR _ rfl, avR _ rfl, trivial⟩ ?_
  refine Exists.intro (List.range 59) (And.intro (by kernel_rfl) (FzOb.no ?_))
  refine CallOb.pure s_sanity rfl rfl ?_
  refine Split.tt ?_
  refine CallOb.pure (s_Holds h p) rfl rfl ?_
  refine CallOb.pure (r_Holds h p) rfl rfl ?_
  refine Split.tt ?_
  refine Split.yes (beqb _) ?_
  refine CallOb.pure (s_Compare p q) rfl rfl ?_
  refine CallOb.pure (r_Compare p q) rfl rfl ?_
  refine Split.tt ?_
  refine Split.yes (ieq _) ?_
  refine CallOb.pure (s_Less a b) rfl rfl ?_
  refine CallOb.pure (r_Less a b) rfl rfl ?_
  refine Split.tt ?_
  refine Split.yes (ieq _) ?_
  refine Split.tt ?_
  refine Split.yes (eq3 _ _ _) ?_
  refine Split.tt ?_
  refine Split.yes (ieq _) ?_
  refine Split.tt ?_
  refine Split.yes (eq2 _ _) ?_
  refine Split.tt ?_
  refine Split.yes (ieq _) ?_
  refine Split.tt ?_
  refine Split.yes (eq3 _ _ _) ?_
  refine Split.tt ?_
  exact r1B rfl (ieq _)
end Go.Pg
