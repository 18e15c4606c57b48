/-
  symMerge's code, cut.
-/
import Derived.Test.YtomckpllbihikaaS3
set_option autoImplicit false
namespace Go.Proofs.Ytomckpllbihikaa
open X
def t33_3 : C := (.seq (.region r33_43) (.cond (.tmp 213) (.region r33_44) .skip))
def t33_2 : C := (.seq (.seq (.region r33_41) (.cond (.tmp 199) (.region r33_42) .skip)) t33_3)
def t33_1 : C := (.seq (.seq (.region r33_39) (.cond (.tmp 185) (.region r33_40) .skip)) t33_2)
def t33_0 : C := (.seq (.region r33_32) (.seq (.block 8 (.loop (.seq (.seq (.region r33_33) (.cond (.tmp 151) .skip (.exit 8))) (.block 9 (.seq (.region r33_34) (.seq (.regionD r33_35) (.cond (.tmp 171) (.region r33_36) (.region r33_37)))))))) (.seq (.region r33_38) t33_1)))
theorem c33_cut : c33 = (.seq (.seq (.region r33_0) (.cond (.tmp 28) (.seq (.region r33_1) (.seq (.region r33_2) (.seq (.block 0 (.loop (.seq (.seq (.region r33_3) (.cond (.tmp 33) .skip (.exit 0))) (.block 1 (.seq (.region r33_4) (.seq (.regionD r33_5) (.cond (.tmp 50) (.region r33_6) (.region r33_7)))))))) (.seq (.seq (.region r33_8) (.block 2 (.loop (.seq (.seq (.region r33_9) (.cond (.tmp 58) .skip (.exit 2))) (.seq (.block 3 (.regionD r33_11)) (.region r33_10)))))) .ret)))) .skip)) (.seq (.seq (.region r33_12) (.cond (.tmp 80) (.seq (.region r33_13) (.seq (.region r33_14) (.seq (.block 4 (.loop (.seq (.seq (.region r33_15) (.cond (.tmp 85) .skip (.exit 4))) (.block 5 (.seq (.region r33_16) (.seq (.regionD r33_17) (.cond (.tmp 103) (.region r33_18) (.region r33_19)))))))) (.seq (.seq (.region r33_20) (.block 6 (.loop (.seq (.seq (.region r33_21) (.cond (.tmp 110) .skip (.exit 6))) (.seq (.block 7 (.regionD r33_23)) (.region r33_22)))))) .ret)))) .skip)) (.seq (.region r33_24) (.seq (.region r33_25) (.seq (.region r33_26) (.seq (.seq (.region r33_27) (.cond (.tmp 140) (.seq (.region r33_28) (.region r33_29)) (.seq (.region r33_30) (.region r33_31)))) t33_0)))))) := (rfl)
end Go.Proofs.Ytomckpllbihikaa
