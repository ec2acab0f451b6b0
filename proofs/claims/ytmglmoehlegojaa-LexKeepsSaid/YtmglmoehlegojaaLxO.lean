/- Lex: the law that what is answered stays. -/
import Derived.Test.YtmglmoehlegojaaLxM
import Derived.Test.YtmglmoehlegojaaLxD
namespace Go.Proofs.Ytmglmoehlegojaa
namespace Can
open Go Go.RowKit
set_option linter.unusedSimpArgs false
set_option linter.unusedVariables false
theorem keeps_law {H : CH} {q q2 : Option Addr} {c c2 : Nat} {xs ys : List Int} (h : SlAt 1 (CInt .u8) H q c xs) (h2 : SlAt 1 (CInt .u8) H q2 c2 ys) (hm : xs.length ≤ 140737488351232) (hm2 : ys.length ≤ 140737488351232) :
    WpF (tblG Try.prog LG GG) 8 [.slice q xs.length c, .slice q2 ys.length c2] H fun v _ => v = .bool true := by
  obtain ⟨src, rfl⟩ := u8_of h
  obtain ⟨oth, rfl⟩ := u8_of h2
  rw [u8i_len] at hm hm2
  rw [u8i_len, u8i_len]
  exact keeps_wp H h h2 hm hm2
end Can
end Go.Proofs.Ytmglmoehlegojaa
