/- slices.symMergeCmpFunc (135): two neighbouring ascending stretches become one, stably. -/
import Derived.Test.YtekhoanjpnjaeaaSymA
import Derived.Test.YtekhoanjpnjaeaaSymB
import Derived.Test.YtekhoanjpnjaeaaRot
import Derived.Deep.RegionHeld3
import Derived.Deep.QuietTactic
import Derived.BigQuiet
import Derived.Deep.DeepCutAuto
namespace Go.Proofs.Ytekhoanjpnjaeaa
open Go.RowKit Go.Sort
theorem sym_any : ∀ n, SymSaid n
  | 0 => fun X P Q Z B off cap a m b N w hn hX hP hQ ham hmb hN hsz hsP hsQ hH => absurd hn (by omega)
  | n + 1 => fun X P Q Z B off cap a m b N w hn hX hP hQ ham hmb hN hsz hsP hsQ hH => by
    by_cases h1 : a + 1 = m
    · match P, hP with
      | [p], _ => exact sym_one X p Q Z B off cap a m b N w hX h1 hQ hmb hN hsz hsQ hH
      | [], h => simp at h; omega
      | _ :: _ :: _, h => simp at h; omega
    by_cases h2 : m + 1 = b
    · match Q, hQ with
      | [q], _ => exact sym_last X P q Z B off cap a m b N w hX hP h2 (by omega) hN hsz hsP hH
      | [], h => simp at h; omega
      | _ :: _ :: _, h => simp at h; omega
    obtain ⟨md, hmd⟩ : ∃ md : Nat, ((a : Int) + b) / 2 = md := ⟨(a + b) / 2, by omega⟩
    by_cases hmm : md < m
    · exact sym_genA n (sym_any n) X P Q Z B off cap a m b N md w hn hX hP hQ (by omega) (by omega) hN hsz hsP hsQ hmd hmm hH
    · exact sym_genB n (sym_any n) X P Q Z B off cap a m b N md w hn hX hP hQ (by omega) (by omega) hN hsz hsP hsQ hmd hmm hH
end Go.Proofs.Ytekhoanjpnjaeaa
