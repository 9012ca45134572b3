/- A block of cells, told as rows. -/
import Derived.Test.YtojppaicjioohaaM17
set_option linter.all false
set_option linter.constructorNameAsVariable false
namespace Go.Tb
open Go
variable {O : Type} {P : Program} {I : Interp O}
theorem Weak.asRows {m n : Nat} {t : TypeId} {L : List AV} {room l : Nat} {sh : List Sh} {xs : List Rw} {s : St O} (hn : Nat.blt n 16777215 = true) (hg : s.hp.get n = some (.cells t L room)) (hc : chunks sh L l 0 = some xs) (hl : l * sh.length = L.length) :
    Weak I m s { s with hp := s.hp.set n (some (.rows t sh xs room)) } := by
  intro c _ a w ⟨h1, h2, ρ, fp, h3, hs, h4⟩
  refine ⟨h1, h2, ρ, fp, h3, hs.update hn (by rw [hg]; simp) (fun _ _ => rfl) ?_, h4⟩
  obtain ⟨k1, k2⟩ := chunks_spec hc
  obtain ⟨b, z, arr, g1, g2, g3, g4, g5, g6⟩ := hs.ok _ _ hg
  have e : encL sh xs = L := by rw [k2, List.drop_zero, hl, List.take_length]
  refine ⟨b, z, arr, g1, g2, g3, g4, ?_, ?_⟩
  · rw [k1, hl]; exact g5
  · rw [e]; exact g6
end Go.Tb
