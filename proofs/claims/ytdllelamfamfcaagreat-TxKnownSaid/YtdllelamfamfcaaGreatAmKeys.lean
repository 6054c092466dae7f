/- The sorted keys of each map type of this program: the library's contracts, at this program. -/
import Derived.Test.YtdllelamfamfcaaGreatAmTold
import Derived.Test.YtdllelamfamfcaaGreatKeys
namespace Go.Proofs.YtdllelamfamfcaaGreat.Am
open Go Go.Maps Go.Sort Go.Shelf Go.RowKit

theorem sorts (m : Nat) : AnyZI.SortsIn Tryz.prog Tryz.sorted114_ren Fence.wide m :=
  ⟨fun blk off cap ss W hH hblk hsz => callsIn_wide.2 (AnyM.slices_Sort_int Tryz.sort186 blk off cap ss W hH hblk hsz),
   fun p cap W => callsIn_wide.2 (AnyM.slices_Sort_int_none Tryz.sort186 p cap W)⟩

theorem sortsAt {g : Nat} (eg : ∀ args w, (callFunc g args).run Tryz.prog w = .ok (.enter g args) w) {Bm : Nat} {D0 : DataW Unit} {w : World} (hmax : Maps.size D0 ≤ maxLen) (hbytes : Maps.size D0 * 8 ≤ 140737488355328)
    (hseq : SeqGives Fence.wide 2 Tryz.prog g #[.pointer (some ⟨Bm, 0, none⟩)] encZ (fun ss => ss.Perm (intKeys D0)) (Maps.size D0) w) :
    Calls Tryz.prog 114 #[.func (.func g) #[] #[.pointer (some ⟨Bm, 0, none⟩)]] w fun e w' => ∃ (v : Value) (ss : List Int), e = .returned v ∧ ss.Perm (intKeys D0) ∧
      w'.ownsRow w.heap.size 3 1 v ss.length ((ss.mergeSort (fun x y => decide (x ≤ y))).map encZ) ∧ (v = .slice none 0 0 ↔ ss = []) ∧ Below w.heap.size w w' :=
  (callsIn_wide (n := 5)).1 (AnyZI.sorted_in Tryz.sorted114 Fence.wide 5 trivial trivial trivial trivial rfl (by omega) (sorts _) (enters_of Tryz.func186 (by kernel_rfl) rfl) g _ trivial eg _ _ hmax hbytes _ hseq)

/-- The iterators. -/
def iters : List Nat := [187, 288, 299]

theorem sortsKeys : SortsKeys Tryz.prog 114 3 iters := by
  intro g hg Bm b nn D0 w hB hm hown hmax hbytes
  simp only [iters, List.mem_cons, List.not_mem_nil, or_false] at hg
  rcases hg with rfl | rfl | rfl
  · exact sortsAt (enters_of Tryz.func187 (by kernel_rfl) rfl) hmax hbytes (AnyZI.keys_gives (ρ := Tryz.keys115_ren) { Tryz.keys115 with } Fence.wide _ trivial rfl (by omega) Bm b nn D0 w hB hm hown)
  · exact sortsAt (enters_of Tryz.func288 (by kernel_rfl) rfl) hmax hbytes (AnyZI.keys_gives (ρ := Tryz.keys259_ren) { Tryz.keys259 with } Fence.wide _ trivial rfl (by omega) Bm b nn D0 w hB hm hown)
  · exact sortsAt (enters_of Tryz.func299 (by kernel_rfl) rfl) hmax hbytes (AnyZI.keys_gives (ρ := Tryz.keys289_ren) { Tryz.keys289 with } Fence.wide _ trivial rfl (by omega) Bm b nn D0 w hB hm hown)

end Go.Proofs.YtdllelamfamfcaaGreat.Am
