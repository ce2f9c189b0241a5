import Derived.Test.YtceaeiaoanhlnaaGreatDoorZgc
namespace Go.Proofs.YtceaeiaoanhlnaaGreatDoor
open Go.ChangeShapes Go.WideShapes Go.ChangeAt Go.RowKit Go.Lib Go.Shelf
theorem mesh_pos {L : List Int} {c0 : ConfD} (h : c0.core = genC L) (q : Int) : 0 < (meshC q c0).S.length ∧ ∀ s ∈ (meshC q c0).S, s.K.length ≤ 2 := by
 have hl : c0.S.length = svcsM L := by
  have e : c0.core.S.length = c0.S.length := List.length_map _
  rw [← e, h]
  exact svcsN_len _ _
 have hm := svcsM_bd L
 have hk : ∀ s ∈ c0.S, s.K.length ≤ 2 := fun s hs => by
  have h1 : s.core ∈ (genC L).S := by
   rw [← h]
   exact List.mem_map.2 ⟨s, hs, rfl⟩
  obtain ⟨i, -, hi⟩ := List.mem_map.1 (show s.core ∈ svcsN L (svcsM L) from h1)
  have e : s.core.K = s.K := rfl
  rw [← e, ← hi]
  simp only [svcN, kidsN, List.length_map, List.length_range]
  omega
 unfold meshC
 split
 ·exact ⟨by omega, hk⟩
 ·refine ⟨by show 0 < (c0.S.mapIdx (svcM q)).length; rw [List.length_mapIdx]; omega, fun s hs => ?_⟩
  obtain ⟨i, hi, rfl⟩ := List.mem_mapIdx.1 hs
  unfold svcM
  simp only
  split
  ·exact Nat.zero_le _
  ·exact hk _ (List.getElem_mem hi)
end Go.Proofs.YtceaeiaoanhlnaaGreatDoor
