/- The sample: carried out by the evaluator, in every world. -/
import Derived.Test.YtjnpnakcmjndiaaGreatDoorMjr
namespace Go.Cx
open Go Go.Ab Go.Proofs
open Go.RowKit (Below)

noncomputable def sampleRun : Bool := match callBy Tryz.prog tt defD (runC Tryz.prog tt defD 400) 12 [] ⟨.nil, 0⟩ with
  | some (.v (.bool true), _) => true
  | _ => false
theorem sample_true : sampleRun = true := by kernel_rfl

theorem sample_spec : PFun Tryz.prog 12 [] (.val (.bool true)) := by
  intro w M own hg vs hi ha
  simp only [RepAll] at ha
  have hvs : vs = #[] := by simpa using ha
  subst hvs
  have hrun : ∃ H', callBy Tryz.prog tt defD (runC Tryz.prog tt defD 400) 12 [] ⟨.nil, 0⟩ = some (.v (.bool true), H') := by
    have h := sample_true
    unfold sampleRun at h
    split at h
    · rename_i H' e; exact ⟨H', e⟩
    · cases h
  obtain ⟨H', h⟩ := hrun
  have hi0 : InvH Tryz.prog ⟨w, own, M, hg⟩ M Heap.empty w := hi
  refine (closed_ok tt_ok (by kernel_rfl) defOk hnames h w).mono ?_
  rintro e w' ⟨rfl, hb⟩
  refine ⟨_, .val (.bool true), Heap.empty, M, rfl, ⟨rfl, rfl⟩, ?_, by simp only [Rep]⟩
  refine ⟨fun b o v hm => ?_, Mem.le_refl _, fun _ _ _ h => .inl h, hb.os, hb.tape, hb.output, hb.size, fun b hb' _ => hb.block b hb', fun _ _ h => by simp [Heap.empty] at h, fun _ _ h => by simp [Heap.empty] at h,
    fun _ _ _ _ h => by simp [Heap.empty] at h, fun _ _ _ _ _ h => by simp [Heap.empty] at h, fun _ _ _ _ h => by simp [Heap.empty] at h⟩
  have h1 := hi0.mem b o v hm
  have h2 := hb.block b (hi0.mem_lt hm)
  simpa only [World.cell?, h2] using h1
end Go.Cx
