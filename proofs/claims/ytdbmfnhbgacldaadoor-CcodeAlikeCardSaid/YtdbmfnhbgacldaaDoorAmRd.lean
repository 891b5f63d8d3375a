/- Arguments read as natural numbers. -/
import Derived.Test.YtdbmfnhbgacldaaDoorAmX
namespace Go.Proofs.YtdbmfnhbgacldaaDoor.Am
set_option autoImplicit false
theorem Reads.mapQ {P : Program} {t : TypeId} {α β : Type} {d : α → List I} {Q : α → Prop} {d' : β → List I} {Q' : β → Prop} (h : Reads P t d Q) (f : α → β) (hf : ∀ a, Q a → d' (f a) = d a) (hq : ∀ a, Q a → Q' (f a)) : Reads P t d' Q' := by
  intro H enc w base spare held fuel cs x hx
  obtain ⟨a, ha, hqa⟩ := h _ _ _ _ _ _ _ _ _ hx
  exact ⟨f a, by rw [hf a hqa]; exact ha, hq a hqa⟩
theorem nat_wf_u8 {n : Int} (h : (Lit.int .u8 n).wf = true) : 0 ≤ n ∧ n.toNat < 256 := by
  simp [Lit.wf, IntKind.min, IntKind.max, IntKind.signed, IntKind.bits] at h; omega
theorem nat_wf_u16 {n : Int} (h : (Lit.int .u16 n).wf = true) : 0 ≤ n ∧ n.toNat < 65536 := by
  simp [Lit.wf, IntKind.min, IntKind.max, IntKind.signed, IntKind.bits] at h; omega
theorem nat_wf_u32 {n : Int} (h : (Lit.int .u32 n).wf = true) : 0 ≤ n ∧ n.toNat < 4294967296 := by
  simp [Lit.wf, IntKind.min, IntKind.max, IntKind.signed, IntKind.bits] at h; omega
theorem nat_wf_u64 {n : Int} (h : (Lit.int .u64 n).wf = true) : 0 ≤ n ∧ n.toNat < 18446744073709551616 := by
  simp [Lit.wf, IntKind.min, IntKind.max, IntKind.signed, IntKind.bits] at h; omega
end Go.Proofs.YtdbmfnhbgacldaaDoor.Am
