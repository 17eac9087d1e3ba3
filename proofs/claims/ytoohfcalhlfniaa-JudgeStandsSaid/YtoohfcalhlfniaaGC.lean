/- What it means to call each function: printed by wip/tools/gen.py. -/
import Derived.Test.YtoohfcalhlfniaaGT
namespace Go.Proofs.Ytoohfcalhlfniaa.G
open Go Go.Proofs.Ytoohfcalhlfniaa.SL
set_option linter.unusedVariables false
set_option linter.unusedSimpArgs false

/-- althing/althinglaw23.JudgeStands -/
def c_law23_JudgeStands (B : World) (ro : AH) (a0 : Int) (a1 : Sl) (σ : AH) (Q : Bool → AH → Prop) : Prop :=
  ACalls Try.prog B ro 3 #[.int .i64 a0, Sl.v a1] σ fun v σ => ∃ (r0 : Bool), v = .bool r0 ∧ Q r0 σ
theorem c_law23_JudgeStands_mono {B : World} {ro : AH} {a0 : Int} {a1 : Sl} {σ : AH} {Q Q' : Bool → AH → Prop} (h : c_law23_JudgeStands B ro a0 a1 σ Q) (hq : ∀ r0 σ, Sep ro σ → Q r0 σ → Q' r0 σ) : c_law23_JudgeStands B ro a0 a1 σ Q' :=
  ACalls.monoS h fun v σ hs ⟨r0, hv, q⟩ => ⟨r0, hv, hq _ σ hs q⟩
theorem c_law23_JudgeStands_drop {B : World} {ro : AH} {a0 : Int} {a1 : Sl} {σ : AH} {Q Q' : Bool → AH → Prop} (h : c_law23_JudgeStands B ro a0 a1 σ Q) (hq : ∀ r0 σ, Sep ro σ → Q r0 σ → ∃ σ', HLe σ' σ ∧ Q' r0 σ') : c_law23_JudgeStands B ro a0 a1 σ Q' :=
  ACalls.dropS h fun v σ hs ⟨r0, hv, q⟩ => let ⟨σ', hl, q'⟩ := hq _ σ hs q; ⟨σ', hl, ⟨r0, hv, q'⟩⟩
theorem c_law23_JudgeStands_frame {B : World} {ro ψ : AH} {a0 : Int} {a1 : Sl} {σ : AH} {Q : Bool → AH → Prop} (h : c_law23_JudgeStands B ro a0 a1 σ Q) (hd : Disj σ ψ) : c_law23_JudgeStands B ro a0 a1 (join σ ψ) fun r0 σ => ∃ τ, σ = join τ ψ ∧ Disj τ ψ ∧ Q r0 τ :=
  (ACalls.frame h hd).mono fun v σ ⟨τ, h1, h2, r0, hv, q⟩ => ⟨r0, hv, ⟨τ, h1, h2, q⟩⟩
theorem c_law23_JudgeStands_weak {B : World} {ro : AH} {a0 : Int} {a1 : Sl} {σ σ' : AH} {Q : Bool → AH → Prop} (h : c_law23_JudgeStands B ro a0 a1 σ Q) (hl : HLe σ σ') : c_law23_JudgeStands B ro a0 a1 σ' Q := ACalls.weaken h hl

/-- althing/althinglaw23.awake -/
def c_law23_awake (B : World) (ro : AH) (σ : AH) (Q : Bool → AH → Prop) : Prop :=
  ACalls Try.prog B ro 4 #[] σ fun v σ => ∃ (r0 : Bool), v = .bool r0 ∧ Q r0 σ
theorem c_law23_awake_mono {B : World} {ro : AH} {σ : AH} {Q Q' : Bool → AH → Prop} (h : c_law23_awake B ro σ Q) (hq : ∀ r0 σ, Sep ro σ → Q r0 σ → Q' r0 σ) : c_law23_awake B ro σ Q' :=
  ACalls.monoS h fun v σ hs ⟨r0, hv, q⟩ => ⟨r0, hv, hq _ σ hs q⟩
theorem c_law23_awake_drop {B : World} {ro : AH} {σ : AH} {Q Q' : Bool → AH → Prop} (h : c_law23_awake B ro σ Q) (hq : ∀ r0 σ, Sep ro σ → Q r0 σ → ∃ σ', HLe σ' σ ∧ Q' r0 σ') : c_law23_awake B ro σ Q' :=
  ACalls.dropS h fun v σ hs ⟨r0, hv, q⟩ => let ⟨σ', hl, q'⟩ := hq _ σ hs q; ⟨σ', hl, ⟨r0, hv, q'⟩⟩
theorem c_law23_awake_frame {B : World} {ro ψ : AH} {σ : AH} {Q : Bool → AH → Prop} (h : c_law23_awake B ro σ Q) (hd : Disj σ ψ) : c_law23_awake B ro (join σ ψ) fun r0 σ => ∃ τ, σ = join τ ψ ∧ Disj τ ψ ∧ Q r0 τ :=
  (ACalls.frame h hd).mono fun v σ ⟨τ, h1, h2, r0, hv, q⟩ => ⟨r0, hv, ⟨τ, h1, h2, q⟩⟩
theorem c_law23_awake_weak {B : World} {ro : AH} {σ σ' : AH} {Q : Bool → AH → Prop} (h : c_law23_awake B ro σ Q) (hl : HLe σ σ') : c_law23_awake B ro σ' Q := ACalls.weaken h hl

/-- althing/judge.Arrange -/
def c_judge_Arrange (B : World) (ro : AH) (a0 : Int) (a1 : Sl) (σ : AH) (Q : Sl → Bool → AH → Prop) : Prop :=
  ACalls Try.prog B ro 5 #[.int .i64 a0, Sl.v a1] σ fun v σ => ∃ (r0 : Sl) (r1 : Bool), v = .tuple #[Sl.v r0, .bool r1] ∧ Q r0 r1 σ
theorem c_judge_Arrange_mono {B : World} {ro : AH} {a0 : Int} {a1 : Sl} {σ : AH} {Q Q' : Sl → Bool → AH → Prop} (h : c_judge_Arrange B ro a0 a1 σ Q) (hq : ∀ r0 r1 σ, Sep ro σ → Q r0 r1 σ → Q' r0 r1 σ) : c_judge_Arrange B ro a0 a1 σ Q' :=
  ACalls.monoS h fun v σ hs ⟨r0, r1, hv, q⟩ => ⟨r0, r1, hv, hq _ _ σ hs q⟩
theorem c_judge_Arrange_drop {B : World} {ro : AH} {a0 : Int} {a1 : Sl} {σ : AH} {Q Q' : Sl → Bool → AH → Prop} (h : c_judge_Arrange B ro a0 a1 σ Q) (hq : ∀ r0 r1 σ, Sep ro σ → Q r0 r1 σ → ∃ σ', HLe σ' σ ∧ Q' r0 r1 σ') : c_judge_Arrange B ro a0 a1 σ Q' :=
  ACalls.dropS h fun v σ hs ⟨r0, r1, hv, q⟩ => let ⟨σ', hl, q'⟩ := hq _ _ σ hs q; ⟨σ', hl, ⟨r0, r1, hv, q'⟩⟩
theorem c_judge_Arrange_frame {B : World} {ro ψ : AH} {a0 : Int} {a1 : Sl} {σ : AH} {Q : Sl → Bool → AH → Prop} (h : c_judge_Arrange B ro a0 a1 σ Q) (hd : Disj σ ψ) : c_judge_Arrange B ro a0 a1 (join σ ψ) fun r0 r1 σ => ∃ τ, σ = join τ ψ ∧ Disj τ ψ ∧ Q r0 r1 τ :=
  (ACalls.frame h hd).mono fun v σ ⟨τ, h1, h2, r0, r1, hv, q⟩ => ⟨r0, r1, hv, ⟨τ, h1, h2, q⟩⟩
theorem c_judge_Arrange_weak {B : World} {ro : AH} {a0 : Int} {a1 : Sl} {σ σ' : AH} {Q : Sl → Bool → AH → Prop} (h : c_judge_Arrange B ro a0 a1 σ Q) (hl : HLe σ σ') : c_judge_Arrange B ro a0 a1 σ' Q := ACalls.weaken h hl

/-- althing/althingref01.SameInts -/
def c_ref01_SameInts (B : World) (ro : AH) (a0 : Sl) (a1 : Sl) (σ : AH) (Q : Bool → AH → Prop) : Prop :=
  ACalls Try.prog B ro 6 #[Sl.v a0, Sl.v a1] σ fun v σ => ∃ (r0 : Bool), v = .bool r0 ∧ Q r0 σ
theorem c_ref01_SameInts_mono {B : World} {ro : AH} {a0 : Sl} {a1 : Sl} {σ : AH} {Q Q' : Bool → AH → Prop} (h : c_ref01_SameInts B ro a0 a1 σ Q) (hq : ∀ r0 σ, Sep ro σ → Q r0 σ → Q' r0 σ) : c_ref01_SameInts B ro a0 a1 σ Q' :=
  ACalls.monoS h fun v σ hs ⟨r0, hv, q⟩ => ⟨r0, hv, hq _ σ hs q⟩
theorem c_ref01_SameInts_drop {B : World} {ro : AH} {a0 : Sl} {a1 : Sl} {σ : AH} {Q Q' : Bool → AH → Prop} (h : c_ref01_SameInts B ro a0 a1 σ Q) (hq : ∀ r0 σ, Sep ro σ → Q r0 σ → ∃ σ', HLe σ' σ ∧ Q' r0 σ') : c_ref01_SameInts B ro a0 a1 σ Q' :=
  ACalls.dropS h fun v σ hs ⟨r0, hv, q⟩ => let ⟨σ', hl, q'⟩ := hq _ σ hs q; ⟨σ', hl, ⟨r0, hv, q'⟩⟩
theorem c_ref01_SameInts_frame {B : World} {ro ψ : AH} {a0 : Sl} {a1 : Sl} {σ : AH} {Q : Bool → AH → Prop} (h : c_ref01_SameInts B ro a0 a1 σ Q) (hd : Disj σ ψ) : c_ref01_SameInts B ro a0 a1 (join σ ψ) fun r0 σ => ∃ τ, σ = join τ ψ ∧ Disj τ ψ ∧ Q r0 τ :=
  (ACalls.frame h hd).mono fun v σ ⟨τ, h1, h2, r0, hv, q⟩ => ⟨r0, hv, ⟨τ, h1, h2, q⟩⟩
theorem c_ref01_SameInts_weak {B : World} {ro : AH} {a0 : Sl} {a1 : Sl} {σ σ' : AH} {Q : Bool → AH → Prop} (h : c_ref01_SameInts B ro a0 a1 σ Q) (hl : HLe σ σ') : c_ref01_SameInts B ro a0 a1 σ' Q := ACalls.weaken h hl

/-- container/heap.Push -/
def c_heap_Push (B : World) (ro : AH) (a0 : Value) (a1 : Value) (σ : AH) (Q : AH → Prop) : Prop :=
  ACalls Try.prog B ro 7 #[a0, a1] σ fun v σ => v = .tuple #[] ∧ Q σ
theorem c_heap_Push_mono {B : World} {ro : AH} {a0 : Value} {a1 : Value} {σ : AH} {Q Q' : AH → Prop} (h : c_heap_Push B ro a0 a1 σ Q) (hq : ∀ σ, Sep ro σ → Q σ → Q' σ) : c_heap_Push B ro a0 a1 σ Q' :=
  ACalls.monoS h fun v σ hs ⟨hv, q⟩ => ⟨hv, hq σ hs q⟩
theorem c_heap_Push_drop {B : World} {ro : AH} {a0 : Value} {a1 : Value} {σ : AH} {Q Q' : AH → Prop} (h : c_heap_Push B ro a0 a1 σ Q) (hq : ∀ σ, Sep ro σ → Q σ → ∃ σ', HLe σ' σ ∧ Q' σ') : c_heap_Push B ro a0 a1 σ Q' :=
  ACalls.dropS h fun v σ hs ⟨hv, q⟩ => let ⟨σ', hl, q'⟩ := hq σ hs q; ⟨σ', hl, ⟨hv, q'⟩⟩
theorem c_heap_Push_frame {B : World} {ro ψ : AH} {a0 : Value} {a1 : Value} {σ : AH} {Q : AH → Prop} (h : c_heap_Push B ro a0 a1 σ Q) (hd : Disj σ ψ) : c_heap_Push B ro a0 a1 (join σ ψ) fun σ => ∃ τ, σ = join τ ψ ∧ Disj τ ψ ∧ Q τ :=
  (ACalls.frame h hd).mono fun v σ ⟨τ, h1, h2, hv, q⟩ => ⟨hv, ⟨τ, h1, h2, q⟩⟩
theorem c_heap_Push_weak {B : World} {ro : AH} {a0 : Value} {a1 : Value} {σ σ' : AH} {Q : AH → Prop} (h : c_heap_Push B ro a0 a1 σ Q) (hl : HLe σ σ') : c_heap_Push B ro a0 a1 σ' Q := ACalls.weaken h hl

/-- (sort.IntSlice).Len -/
def c_sort_IntSlice_Len (B : World) (ro : AH) (a0 : Sl) (σ : AH) (Q : Int → AH → Prop) : Prop :=
  ACalls Try.prog B ro 8 #[Sl.v a0] σ fun v σ => ∃ (r0 : Int), v = .int .i64 r0 ∧ Q r0 σ
theorem c_sort_IntSlice_Len_mono {B : World} {ro : AH} {a0 : Sl} {σ : AH} {Q Q' : Int → AH → Prop} (h : c_sort_IntSlice_Len B ro a0 σ Q) (hq : ∀ r0 σ, Sep ro σ → Q r0 σ → Q' r0 σ) : c_sort_IntSlice_Len B ro a0 σ Q' :=
  ACalls.monoS h fun v σ hs ⟨r0, hv, q⟩ => ⟨r0, hv, hq _ σ hs q⟩
theorem c_sort_IntSlice_Len_drop {B : World} {ro : AH} {a0 : Sl} {σ : AH} {Q Q' : Int → AH → Prop} (h : c_sort_IntSlice_Len B ro a0 σ Q) (hq : ∀ r0 σ, Sep ro σ → Q r0 σ → ∃ σ', HLe σ' σ ∧ Q' r0 σ') : c_sort_IntSlice_Len B ro a0 σ Q' :=
  ACalls.dropS h fun v σ hs ⟨r0, hv, q⟩ => let ⟨σ', hl, q'⟩ := hq _ σ hs q; ⟨σ', hl, ⟨r0, hv, q'⟩⟩
theorem c_sort_IntSlice_Len_frame {B : World} {ro ψ : AH} {a0 : Sl} {σ : AH} {Q : Int → AH → Prop} (h : c_sort_IntSlice_Len B ro a0 σ Q) (hd : Disj σ ψ) : c_sort_IntSlice_Len B ro a0 (join σ ψ) fun r0 σ => ∃ τ, σ = join τ ψ ∧ Disj τ ψ ∧ Q r0 τ :=
  (ACalls.frame h hd).mono fun v σ ⟨τ, h1, h2, r0, hv, q⟩ => ⟨r0, hv, ⟨τ, h1, h2, q⟩⟩
theorem c_sort_IntSlice_Len_weak {B : World} {ro : AH} {a0 : Sl} {σ σ' : AH} {Q : Int → AH → Prop} (h : c_sort_IntSlice_Len B ro a0 σ Q) (hl : HLe σ σ') : c_sort_IntSlice_Len B ro a0 σ' Q := ACalls.weaken h hl

/-- container/heap.Pop -/
def c_heap_Pop (B : World) (ro : AH) (a0 : Value) (σ : AH) (Q : Value → AH → Prop) : Prop :=
  ACalls Try.prog B ro 9 #[a0] σ fun v σ => ∃ (r0 : Value), v = r0 ∧ Q r0 σ
theorem c_heap_Pop_mono {B : World} {ro : AH} {a0 : Value} {σ : AH} {Q Q' : Value → AH → Prop} (h : c_heap_Pop B ro a0 σ Q) (hq : ∀ r0 σ, Sep ro σ → Q r0 σ → Q' r0 σ) : c_heap_Pop B ro a0 σ Q' :=
  ACalls.monoS h fun v σ hs ⟨r0, hv, q⟩ => ⟨r0, hv, hq _ σ hs q⟩
theorem c_heap_Pop_drop {B : World} {ro : AH} {a0 : Value} {σ : AH} {Q Q' : Value → AH → Prop} (h : c_heap_Pop B ro a0 σ Q) (hq : ∀ r0 σ, Sep ro σ → Q r0 σ → ∃ σ', HLe σ' σ ∧ Q' r0 σ') : c_heap_Pop B ro a0 σ Q' :=
  ACalls.dropS h fun v σ hs ⟨r0, hv, q⟩ => let ⟨σ', hl, q'⟩ := hq _ σ hs q; ⟨σ', hl, ⟨r0, hv, q'⟩⟩
theorem c_heap_Pop_frame {B : World} {ro ψ : AH} {a0 : Value} {σ : AH} {Q : Value → AH → Prop} (h : c_heap_Pop B ro a0 σ Q) (hd : Disj σ ψ) : c_heap_Pop B ro a0 (join σ ψ) fun r0 σ => ∃ τ, σ = join τ ψ ∧ Disj τ ψ ∧ Q r0 τ :=
  (ACalls.frame h hd).mono fun v σ ⟨τ, h1, h2, r0, hv, q⟩ => ⟨r0, hv, ⟨τ, h1, h2, q⟩⟩
theorem c_heap_Pop_weak {B : World} {ro : AH} {a0 : Value} {σ σ' : AH} {Q : Value → AH → Prop} (h : c_heap_Pop B ro a0 σ Q) (hl : HLe σ σ') : c_heap_Pop B ro a0 σ' Q := ACalls.weaken h hl

/-- container/heap.up -/
def c_heap_up (B : World) (ro : AH) (a0 : Value) (a1 : Int) (σ : AH) (Q : AH → Prop) : Prop :=
  ACalls Try.prog B ro 10 #[a0, .int .i64 a1] σ fun v σ => v = .tuple #[] ∧ Q σ
theorem c_heap_up_mono {B : World} {ro : AH} {a0 : Value} {a1 : Int} {σ : AH} {Q Q' : AH → Prop} (h : c_heap_up B ro a0 a1 σ Q) (hq : ∀ σ, Sep ro σ → Q σ → Q' σ) : c_heap_up B ro a0 a1 σ Q' :=
  ACalls.monoS h fun v σ hs ⟨hv, q⟩ => ⟨hv, hq σ hs q⟩
theorem c_heap_up_drop {B : World} {ro : AH} {a0 : Value} {a1 : Int} {σ : AH} {Q Q' : AH → Prop} (h : c_heap_up B ro a0 a1 σ Q) (hq : ∀ σ, Sep ro σ → Q σ → ∃ σ', HLe σ' σ ∧ Q' σ') : c_heap_up B ro a0 a1 σ Q' :=
  ACalls.dropS h fun v σ hs ⟨hv, q⟩ => let ⟨σ', hl, q'⟩ := hq σ hs q; ⟨σ', hl, ⟨hv, q'⟩⟩
theorem c_heap_up_frame {B : World} {ro ψ : AH} {a0 : Value} {a1 : Int} {σ : AH} {Q : AH → Prop} (h : c_heap_up B ro a0 a1 σ Q) (hd : Disj σ ψ) : c_heap_up B ro a0 a1 (join σ ψ) fun σ => ∃ τ, σ = join τ ψ ∧ Disj τ ψ ∧ Q τ :=
  (ACalls.frame h hd).mono fun v σ ⟨τ, h1, h2, hv, q⟩ => ⟨hv, ⟨τ, h1, h2, q⟩⟩
theorem c_heap_up_weak {B : World} {ro : AH} {a0 : Value} {a1 : Int} {σ σ' : AH} {Q : AH → Prop} (h : c_heap_up B ro a0 a1 σ Q) (hl : HLe σ σ') : c_heap_up B ro a0 a1 σ' Q := ACalls.weaken h hl

/-- container/heap.down -/
def c_heap_down (B : World) (ro : AH) (a0 : Value) (a1 : Int) (a2 : Int) (σ : AH) (Q : Bool → AH → Prop) : Prop :=
  ACalls Try.prog B ro 11 #[a0, .int .i64 a1, .int .i64 a2] σ fun v σ => ∃ (r0 : Bool), v = .bool r0 ∧ Q r0 σ
theorem c_heap_down_mono {B : World} {ro : AH} {a0 : Value} {a1 : Int} {a2 : Int} {σ : AH} {Q Q' : Bool → AH → Prop} (h : c_heap_down B ro a0 a1 a2 σ Q) (hq : ∀ r0 σ, Sep ro σ → Q r0 σ → Q' r0 σ) : c_heap_down B ro a0 a1 a2 σ Q' :=
  ACalls.monoS h fun v σ hs ⟨r0, hv, q⟩ => ⟨r0, hv, hq _ σ hs q⟩
theorem c_heap_down_drop {B : World} {ro : AH} {a0 : Value} {a1 : Int} {a2 : Int} {σ : AH} {Q Q' : Bool → AH → Prop} (h : c_heap_down B ro a0 a1 a2 σ Q) (hq : ∀ r0 σ, Sep ro σ → Q r0 σ → ∃ σ', HLe σ' σ ∧ Q' r0 σ') : c_heap_down B ro a0 a1 a2 σ Q' :=
  ACalls.dropS h fun v σ hs ⟨r0, hv, q⟩ => let ⟨σ', hl, q'⟩ := hq _ σ hs q; ⟨σ', hl, ⟨r0, hv, q'⟩⟩
theorem c_heap_down_frame {B : World} {ro ψ : AH} {a0 : Value} {a1 : Int} {a2 : Int} {σ : AH} {Q : Bool → AH → Prop} (h : c_heap_down B ro a0 a1 a2 σ Q) (hd : Disj σ ψ) : c_heap_down B ro a0 a1 a2 (join σ ψ) fun r0 σ => ∃ τ, σ = join τ ψ ∧ Disj τ ψ ∧ Q r0 τ :=
  (ACalls.frame h hd).mono fun v σ ⟨τ, h1, h2, r0, hv, q⟩ => ⟨r0, hv, ⟨τ, h1, h2, q⟩⟩
theorem c_heap_down_weak {B : World} {ro : AH} {a0 : Value} {a1 : Int} {a2 : Int} {σ σ' : AH} {Q : Bool → AH → Prop} (h : c_heap_down B ro a0 a1 a2 σ Q) (hl : HLe σ σ') : c_heap_down B ro a0 a1 a2 σ' Q := ACalls.weaken h hl

/-- (sort.IntSlice).Less -/
def c_sort_IntSlice_Less (B : World) (ro : AH) (a0 : Sl) (a1 : Int) (a2 : Int) (σ : AH) (Q : Bool → AH → Prop) : Prop :=
  ACalls Try.prog B ro 28 #[Sl.v a0, .int .i64 a1, .int .i64 a2] σ fun v σ => ∃ (r0 : Bool), v = .bool r0 ∧ Q r0 σ
theorem c_sort_IntSlice_Less_mono {B : World} {ro : AH} {a0 : Sl} {a1 : Int} {a2 : Int} {σ : AH} {Q Q' : Bool → AH → Prop} (h : c_sort_IntSlice_Less B ro a0 a1 a2 σ Q) (hq : ∀ r0 σ, Sep ro σ → Q r0 σ → Q' r0 σ) : c_sort_IntSlice_Less B ro a0 a1 a2 σ Q' :=
  ACalls.monoS h fun v σ hs ⟨r0, hv, q⟩ => ⟨r0, hv, hq _ σ hs q⟩
theorem c_sort_IntSlice_Less_drop {B : World} {ro : AH} {a0 : Sl} {a1 : Int} {a2 : Int} {σ : AH} {Q Q' : Bool → AH → Prop} (h : c_sort_IntSlice_Less B ro a0 a1 a2 σ Q) (hq : ∀ r0 σ, Sep ro σ → Q r0 σ → ∃ σ', HLe σ' σ ∧ Q' r0 σ') : c_sort_IntSlice_Less B ro a0 a1 a2 σ Q' :=
  ACalls.dropS h fun v σ hs ⟨r0, hv, q⟩ => let ⟨σ', hl, q'⟩ := hq _ σ hs q; ⟨σ', hl, ⟨r0, hv, q'⟩⟩
theorem c_sort_IntSlice_Less_frame {B : World} {ro ψ : AH} {a0 : Sl} {a1 : Int} {a2 : Int} {σ : AH} {Q : Bool → AH → Prop} (h : c_sort_IntSlice_Less B ro a0 a1 a2 σ Q) (hd : Disj σ ψ) : c_sort_IntSlice_Less B ro a0 a1 a2 (join σ ψ) fun r0 σ => ∃ τ, σ = join τ ψ ∧ Disj τ ψ ∧ Q r0 τ :=
  (ACalls.frame h hd).mono fun v σ ⟨τ, h1, h2, r0, hv, q⟩ => ⟨r0, hv, ⟨τ, h1, h2, q⟩⟩
theorem c_sort_IntSlice_Less_weak {B : World} {ro : AH} {a0 : Sl} {a1 : Int} {a2 : Int} {σ σ' : AH} {Q : Bool → AH → Prop} (h : c_sort_IntSlice_Less B ro a0 a1 a2 σ Q) (hl : HLe σ σ') : c_sort_IntSlice_Less B ro a0 a1 a2 σ' Q := ACalls.weaken h hl

/-- (*althing/judge.least).Pop -/
def c_judge_least_Pop (B : World) (ro : AH) (a0 : Option Addr) (σ : AH) (Q : Value → AH → Prop) : Prop :=
  ACalls Try.prog B ro 29 #[.pointer a0] σ fun v σ => ∃ (r0 : Value), v = r0 ∧ Q r0 σ
theorem c_judge_least_Pop_mono {B : World} {ro : AH} {a0 : Option Addr} {σ : AH} {Q Q' : Value → AH → Prop} (h : c_judge_least_Pop B ro a0 σ Q) (hq : ∀ r0 σ, Sep ro σ → Q r0 σ → Q' r0 σ) : c_judge_least_Pop B ro a0 σ Q' :=
  ACalls.monoS h fun v σ hs ⟨r0, hv, q⟩ => ⟨r0, hv, hq _ σ hs q⟩
theorem c_judge_least_Pop_drop {B : World} {ro : AH} {a0 : Option Addr} {σ : AH} {Q Q' : Value → AH → Prop} (h : c_judge_least_Pop B ro a0 σ Q) (hq : ∀ r0 σ, Sep ro σ → Q r0 σ → ∃ σ', HLe σ' σ ∧ Q' r0 σ') : c_judge_least_Pop B ro a0 σ Q' :=
  ACalls.dropS h fun v σ hs ⟨r0, hv, q⟩ => let ⟨σ', hl, q'⟩ := hq _ σ hs q; ⟨σ', hl, ⟨r0, hv, q'⟩⟩
theorem c_judge_least_Pop_frame {B : World} {ro ψ : AH} {a0 : Option Addr} {σ : AH} {Q : Value → AH → Prop} (h : c_judge_least_Pop B ro a0 σ Q) (hd : Disj σ ψ) : c_judge_least_Pop B ro a0 (join σ ψ) fun r0 σ => ∃ τ, σ = join τ ψ ∧ Disj τ ψ ∧ Q r0 τ :=
  (ACalls.frame h hd).mono fun v σ ⟨τ, h1, h2, r0, hv, q⟩ => ⟨r0, hv, ⟨τ, h1, h2, q⟩⟩
theorem c_judge_least_Pop_weak {B : World} {ro : AH} {a0 : Option Addr} {σ σ' : AH} {Q : Value → AH → Prop} (h : c_judge_least_Pop B ro a0 σ Q) (hl : HLe σ σ') : c_judge_least_Pop B ro a0 σ' Q := ACalls.weaken h hl

/-- (*althing/judge.least).Push -/
def c_judge_least_Push (B : World) (ro : AH) (a0 : Option Addr) (a1 : Value) (σ : AH) (Q : AH → Prop) : Prop :=
  ACalls Try.prog B ro 30 #[.pointer a0, a1] σ fun v σ => v = .tuple #[] ∧ Q σ
theorem c_judge_least_Push_mono {B : World} {ro : AH} {a0 : Option Addr} {a1 : Value} {σ : AH} {Q Q' : AH → Prop} (h : c_judge_least_Push B ro a0 a1 σ Q) (hq : ∀ σ, Sep ro σ → Q σ → Q' σ) : c_judge_least_Push B ro a0 a1 σ Q' :=
  ACalls.monoS h fun v σ hs ⟨hv, q⟩ => ⟨hv, hq σ hs q⟩
theorem c_judge_least_Push_drop {B : World} {ro : AH} {a0 : Option Addr} {a1 : Value} {σ : AH} {Q Q' : AH → Prop} (h : c_judge_least_Push B ro a0 a1 σ Q) (hq : ∀ σ, Sep ro σ → Q σ → ∃ σ', HLe σ' σ ∧ Q' σ') : c_judge_least_Push B ro a0 a1 σ Q' :=
  ACalls.dropS h fun v σ hs ⟨hv, q⟩ => let ⟨σ', hl, q'⟩ := hq σ hs q; ⟨σ', hl, ⟨hv, q'⟩⟩
theorem c_judge_least_Push_frame {B : World} {ro ψ : AH} {a0 : Option Addr} {a1 : Value} {σ : AH} {Q : AH → Prop} (h : c_judge_least_Push B ro a0 a1 σ Q) (hd : Disj σ ψ) : c_judge_least_Push B ro a0 a1 (join σ ψ) fun σ => ∃ τ, σ = join τ ψ ∧ Disj τ ψ ∧ Q τ :=
  (ACalls.frame h hd).mono fun v σ ⟨τ, h1, h2, hv, q⟩ => ⟨hv, ⟨τ, h1, h2, q⟩⟩
theorem c_judge_least_Push_weak {B : World} {ro : AH} {a0 : Option Addr} {a1 : Value} {σ σ' : AH} {Q : AH → Prop} (h : c_judge_least_Push B ro a0 a1 σ Q) (hl : HLe σ σ') : c_judge_least_Push B ro a0 a1 σ' Q := ACalls.weaken h hl

/-- (sort.IntSlice).Swap -/
def c_sort_IntSlice_Swap (B : World) (ro : AH) (a0 : Sl) (a1 : Int) (a2 : Int) (σ : AH) (Q : AH → Prop) : Prop :=
  ACalls Try.prog B ro 32 #[Sl.v a0, .int .i64 a1, .int .i64 a2] σ fun v σ => v = .tuple #[] ∧ Q σ
theorem c_sort_IntSlice_Swap_mono {B : World} {ro : AH} {a0 : Sl} {a1 : Int} {a2 : Int} {σ : AH} {Q Q' : AH → Prop} (h : c_sort_IntSlice_Swap B ro a0 a1 a2 σ Q) (hq : ∀ σ, Sep ro σ → Q σ → Q' σ) : c_sort_IntSlice_Swap B ro a0 a1 a2 σ Q' :=
  ACalls.monoS h fun v σ hs ⟨hv, q⟩ => ⟨hv, hq σ hs q⟩
theorem c_sort_IntSlice_Swap_drop {B : World} {ro : AH} {a0 : Sl} {a1 : Int} {a2 : Int} {σ : AH} {Q Q' : AH → Prop} (h : c_sort_IntSlice_Swap B ro a0 a1 a2 σ Q) (hq : ∀ σ, Sep ro σ → Q σ → ∃ σ', HLe σ' σ ∧ Q' σ') : c_sort_IntSlice_Swap B ro a0 a1 a2 σ Q' :=
  ACalls.dropS h fun v σ hs ⟨hv, q⟩ => let ⟨σ', hl, q'⟩ := hq σ hs q; ⟨σ', hl, ⟨hv, q'⟩⟩
theorem c_sort_IntSlice_Swap_frame {B : World} {ro ψ : AH} {a0 : Sl} {a1 : Int} {a2 : Int} {σ : AH} {Q : AH → Prop} (h : c_sort_IntSlice_Swap B ro a0 a1 a2 σ Q) (hd : Disj σ ψ) : c_sort_IntSlice_Swap B ro a0 a1 a2 (join σ ψ) fun σ => ∃ τ, σ = join τ ψ ∧ Disj τ ψ ∧ Q τ :=
  (ACalls.frame h hd).mono fun v σ ⟨τ, h1, h2, hv, q⟩ => ⟨hv, ⟨τ, h1, h2, q⟩⟩
theorem c_sort_IntSlice_Swap_weak {B : World} {ro : AH} {a0 : Sl} {a1 : Int} {a2 : Int} {σ σ' : AH} {Q : AH → Prop} (h : c_sort_IntSlice_Swap B ro a0 a1 a2 σ Q) (hl : HLe σ σ') : c_sort_IntSlice_Swap B ro a0 a1 a2 σ' Q := ACalls.weaken h hl

end Go.Proofs.Ytoohfcalhlfniaa.G
