/- What it means to call each function: printed by wip/tools/gen.py. -/
import Derived.Test.YthfpmipeejjogaaGreatDoorGT
namespace Go.Proofs.YthfpmipeejjogaaGreatDoor.G
open Go Go.Proofs.YthfpmipeejjogaaGreatDoor.SL
set_option linter.unusedVariables false
set_option linter.unusedSimpArgs false

/-- althing/althinglaw07.ZtreeShape -/
def c_law07_ZtreeShape (B : World) (ro : AH) (a0 : Sl) (σ : AH) (Q : Bool → AH → Prop) : Prop :=
  ACalls Tryz.prog B ro 3 #[Sl.v a0] σ fun v σ => ∃ (r0 : Bool), v = .bool r0 ∧ Q r0 σ
/-- althing/althinglaw07.made -/
def c_law07_made (B : World) (ro : AH) (a0 : Sl) (σ : AH) (Q : Option Addr → AH → Prop) : Prop :=
  ACalls Tryz.prog B ro 14 #[Sl.v a0] σ fun v σ => ∃ (r0 : Option Addr), v = .pointer r0 ∧ Q r0 σ
/-- (*althing/ztree.Tree).Paths -/
def c_ztree_Tree_Paths (B : World) (ro : AH) (a0 : Option Addr) (a1 : ByteArray) (σ : AH) (Q : Sl → Int → AH → Prop) : Prop :=
  ACalls Tryz.prog B ro 15 #[.pointer a0, .string a1] σ fun v σ => ∃ (r0 : Sl) (r1 : Int), v = .tuple #[Sl.v r0, .int .i64 r1] ∧ Q r0 r1 σ
/-- (*althing/ztree.Tree).Size -/
def c_ztree_Tree_Size (B : World) (ro : AH) (a0 : Option Addr) (σ : AH) (Q : Int → AH → Prop) : Prop :=
  ACalls Tryz.prog B ro 16 #[.pointer a0] σ fun v σ => ∃ (r0 : Int), v = .int .i64 r0 ∧ Q r0 σ
/-- (*althing/ztree.Tree).Get -/
def c_ztree_Tree_Get (B : World) (ro : AH) (a0 : Option Addr) (a1 : ByteArray) (σ : AH) (Q : Sl → Int → Int → Int → Int → Int → AH → Prop) : Prop :=
  ACalls Tryz.prog B ro 17 #[.pointer a0, .string a1] σ fun v σ => ∃ (r0 : Sl) (r1_0 : Int) (r1_1 : Int) (r1_2 : Int) (r1_3 : Int) (r2 : Int), v = .tuple #[Sl.v r0, .agg #[.int .i64 r1_0, .int .i64 r1_1, .int .i64 r1_2, .int .i64 r1_3], .int .i64 r2] ∧ Q r0 r1_0 r1_1 r1_2 r1_3 r2 σ
/-- (*althing/ztree.Tree).Children -/
def c_ztree_Tree_Children (B : World) (ro : AH) (a0 : Option Addr) (a1 : ByteArray) (σ : AH) (Q : Sl → Int → AH → Prop) : Prop :=
  ACalls Tryz.prog B ro 18 #[.pointer a0, .string a1] σ fun v σ => ∃ (r0 : Sl) (r1 : Int), v = .tuple #[Sl.v r0, .int .i64 r1] ∧ Q r0 r1 σ
/-- althing/althingref02.Parent -/
def c_ref02_Parent (B : World) (ro : AH) (a0 : ByteArray) (σ : AH) (Q : ByteArray → Bool → AH → Prop) : Prop :=
  ACalls Tryz.prog B ro 19 #[.string a0] σ fun v σ => ∃ (r0 : ByteArray) (r1 : Bool), v = .tuple #[.string r0, .bool r1] ∧ Q r0 r1 σ
/-- althing/althinglaw07.awake -/
def c_law07_awake (B : World) (ro : AH) (σ : AH) (Q : Bool → AH → Prop) : Prop :=
  ACalls Tryz.prog B ro 20 #[] σ fun v σ => ∃ (r0 : Bool), v = .bool r0 ∧ Q r0 σ
/-- (*althing/ztree.Tree).Create -/
def c_ztree_Tree_Create (B : World) (ro : AH) (a0 : Option Addr) (a1 : ByteArray) (a2 : Sl) (a3 : Int) (a4 : Bool) (σ : AH) (Q : ByteArray → Int → AH → Prop) : Prop :=
  ACalls Tryz.prog B ro 22 #[.pointer a0, .string a1, Sl.v a2, .int .i64 a3, .bool a4] σ fun v σ => ∃ (r0 : ByteArray) (r1 : Int), v = .tuple #[.string r0, .int .i64 r1] ∧ Q r0 r1 σ
/-- althing/althingref01.Copy -/
def c_ref01_Copy (B : World) (ro : AH) (a0 : Sl) (σ : AH) (Q : Sl → AH → Prop) : Prop :=
  ACalls Tryz.prog B ro 23 #[Sl.v a0] σ fun v σ => ∃ (r0 : Sl), v = Sl.v r0 ∧ Q r0 σ
/-- (*althing/ztree.Tree).Delete -/
def c_ztree_Tree_Delete (B : World) (ro : AH) (a0 : Option Addr) (a1 : ByteArray) (a2 : Int) (σ : AH) (Q : Int → AH → Prop) : Prop :=
  ACalls Tryz.prog B ro 24 #[.pointer a0, .string a1, .int .i64 a2] σ fun v σ => ∃ (r0 : Int), v = .int .i64 r0 ∧ Q r0 σ
/-- (*althing/ztree.Tree).Set -/
def c_ztree_Tree_Set (B : World) (ro : AH) (a0 : Option Addr) (a1 : ByteArray) (a2 : Sl) (a3 : Int) (σ : AH) (Q : Int → Int → AH → Prop) : Prop :=
  ACalls Tryz.prog B ro 25 #[.pointer a0, .string a1, Sl.v a2, .int .i64 a3] σ fun v σ => ∃ (r0 : Int) (r1 : Int), v = .tuple #[.int .i64 r0, .int .i64 r1] ∧ Q r0 r1 σ
/-- althing/ztree.New -/
def c_ztree_New (B : World) (ro : AH) (σ : AH) (Q : Option Addr → AH → Prop) : Prop :=
  ACalls Tryz.prog B ro 30 #[] σ fun v σ => ∃ (r0 : Option Addr), v = .pointer r0 ∧ Q r0 σ
/-- althing/path.Check -/
def c_path_Check (B : World) (ro : AH) (a0 : ByteArray) (σ : AH) (Q : Int → AH → Prop) : Prop :=
  ACalls Tryz.prog B ro 55 #[.string a0] σ fun v σ => ∃ (r0 : Int), v = .int .i64 r0 ∧ Q r0 σ
/-- slices.DeleteFunc[[]string,string] -/
def c_slices_DeleteFunc_string_string (B : World) (ro : AH) (a0 : Sl) (a1 : Value) (σ : AH) (Q : Sl → AH → Prop) : Prop :=
  ACalls Tryz.prog B ro 56 #[Sl.v a0, a1] σ fun v σ => ∃ (r0 : Sl), v = Sl.v r0 ∧ Q r0 σ
/-- (*althing/ztree.Tree).paths -/
def c_ztree_Tree_paths (B : World) (ro : AH) (a0 : Option Addr) (σ : AH) (Q : Sl → AH → Prop) : Prop :=
  ACalls Tryz.prog B ro 57 #[.pointer a0] σ fun v σ => ∃ (r0 : Sl), v = Sl.v r0 ∧ Q r0 σ
/-- (*althing/ztree.Tree).Paths$1 -/
def c_ztree_Tree_Paths_c1 (B : World) (ro : AH) (a0 : ByteArray) (a1 : Addr) (σ : AH) (Q : Bool → AH → Prop) : Prop :=
  ACalls Tryz.prog B ro 58 #[.string a0, .pointer (some a1)] σ fun v σ => ∃ (r0 : Bool), v = .bool r0 ∧ Q r0 σ
/-- althing/path.Under -/
def c_path_Under (B : World) (ro : AH) (a0 : ByteArray) (a1 : ByteArray) (σ : AH) (Q : Bool → Int → AH → Prop) : Prop :=
  ACalls Tryz.prog B ro 59 #[.string a0, .string a1] σ fun v σ => ∃ (r0 : Bool) (r1 : Int), v = .tuple #[.bool r0, .int .i64 r1] ∧ Q r0 r1 σ
/-- (*althing/ztree.Tree).find -/
def c_ztree_Tree_find (B : World) (ro : AH) (a0 : Option Addr) (a1 : ByteArray) (σ : AH) (Q : Option Addr → Int → AH → Prop) : Prop :=
  ACalls Tryz.prog B ro 60 #[.pointer a0, .string a1] σ fun v σ => ∃ (r0 : Option Addr) (r1 : Int), v = .tuple #[.pointer r0, .int .i64 r1] ∧ Q r0 r1 σ
/-- bytes.Clone -/
def c_bytes_Clone (B : World) (ro : AH) (a0 : Sl) (σ : AH) (Q : Sl → AH → Prop) : Prop :=
  ACalls Tryz.prog B ro 61 #[Sl.v a0] σ fun v σ => ∃ (r0 : Sl), v = Sl.v r0 ∧ Q r0 σ
/-- althing/path.Parent -/
def c_path_Parent (B : World) (ro : AH) (a0 : ByteArray) (σ : AH) (Q : ByteArray → Int → AH → Prop) : Prop :=
  ACalls Tryz.prog B ro 62 #[.string a0] σ fun v σ => ∃ (r0 : ByteArray) (r1 : Int), v = .tuple #[.string r0, .int .i64 r1] ∧ Q r0 r1 σ
/-- althing/path.Base -/
def c_path_Base (B : World) (ro : AH) (a0 : ByteArray) (σ : AH) (Q : ByteArray → Int → AH → Prop) : Prop :=
  ACalls Tryz.prog B ro 63 #[.string a0] σ fun v σ => ∃ (r0 : ByteArray) (r1 : Int), v = .tuple #[.string r0, .int .i64 r1] ∧ Q r0 r1 σ
/-- althing/althingref02.Parts -/
def c_ref02_Parts (B : World) (ro : AH) (a0 : ByteArray) (σ : AH) (Q : Sl → Bool → AH → Prop) : Prop :=
  ACalls Tryz.prog B ro 64 #[.string a0] σ fun v σ => ∃ (r0 : Sl) (r1 : Bool), v = .tuple #[Sl.v r0, .bool r1] ∧ Q r0 r1 σ
/-- althing/althingref02.Make -/
def c_ref02_Make (B : World) (ro : AH) (a0 : Sl) (σ : AH) (Q : ByteArray → AH → Prop) : Prop :=
  ACalls Tryz.prog B ro 65 #[Sl.v a0] σ fun v σ => ∃ (r0 : ByteArray), v = .string r0 ∧ Q r0 σ
/-- althing/path.Suffix -/
def c_path_Suffix (B : World) (ro : AH) (a0 : ByteArray) (a1 : Int) (σ : AH) (Q : ByteArray → Int → AH → Prop) : Prop :=
  ACalls Tryz.prog B ro 71 #[.string a0, .int .i64 a1] σ fun v σ => ∃ (r0 : ByteArray) (r1 : Int), v = .tuple #[.string r0, .int .i64 r1] ∧ Q r0 r1 σ
/-- althing/althingref01.Join -/
def c_ref01_Join (B : World) (ro : AH) (a0 : Sl) (σ : AH) (Q : Sl → AH → Prop) : Prop :=
  ACalls Tryz.prog B ro 72 #[Sl.v a0] σ fun v σ => ∃ (r0 : Sl), v = Sl.v r0 ∧ Q r0 σ
/-- (*althing/ztree.Tree).check -/
def c_ztree_Tree_check (B : World) (ro : AH) (a0 : Option Addr) (a1 : ByteArray) (a2 : Int) (σ : AH) (Q : Option Addr → Int → AH → Prop) : Prop :=
  ACalls Tryz.prog B ro 73 #[.pointer a0, .string a1, .int .i64 a2] σ fun v σ => ∃ (r0 : Option Addr) (r1 : Int), v = .tuple #[.pointer r0, .int .i64 r1] ∧ Q r0 r1 σ
/-- althing/path.Parts -/
def c_path_Parts (B : World) (ro : AH) (a0 : ByteArray) (σ : AH) (Q : Sl → Int → AH → Prop) : Prop :=
  ACalls Tryz.prog B ro 106 #[.string a0] σ fun v σ => ∃ (r0 : Sl) (r1 : Int), v = .tuple #[Sl.v r0, .int .i64 r1] ∧ Q r0 r1 σ
/-- slices.IndexFunc[[]string,string] -/
def c_slices_IndexFunc_string_string (B : World) (ro : AH) (a0 : Sl) (a1 : Value) (σ : AH) (Q : Int → AH → Prop) : Prop :=
  ACalls Tryz.prog B ro 107 #[Sl.v a0, a1] σ fun v σ => ∃ (r0 : Int), v = .int .i64 r0 ∧ Q r0 σ
/-- slices.Sorted[string] -/
def c_slices_Sorted_string (B : World) (ro : AH) (a0 : Value) (σ : AH) (Q : Sl → AH → Prop) : Prop :=
  ACalls Tryz.prog B ro 108 #[a0] σ fun v σ => ∃ (r0 : Sl), v = Sl.v r0 ∧ Q r0 σ
/-- maps.Keys[map[string]*althing/ztree.node,string,*althing/ztree.node] -/
def c_maps_Keys_ztree_node (B : World) (ro : AH) (a0 : Option Nat) (σ : AH) (Q : Value → AH → Prop) : Prop :=
  ACalls Tryz.prog B ro 109 #[.map a0] σ fun v σ => ∃ (r0 : Value), v = r0 ∧ Q r0 σ
/-- strings.HasPrefix -/
def c_strings_HasPrefix (B : World) (ro : AH) (a0 : ByteArray) (a1 : ByteArray) (σ : AH) (Q : Bool → AH → Prop) : Prop :=
  ACalls Tryz.prog B ro 110 #[.string a0, .string a1] σ fun v σ => ∃ (r0 : Bool), v = .bool r0 ∧ Q r0 σ
/-- strings.LastIndexByte -/
def c_strings_LastIndexByte (B : World) (ro : AH) (a0 : ByteArray) (a1 : Int) (σ : AH) (Q : Int → AH → Prop) : Prop :=
  ACalls Tryz.prog B ro 111 #[.string a0, .int .u8 a1] σ fun v σ => ∃ (r0 : Int), v = .int .i64 r0 ∧ Q r0 σ
/-- althing/althingref02.Name -/
def c_ref02_Name (B : World) (ro : AH) (a0 : ByteArray) (σ : AH) (Q : Bool → AH → Prop) : Prop :=
  ACalls Tryz.prog B ro 112 #[.string a0] σ fun v σ => ∃ (r0 : Bool), v = .bool r0 ∧ Q r0 σ
/-- strconv.Itoa -/
def c_strconv_Itoa (B : World) (ro : AH) (a0 : Int) (σ : AH) (Q : ByteArray → AH → Prop) : Prop :=
  ACalls Tryz.prog B ro 117 #[.int .i64 a0] σ fun v σ => ∃ (r0 : ByteArray), v = .string r0 ∧ Q r0 σ
/-- strings.Repeat -/
def c_strings_Repeat (B : World) (ro : AH) (a0 : ByteArray) (a1 : Int) (σ : AH) (Q : ByteArray → AH → Prop) : Prop :=
  ACalls Tryz.prog B ro 118 #[.string a0, .int .i64 a1] σ fun v σ => ∃ (r0 : ByteArray), v = .string r0 ∧ Q r0 σ
/-- strings.Split -/
def c_strings_Split (B : World) (ro : AH) (a0 : ByteArray) (a1 : ByteArray) (σ : AH) (Q : Sl → AH → Prop) : Prop :=
  ACalls Tryz.prog B ro 128 #[.string a0, .string a1] σ fun v σ => ∃ (r0 : Sl), v = Sl.v r0 ∧ Q r0 σ
/-- althing/path.Name -/
def c_path_Name (B : World) (ro : AH) (a0 : ByteArray) (σ : AH) (Q : Bool → AH → Prop) : Prop :=
  ACalls Tryz.prog B ro 129 #[.string a0] σ fun v σ => ∃ (r0 : Bool), v = .bool r0 ∧ Q r0 σ
/-- internal/stringslite.HasPrefix -/
def c_stringslite_HasPrefix (B : World) (ro : AH) (a0 : ByteArray) (a1 : ByteArray) (σ : AH) (Q : Bool → AH → Prop) : Prop :=
  ACalls Tryz.prog B ro 133 #[.string a0, .string a1] σ fun v σ => ∃ (r0 : Bool), v = .bool r0 ∧ Q r0 σ
/-- internal/bytealg.LastIndexByteString -/
def c_bytealg_LastIndexByteString (B : World) (ro : AH) (a0 : ByteArray) (a1 : Int) (σ : AH) (Q : Int → AH → Prop) : Prop :=
  ACalls Tryz.prog B ro 134 #[.string a0, .int .u8 a1] σ fun v σ => ∃ (r0 : Int), v = .int .i64 r0 ∧ Q r0 σ
end Go.Proofs.YthfpmipeejjogaaGreatDoor.G
