/- GC, GLib, GR1 -/
import Derived.Test.YtfobjidchipdaaaGreatDoorXC
/- What it means to call each function: printed by wip/tools/gen.py. -/
namespace Go.Proofs.YtfobjidchipdaaaGreatDoor.G
open Go Go.Proofs.YtfobjidchipdaaaGreatDoor.SL
set_option linter.unusedVariables false
set_option linter.unusedSimpArgs false

/-- althing/althinglaw05.SnapChunks -/
def c_law05_SnapChunks (B : World) (ro : AH) (a0_0 : Int) (a0_1 : Sl) (a0_2 : Int) (a0_3 : Sl) (σ : AH) (Q : Bool → AH → Prop) : Prop :=
  ACalls Tryz.prog B ro 4 #[.agg #[.int .i64 a0_0, Sl.v a0_1, .int .i64 a0_2, Sl.v a0_3]] σ fun v σ => ∃ (r0 : Bool), v = .bool r0 ∧ Q r0 σ
/-- althing/disk.New -/
def c_disk_New (B : World) (ro : AH) (a0 : Int) (σ : AH) (Q : Option Addr → Int → AH → Prop) : Prop :=
  ACalls Tryz.prog B ro 9 #[.int .i64 a0] σ fun v σ => ∃ (r0 : Option Addr) (r1 : Int), v = .tuple #[.pointer r0, .int .i64 r1] ∧ Q r0 r1 σ
/-- althing/althinglaw05.awake -/
def c_law05_awake (B : World) (ro : AH) (σ : AH) (Q : Bool → AH → Prop) : Prop :=
  ACalls Tryz.prog B ro 10 #[] σ fun v σ => ∃ (r0 : Bool), v = .bool r0 ∧ Q r0 σ
theorem c_law05_awake_mono {B : World} {ro : AH} {σ : AH} {Q Q' : Bool → AH → Prop} (h : c_law05_awake B ro σ Q) (hq : ∀ r0 σ, Sep ro σ → Q r0 σ → Q' r0 σ) : c_law05_awake B ro σ Q' :=
  ACalls.monoS h fun v σ hs ⟨r0, hv, q⟩ => ⟨r0, hv, hq _ σ hs q⟩
/-- althing/snap.Save -/
def c_snap_Save (B : World) (ro : AH) (a0 : Option Addr) (a1 : ByteArray) (a2 : Int) (a3 : Sl) (σ : AH) (Q : Int → AH → Prop) : Prop :=
  ACalls Tryz.prog B ro 11 #[.pointer a0, .string a1, .int .i64 a2, Sl.v a3] σ fun v σ => ∃ (r0 : Int), v = .int .i64 r0 ∧ Q r0 σ
/-- althing/althingref01.Copy -/
def c_ref01_Copy (B : World) (ro : AH) (a0 : Sl) (σ : AH) (Q : Sl → AH → Prop) : Prop :=
  ACalls Tryz.prog B ro 12 #[Sl.v a0] σ fun v σ => ∃ (r0 : Sl), v = Sl.v r0 ∧ Q r0 σ
/-- althing/snap.Load -/
def c_snap_Load (B : World) (ro : AH) (a0 : Option Addr) (a1 : ByteArray) (σ : AH) (Q : Int → Sl → Bool → Int → AH → Prop) : Prop :=
  ACalls Tryz.prog B ro 13 #[.pointer a0, .string a1] σ fun v σ => ∃ (r0 : Int) (r1 : Sl) (r2 : Bool) (r3 : Int), v = .tuple #[.int .i64 r0, Sl.v r1, .bool r2, .int .i64 r3] ∧ Q r0 r1 r2 r3 σ
theorem c_snap_Load_mono {B : World} {ro : AH} {a0 : Option Addr} {a1 : ByteArray} {σ : AH} {Q Q' : Int → Sl → Bool → Int → AH → Prop} (h : c_snap_Load B ro a0 a1 σ Q) (hq : ∀ r0 r1 r2 r3 σ, Sep ro σ → Q r0 r1 r2 r3 σ → Q' r0 r1 r2 r3 σ) : c_snap_Load B ro a0 a1 σ Q' :=
  ACalls.monoS h fun v σ hs ⟨r0, r1, r2, r3, hv, q⟩ => ⟨r0, r1, r2, r3, hv, hq _ _ _ _ σ hs q⟩
/-- (althing/disk.table).Used -/
def c_disk_table_Used (B : World) (ro : AH) (a0 : Option Nat) (σ : AH) (Q : Int → AH → Prop) : Prop :=
  ACalls Tryz.prog B ro 14 #[.map a0] σ fun v σ => ∃ (r0 : Int), v = .int .i64 r0 ∧ Q r0 σ
/-- althing/althingref01.Same -/
def c_ref01_Same (B : World) (ro : AH) (a0 : Sl) (a1 : Sl) (σ : AH) (Q : Bool → AH → Prop) : Prop :=
  ACalls Tryz.prog B ro 17 #[Sl.v a0, Sl.v a1] σ fun v σ => ∃ (r0 : Bool), v = .bool r0 ∧ Q r0 σ
/-- althing/snap.Chunks -/
def c_snap_Chunks (B : World) (ro : AH) (a0 : Int) (a1 : Sl) (a2 : Int) (σ : AH) (Q : Sl → Int → AH → Prop) : Prop :=
  ACalls Tryz.prog B ro 18 #[.int .i64 a0, Sl.v a1, .int .i64 a2] σ fun v σ => ∃ (r0 : Sl) (r1 : Int), v = .tuple #[Sl.v r0, .int .i64 r1] ∧ Q r0 r1 σ
/-- althing/althingref05.Chunks -/
def c_ref05_Chunks (B : World) (ro : AH) (a0 : Int) (a1 : Sl) (a2 : Int) (σ : AH) (Q : Sl → Int → AH → Prop) : Prop :=
  ACalls Tryz.prog B ro 19 #[.int .i64 a0, Sl.v a1, .int .i64 a2] σ fun v σ => ∃ (r0 : Sl) (r1 : Int), v = .tuple #[Sl.v r0, .int .i64 r1] ∧ Q r0 r1 σ
/-- althing/snap.NewAsm -/
def c_snap_NewAsm (B : World) (ro : AH) (σ : AH) (Q : Option Addr → AH → Prop) : Prop :=
  ACalls Tryz.prog B ro 20 #[] σ fun v σ => ∃ (r0 : Option Addr), v = .pointer r0 ∧ Q r0 σ
/-- (*althing/snap.Asm).Add -/
def c_snap_Asm_Add (B : World) (ro : AH) (a0 : Option Addr) (a1 : Sl) (σ : AH) (Q : Int → AH → Prop) : Prop :=
  ACalls Tryz.prog B ro 21 #[.pointer a0, Sl.v a1] σ fun v σ => ∃ (r0 : Int), v = .int .i64 r0 ∧ Q r0 σ
/-- (*althing/althingref05.Asm).Add -/
def c_ref05_Asm_Add (B : World) (ro : AH) (a0 : Option Addr) (a1 : Sl) (σ : AH) (Q : Int → AH → Prop) : Prop :=
  ACalls Tryz.prog B ro 22 #[.pointer a0, Sl.v a1] σ fun v σ => ∃ (r0 : Int), v = .int .i64 r0 ∧ Q r0 σ
/-- (*althing/snap.Asm).Done -/
def c_snap_Asm_Done (B : World) (ro : AH) (a0 : Option Addr) (σ : AH) (Q : Int → Sl → Bool → AH → Prop) : Prop :=
  ACalls Tryz.prog B ro 23 #[.pointer a0] σ fun v σ => ∃ (r0 : Int) (r1 : Sl) (r2 : Bool), v = .tuple #[.int .i64 r0, Sl.v r1, .bool r2] ∧ Q r0 r1 r2 σ
/-- (*althing/althingref05.Asm).Done -/
def c_ref05_Asm_Done (B : World) (ro : AH) (a0 : Option Addr) (σ : AH) (Q : Int → Sl → Bool → AH → Prop) : Prop :=
  ACalls Tryz.prog B ro 24 #[.pointer a0] σ fun v σ => ∃ (r0 : Int) (r1 : Sl) (r2 : Bool), v = .tuple #[.int .i64 r0, Sl.v r1, .bool r2] ∧ Q r0 r1 r2 σ
/-- althing/althingref01.SameInts -/
def c_ref01_SameInts (B : World) (ro : AH) (a0 : Sl) (a1 : Sl) (σ : AH) (Q : Bool → AH → Prop) : Prop :=
  ACalls Tryz.prog B ro 25 #[Sl.v a0, Sl.v a1] σ fun v σ => ∃ (r0 : Bool), v = .bool r0 ∧ Q r0 σ
/-- (*althing/snap.Asm).Missing -/
def c_snap_Asm_Missing (B : World) (ro : AH) (a0 : Option Addr) (σ : AH) (Q : Sl → AH → Prop) : Prop :=
  ACalls Tryz.prog B ro 26 #[.pointer a0] σ fun v σ => ∃ (r0 : Sl), v = Sl.v r0 ∧ Q r0 σ
/-- (*althing/althingref05.Asm).Missing -/
def c_ref05_Asm_Missing (B : World) (ro : AH) (a0 : Option Addr) (σ : AH) (Q : Sl → AH → Prop) : Prop :=
  ACalls Tryz.prog B ro 27 #[.pointer a0] σ fun v σ => ∃ (r0 : Sl), v = Sl.v r0 ∧ Q r0 σ
/-- althing/snap.dataFile -/
def c_snap_dataFile (B : World) (ro : AH) (a0 : ByteArray) (a1 : Int) (σ : AH) (Q : ByteArray → AH → Prop) : Prop :=
  ACalls Tryz.prog B ro 38 #[.string a0, .int .i64 a1] σ fun v σ => ∃ (r0 : ByteArray), v = .string r0 ∧ Q r0 σ
/-- althing/snap.Save$1 -/
def c_snap_Save_c1 (B : World) (ro : AH) (a0 : Addr) (a1 : Addr) (a2 : Addr) (σ : AH) (Q : AH → Prop) : Prop :=
  ACalls Tryz.prog B ro 39 #[.pointer (some a0), .pointer (some a1), .pointer (some a2)] σ fun v σ => v = .tuple #[] ∧ Q σ
/-- (*althing/disk.Disk).Remove -/
def c_disk_Disk_Remove (B : World) (ro : AH) (a0 : Option Addr) (a1 : Sl) (σ : AH) (Q : Int → AH → Prop) : Prop :=
  ACalls Tryz.prog B ro 40 #[.pointer a0, Sl.v a1] σ fun v σ => ∃ (r0 : Int), v = .int .i64 r0 ∧ Q r0 σ
/-- althing/snap.digestOf -/
def c_snap_digestOf (B : World) (ro : AH) (a0 : Sl) (σ : AH) (Q : Int → Int → AH → Prop) : Prop :=
  ACalls Tryz.prog B ro 41 #[Sl.v a0] σ fun v σ => ∃ (r0_0 : Int) (r0_1 : Int), v = .agg #[.int .i64 r0_0, .int .i64 r0_1] ∧ Q r0_0 r0_1 σ
/-- (althing/snap.manifest).bytes -/
def c_snap_manifest_bytes (B : World) (ro : AH) (a0_0 : Int) (a0_1 : Int) (a0_2 : Int) (σ : AH) (Q : Sl → AH → Prop) : Prop :=
  ACalls Tryz.prog B ro 42 #[.agg #[.int .i64 a0_0, .int .i64 a0_1, .int .i64 a0_2]] σ fun v σ => ∃ (r0 : Sl), v = Sl.v r0 ∧ Q r0 σ
/-- (*althing/disk.Disk).Append -/
def c_disk_Disk_Append (B : World) (ro : AH) (a0 : Option Addr) (a1 : ByteArray) (a2 : Sl) (σ : AH) (Q : Int → AH → Prop) : Prop :=
  ACalls Tryz.prog B ro 43 #[.pointer a0, .string a1, Sl.v a2] σ fun v σ => ∃ (r0 : Int), v = .int .i64 r0 ∧ Q r0 σ
/-- (*althing/disk.Disk).Sync -/
def c_disk_Disk_Sync (B : World) (ro : AH) (a0 : Option Addr) (a1 : Sl) (σ : AH) (Q : Int → AH → Prop) : Prop :=
  ACalls Tryz.prog B ro 44 #[.pointer a0, Sl.v a1] σ fun v σ => ∃ (r0 : Int), v = .int .i64 r0 ∧ Q r0 σ
/-- (*althing/disk.Disk).Rename -/
def c_disk_Disk_Rename (B : World) (ro : AH) (a0 : Option Addr) (a1 : ByteArray) (a2 : ByteArray) (σ : AH) (Q : Int → AH → Prop) : Prop :=
  ACalls Tryz.prog B ro 45 #[.pointer a0, .string a1, .string a2] σ fun v σ => ∃ (r0 : Int), v = .int .i64 r0 ∧ Q r0 σ
/-- (althing/disk.table).Files -/
def c_disk_table_Files (B : World) (ro : AH) (a0 : Option Nat) (σ : AH) (Q : Sl → AH → Prop) : Prop :=
  ACalls Tryz.prog B ro 46 #[.map a0] σ fun v σ => ∃ (r0 : Sl), v = Sl.v r0 ∧ Q r0 σ
/-- althing/snap.isData -/
def c_snap_isData (B : World) (ro : AH) (a0 : ByteArray) (a1 : ByteArray) (σ : AH) (Q : Bool → AH → Prop) : Prop :=
  ACalls Tryz.prog B ro 47 #[.string a0, .string a1] σ fun v σ => ∃ (r0 : Bool), v = .bool r0 ∧ Q r0 σ
/-- althing/althingref01.Join -/
def c_ref01_Join (B : World) (ro : AH) (a0 : Sl) (σ : AH) (Q : Sl → AH → Prop) : Prop :=
  ACalls Tryz.prog B ro 48 #[Sl.v a0] σ fun v σ => ∃ (r0 : Sl), v = Sl.v r0 ∧ Q r0 σ
/-- althing/snap.rightName -/
def c_snap_rightName (B : World) (ro : AH) (a0 : ByteArray) (σ : AH) (Q : Bool → AH → Prop) : Prop :=
  ACalls Tryz.prog B ro 49 #[.string a0] σ fun v σ => ∃ (r0 : Bool), v = .bool r0 ∧ Q r0 σ
/-- althing/snap.readManifest -/
def c_snap_readManifest (B : World) (ro : AH) (a0 : Option Addr) (a1 : ByteArray) (σ : AH) (Q : Int → Int → Int → Bool → AH → Prop) : Prop :=
  ACalls Tryz.prog B ro 50 #[.pointer a0, .string a1] σ fun v σ => ∃ (r0_0 : Int) (r0_1 : Int) (r0_2 : Int) (r1 : Bool), v = .tuple #[.agg #[.int .i64 r0_0, .int .i64 r0_1, .int .i64 r0_2], .bool r1] ∧ Q r0_0 r0_1 r0_2 r1 σ
/-- (*althing/disk.Disk).Read -/
def c_disk_Disk_Read (B : World) (ro : AH) (a0 : Option Addr) (a1 : ByteArray) (σ : AH) (Q : Sl → Int → AH → Prop) : Prop :=
  ACalls Tryz.prog B ro 51 #[.pointer a0, .string a1] σ fun v σ => ∃ (r0 : Sl) (r1 : Int), v = .tuple #[Sl.v r0, .int .i64 r1] ∧ Q r0 r1 σ
/-- althing/wire.NewWriter -/
def c_wire_NewWriter (B : World) (ro : AH) (σ : AH) (Q : Option Addr → AH → Prop) : Prop :=
  ACalls Tryz.prog B ro 52 #[] σ fun v σ => ∃ (r0 : Option Addr), v = .pointer r0 ∧ Q r0 σ
/-- (*althing/wire.Writer).Nums -/
def c_wire_Writer_Nums (B : World) (ro : AH) (a0 : Option Addr) (a1 : Sl) (σ : AH) (Q : AH → Prop) : Prop :=
  ACalls Tryz.prog B ro 53 #[.pointer a0, Sl.v a1] σ fun v σ => v = .tuple #[] ∧ Q σ
/-- (*althing/wire.Writer).Blobs -/
def c_wire_Writer_Blobs (B : World) (ro : AH) (a0 : Option Addr) (a1 : Sl) (σ : AH) (Q : AH → Prop) : Prop :=
  ACalls Tryz.prog B ro 54 #[.pointer a0, Sl.v a1] σ fun v σ => v = .tuple #[] ∧ Q σ
/-- (*althing/wire.Writer).Out -/
def c_wire_Writer_Out (B : World) (ro : AH) (a0 : Option Addr) (σ : AH) (Q : Sl → Int → AH → Prop) : Prop :=
  ACalls Tryz.prog B ro 55 #[.pointer a0] σ fun v σ => ∃ (r0 : Sl) (r1 : Int), v = .tuple #[Sl.v r0, .int .i64 r1] ∧ Q r0 r1 σ
/-- althing/althingref01.Bad -/
def c_ref01_Bad (B : World) (ro : AH) (a0 : Int) (σ : AH) (Q : Bool → AH → Prop) : Prop :=
  ACalls Tryz.prog B ro 56 #[.int .i64 a0] σ fun v σ => ∃ (r0 : Bool), v = .bool r0 ∧ Q r0 σ
/-- althing/althingref01.Sum -/
def c_ref01_Sum (B : World) (ro : AH) (a0 : Sl) (σ : AH) (Q : Int → AH → Prop) : Prop :=
  ACalls Tryz.prog B ro 57 #[Sl.v a0] σ fun v σ => ∃ (r0 : Int), v = .int .i64 r0 ∧ Q r0 σ
/-- althing/althingref01.Put -/
def c_ref01_Put (B : World) (ro : AH) (a0 : Int) (σ : AH) (Q : Sl → AH → Prop) : Prop :=
  ACalls Tryz.prog B ro 58 #[.int .i64 a0] σ fun v σ => ∃ (r0 : Sl), v = Sl.v r0 ∧ Q r0 σ
/-- althing/althingref01.Blob -/
def c_ref01_Blob (B : World) (ro : AH) (a0 : Sl) (σ : AH) (Q : Sl → AH → Prop) : Prop :=
  ACalls Tryz.prog B ro 59 #[Sl.v a0] σ fun v σ => ∃ (r0 : Sl), v = Sl.v r0 ∧ Q r0 σ
/-- althing/snap.readChunk -/
def c_snap_readChunk (B : World) (ro : AH) (a0 : Sl) (σ : AH) (Q : Int → Int → Int → Int → Int → Sl → Bool → AH → Prop) : Prop :=
  ACalls Tryz.prog B ro 60 #[Sl.v a0] σ fun v σ => ∃ (r0_0 : Int) (r0_1 : Int) (r0_2 : Int) (r0_3 : Int) (r0_4 : Int) (r0_5 : Sl) (r1 : Bool), v = .tuple #[.agg #[.int .i64 r0_0, .int .i64 r0_1, .int .i64 r0_2, .int .i64 r0_3, .int .i64 r0_4, Sl.v r0_5], .bool r1] ∧ Q r0_0 r0_1 r0_2 r0_3 r0_4 r0_5 r1 σ
/-- bytes.Equal -/
def c_bytes_Equal (B : World) (ro : AH) (a0 : Sl) (a1 : Sl) (σ : AH) (Q : Bool → AH → Prop) : Prop :=
  ACalls Tryz.prog B ro 61 #[Sl.v a0, Sl.v a1] σ fun v σ => ∃ (r0 : Bool), v = .bool r0 ∧ Q r0 σ
/-- (*althing/althingref01.Reader).Num -/
def c_ref01_Reader_Num (B : World) (ro : AH) (a0 : Option Addr) (σ : AH) (Q : Int → AH → Prop) : Prop :=
  ACalls Tryz.prog B ro 62 #[.pointer a0] σ fun v σ => ∃ (r0 : Int), v = .int .i64 r0 ∧ Q r0 σ
/-- (*althing/althingref01.Reader).Blob -/
def c_ref01_Reader_Blob (B : World) (ro : AH) (a0 : Option Addr) (σ : AH) (Q : Sl → AH → Prop) : Prop :=
  ACalls Tryz.prog B ro 63 #[.pointer a0] σ fun v σ => ∃ (r0 : Sl), v = Sl.v r0 ∧ Q r0 σ
/-- (*althing/althingref01.Reader).Left -/
def c_ref01_Reader_Left (B : World) (ro : AH) (a0 : Option Addr) (σ : AH) (Q : Int → AH → Prop) : Prop :=
  ACalls Tryz.prog B ro 64 #[.pointer a0] σ fun v σ => ∃ (r0 : Int), v = .int .i64 r0 ∧ Q r0 σ
/-- (*althing/althingref05.Asm).find -/
def c_ref05_Asm_find (B : World) (ro : AH) (a0 : Option Addr) (a1 : Int) (σ : AH) (Q : Int → AH → Prop) : Prop :=
  ACalls Tryz.prog B ro 65 #[.pointer a0, .int .i64 a1] σ fun v σ => ∃ (r0 : Int), v = .int .i64 r0 ∧ Q r0 σ
/-- bytes.Clone -/
def c_bytes_Clone (B : World) (ro : AH) (a0 : Sl) (σ : AH) (Q : Sl → AH → Prop) : Prop :=
  ACalls Tryz.prog B ro 74 #[Sl.v a0] σ fun v σ => ∃ (r0 : Sl), v = Sl.v r0 ∧ Q r0 σ
/-- strconv.Itoa -/
def c_strconv_Itoa (B : World) (ro : AH) (a0 : Int) (σ : AH) (Q : ByteArray → AH → Prop) : Prop :=
  ACalls Tryz.prog B ro 75 #[.int .i64 a0] σ fun v σ => ∃ (r0 : ByteArray), v = .string r0 ∧ Q r0 σ
/-- (althing/disk.table).find -/
def c_disk_table_find (B : World) (ro : AH) (a0 : Option Nat) (a1 : Sl) (σ : AH) (Q : Sl → Int → AH → Prop) : Prop :=
  ACalls Tryz.prog B ro 76 #[.map a0, Sl.v a1] σ fun v σ => ∃ (r0 : Sl) (r1 : Int), v = .tuple #[Sl.v r0, .int .i64 r1] ∧ Q r0 r1 σ
/-- althing/wire.Sum -/
def c_wire_Sum (B : World) (ro : AH) (a0 : Sl) (σ : AH) (Q : Int → AH → Prop) : Prop :=
  ACalls Tryz.prog B ro 77 #[Sl.v a0] σ fun v σ => ∃ (r0 : Int), v = .int .i64 r0 ∧ Q r0 σ
/-- althing/wire.Numbers -/
def c_wire_Numbers (B : World) (ro : AH) (a0 : Sl) (σ : AH) (Q : Sl → Int → AH → Prop) : Prop :=
  ACalls Tryz.prog B ro 78 #[Sl.v a0] σ fun v σ => ∃ (r0 : Sl) (r1 : Int), v = .tuple #[Sl.v r0, .int .i64 r1] ∧ Q r0 r1 σ
/-- althing/wire.Frame -/
def c_wire_Frame (B : World) (ro : AH) (a0 : Sl) (σ : AH) (Q : Sl → Int → AH → Prop) : Prop :=
  ACalls Tryz.prog B ro 79 #[Sl.v a0] σ fun v σ => ∃ (r0 : Sl) (r1 : Int), v = .tuple #[Sl.v r0, .int .i64 r1] ∧ Q r0 r1 σ
/-- althing/disk.rightName -/
def c_disk_rightName (B : World) (ro : AH) (a0 : ByteArray) (σ : AH) (Q : Bool → AH → Prop) : Prop :=
  ACalls Tryz.prog B ro 80 #[.string a0] σ fun v σ => ∃ (r0 : Bool), v = .bool r0 ∧ Q r0 σ
/-- slices.Sorted[string] -/
def c_slices_Sorted_string (B : World) (ro : AH) (a0 : Value) (σ : AH) (Q : Sl → AH → Prop) : Prop :=
  ACalls Tryz.prog B ro 81 #[a0] σ fun v σ => ∃ (r0 : Sl), v = Sl.v r0 ∧ Q r0 σ
/-- maps.Keys[althing/disk.table,string,*althing/disk.file] -/
def c_maps_Keys_disk_file (B : World) (ro : AH) (a0 : Option Nat) (σ : AH) (Q : Value → AH → Prop) : Prop :=
  ACalls Tryz.prog B ro 82 #[.map a0] σ fun v σ => ∃ (r0 : Value), v = r0 ∧ Q r0 σ
/-- strings.CutPrefix -/
def c_strings_CutPrefix (B : World) (ro : AH) (a0 : ByteArray) (a1 : ByteArray) (σ : AH) (Q : ByteArray → Bool → AH → Prop) : Prop :=
  ACalls Tryz.prog B ro 83 #[.string a0, .string a1] σ fun v σ => ∃ (r0 : ByteArray) (r1 : Bool), v = .tuple #[.string r0, .bool r1] ∧ Q r0 r1 σ
/-- strconv.Atoi -/
def c_strconv_Atoi (B : World) (ro : AH) (a0 : ByteArray) (σ : AH) (Q : Int → Value → AH → Prop) : Prop :=
  ACalls Tryz.prog B ro 84 #[.string a0] σ fun v σ => ∃ (r0 : Int) (r1 : Value), v = .tuple #[.int .i64 r0, r1] ∧ Q r0 r1 σ
/-- strings.Trim -/
def c_strings_Trim (B : World) (ro : AH) (a0 : ByteArray) (a1 : ByteArray) (σ : AH) (Q : ByteArray → AH → Prop) : Prop :=
  ACalls Tryz.prog B ro 85 #[.string a0, .string a1] σ fun v σ => ∃ (r0 : ByteArray), v = .string r0 ∧ Q r0 σ
/-- althing/wire.Unframe -/
def c_wire_Unframe (B : World) (ro : AH) (a0 : Sl) (a1 : Int) (σ : AH) (Q : Sl → Int → Int → AH → Prop) : Prop :=
  ACalls Tryz.prog B ro 86 #[Sl.v a0, .int .i64 a1] σ fun v σ => ∃ (r0 : Sl) (r1 : Int) (r2 : Int), v = .tuple #[Sl.v r0, .int .i64 r1, .int .i64 r2] ∧ Q r0 r1 r2 σ
/-- althing/wire.NewReader -/
def c_wire_NewReader (B : World) (ro : AH) (a0 : Sl) (σ : AH) (Q : Option Addr → AH → Prop) : Prop :=
  ACalls Tryz.prog B ro 87 #[Sl.v a0] σ fun v σ => ∃ (r0 : Option Addr), v = .pointer r0 ∧ Q r0 σ
/-- (*althing/wire.Reader).Num -/
def c_wire_Reader_Num (B : World) (ro : AH) (a0 : Option Addr) (σ : AH) (Q : Int → AH → Prop) : Prop :=
  ACalls Tryz.prog B ro 88 #[.pointer a0] σ fun v σ => ∃ (r0 : Int), v = .int .i64 r0 ∧ Q r0 σ
/-- (*althing/wire.Reader).Err -/
def c_wire_Reader_Err (B : World) (ro : AH) (a0 : Option Addr) (σ : AH) (Q : Int → AH → Prop) : Prop :=
  ACalls Tryz.prog B ro 89 #[.pointer a0] σ fun v σ => ∃ (r0 : Int), v = .int .i64 r0 ∧ Q r0 σ
/-- (*althing/wire.Reader).Left -/
def c_wire_Reader_Left (B : World) (ro : AH) (a0 : Option Addr) (σ : AH) (Q : Int → AH → Prop) : Prop :=
  ACalls Tryz.prog B ro 90 #[.pointer a0] σ fun v σ => ∃ (r0 : Int), v = .int .i64 r0 ∧ Q r0 σ
/-- (*althing/wire.buffer).num -/
def c_wire_buffer_num (B : World) (ro : AH) (a0 : Option Addr) (a1 : Int) (σ : AH) (Q : AH → Prop) : Prop :=
  ACalls Tryz.prog B ro 91 #[.pointer a0, .int .i64 a1] σ fun v σ => v = .tuple #[] ∧ Q σ
/-- (*bytes.Buffer).Write -/
def c_bytes_Buffer_Write (B : World) (ro : AH) (a0 : Option Addr) (a1 : Sl) (σ : AH) (Q : Int → Value → AH → Prop) : Prop :=
  ACalls Tryz.prog B ro 92 #[.pointer a0, Sl.v a1] σ fun v σ => ∃ (r0 : Int) (r1 : Value), v = .tuple #[.int .i64 r0, r1] ∧ Q r0 r1 σ
/-- (*bytes.Buffer).Bytes -/
def c_bytes_Buffer_Bytes (B : World) (ro : AH) (a0 : Option Addr) (σ : AH) (Q : Sl → AH → Prop) : Prop :=
  ACalls Tryz.prog B ro 93 #[.pointer a0] σ fun v σ => ∃ (r0 : Sl), v = Sl.v r0 ∧ Q r0 σ
/-- (*althing/wire.Reader).Blob -/
def c_wire_Reader_Blob (B : World) (ro : AH) (a0 : Option Addr) (σ : AH) (Q : Sl → AH → Prop) : Prop :=
  ACalls Tryz.prog B ro 94 #[.pointer a0] σ fun v σ => ∃ (r0 : Sl), v = Sl.v r0 ∧ Q r0 σ
/-- althing/althingref01.Number -/
def c_ref01_Number (B : World) (ro : AH) (a0 : Sl) (a1 : Int) (σ : AH) (Q : Int → Int → Int → AH → Prop) : Prop :=
  ACalls Tryz.prog B ro 95 #[Sl.v a0, .int .i64 a1] σ fun v σ => ∃ (r0 : Int) (r1 : Int) (r2 : Int), v = .tuple #[.int .i64 r0, .int .i64 r1, .int .i64 r2] ∧ Q r0 r1 r2 σ
/-- althing/wire.Number -/
def c_wire_Number (B : World) (ro : AH) (a0 : Sl) (a1 : Int) (σ : AH) (Q : Int → Int → Int → AH → Prop) : Prop :=
  ACalls Tryz.prog B ro 97 #[Sl.v a0, .int .i64 a1] σ fun v σ => ∃ (r0 : Int) (r1 : Int) (r2 : Int), v = .tuple #[.int .i64 r0, .int .i64 r1, .int .i64 r2] ∧ Q r0 r1 r2 σ
/-- althing/wire.right -/
def c_wire_right (B : World) (ro : AH) (a0 : Int) (σ : AH) (Q : Bool → AH → Prop) : Prop :=
  ACalls Tryz.prog B ro 102 #[.int .i64 a0] σ fun v σ => ∃ (r0 : Bool), v = .bool r0 ∧ Q r0 σ
/-- althing/wire.put -/
def c_wire_put (B : World) (ro : AH) (a0 : Sl) (a1 : Int) (σ : AH) (Q : Sl → AH → Prop) : Prop :=
  ACalls Tryz.prog B ro 103 #[Sl.v a0, .int .i64 a1] σ fun v σ => ∃ (r0 : Sl), v = Sl.v r0 ∧ Q r0 σ
/-- althing/wire.four -/
def c_wire_four (B : World) (ro : AH) (a0 : Int) (σ : AH) (Q : Sl → AH → Prop) : Prop :=
  ACalls Tryz.prog B ro 104 #[.int .i64 a0] σ fun v σ => ∃ (r0 : Sl), v = Sl.v r0 ∧ Q r0 σ
/-- slices.ContainsFunc[[]byte,byte] -/
def c_slices_ContainsFunc_byte_byte (B : World) (ro : AH) (a0 : Sl) (a1 : Value) (σ : AH) (Q : Bool → AH → Prop) : Prop :=
  ACalls Tryz.prog B ro 105 #[Sl.v a0, a1] σ fun v σ => ∃ (r0 : Bool), v = .bool r0 ∧ Q r0 σ
/-- althing/disk.rightName$1 -/
def c_disk_rightName_c1 (B : World) (ro : AH) (a0 : Int) (σ : AH) (Q : Bool → AH → Prop) : Prop :=
  ACalls Tryz.prog B ro 106 #[.int .u8 a0] σ fun v σ => ∃ (r0 : Bool), v = .bool r0 ∧ Q r0 σ
/-- internal/stringslite.CutPrefix -/
def c_stringslite_CutPrefix (B : World) (ro : AH) (a0 : ByteArray) (a1 : ByteArray) (σ : AH) (Q : ByteArray → Bool → AH → Prop) : Prop :=
  ACalls Tryz.prog B ro 110 #[.string a0, .string a1] σ fun v σ => ∃ (r0 : ByteArray) (r1 : Bool), v = .tuple #[.string r0, .bool r1] ∧ Q r0 r1 σ
/-- althing/wire.value -/
def c_wire_value (B : World) (ro : AH) (a0 : Sl) (σ : AH) (Q : Int → AH → Prop) : Prop :=
  ACalls Tryz.prog B ro 120 #[Sl.v a0] σ fun v σ => ∃ (r0 : Int), v = .int .i64 r0 ∧ Q r0 σ
/-- (*bytes.Buffer).tryGrowByReslice -/
def c_bytes_Buffer_tryGrowByReslice (B : World) (ro : AH) (a0 : Option Addr) (a1 : Int) (σ : AH) (Q : Int → Bool → AH → Prop) : Prop :=
  ACalls Tryz.prog B ro 121 #[.pointer a0, .int .i64 a1] σ fun v σ => ∃ (r0 : Int) (r1 : Bool), v = .tuple #[.int .i64 r0, .bool r1] ∧ Q r0 r1 σ
/-- (*bytes.Buffer).grow -/
def c_bytes_Buffer_grow (B : World) (ro : AH) (a0 : Option Addr) (a1 : Int) (σ : AH) (Q : Int → AH → Prop) : Prop :=
  ACalls Tryz.prog B ro 122 #[.pointer a0, .int .i64 a1] σ fun v σ => ∃ (r0 : Int), v = .int .i64 r0 ∧ Q r0 σ
/-- slices.IndexFunc[[]byte,byte] -/
def c_slices_IndexFunc_byte_byte (B : World) (ro : AH) (a0 : Sl) (a1 : Value) (σ : AH) (Q : Int → AH → Prop) : Prop :=
  ACalls Tryz.prog B ro 131 #[Sl.v a0, a1] σ fun v σ => ∃ (r0 : Int), v = .int .i64 r0 ∧ Q r0 σ
/-- internal/stringslite.HasPrefix -/
def c_stringslite_HasPrefix (B : World) (ro : AH) (a0 : ByteArray) (a1 : ByteArray) (σ : AH) (Q : Bool → AH → Prop) : Prop :=
  ACalls Tryz.prog B ro 135 #[.string a0, .string a1] σ fun v σ => ∃ (r0 : Bool), v = .bool r0 ∧ Q r0 σ
/-- (*bytes.Buffer).Len -/
def c_bytes_Buffer_Len (B : World) (ro : AH) (a0 : Option Addr) (σ : AH) (Q : Int → AH → Prop) : Prop :=
  ACalls Tryz.prog B ro 145 #[.pointer a0] σ fun v σ => ∃ (r0 : Int), v = .int .i64 r0 ∧ Q r0 σ
/-- (*bytes.Buffer).Reset -/
def c_bytes_Buffer_Reset (B : World) (ro : AH) (a0 : Option Addr) (σ : AH) (Q : AH → Prop) : Prop :=
  ACalls Tryz.prog B ro 146 #[.pointer a0] σ fun v σ => v = .tuple #[] ∧ Q σ
/-- bytes.growSlice -/
def c_bytes_growSlice (B : World) (ro : AH) (a0 : Sl) (a1 : Int) (σ : AH) (Q : Sl → AH → Prop) : Prop :=
  ACalls Tryz.prog B ro 147 #[Sl.v a0, .int .i64 a1] σ fun v σ => ∃ (r0 : Sl), v = Sl.v r0 ∧ Q r0 σ
end Go.Proofs.YtfobjidchipdaaaGreatDoor.G

/- Functions as predicate transformers, and the proofs that the code does what they tell: printed by wip/tools/gen.py. -/
namespace Go.Proofs.YtfobjidchipdaaaGreatDoor.G
open Go Go.Proofs.YtfobjidchipdaaaGreatDoor.SL
set_option linter.unusedVariables false
set_option linter.unusedSimpArgs false

def f_bytes_Equal (B : World) (ro : AH) (a0 : Sl) (a1 : Sl) (σ : AH) (Q : Bool → AH → Prop) : Prop :=
 awp Tryz.prog ro (convert 22 9 (Sl.v a0)) (fun v σ =>
  (∃ (x6_1 : ByteArray), v = .string x6_1 ∧
   awp Tryz.prog ro (convert 22 9 (Sl.v a1)) (fun v σ =>
    (∃ (x8_2 : ByteArray), v = .string x8_2 ∧
     Q (decide (x6_1 = x8_2)) σ)) σ)) σ

set_option maxRecDepth 100000 in
set_option maxHeartbeats 4000000 in
theorem bytes_Equal_ok {B : World} {ro : AH} {a0 : Sl} {a1 : Sl} {σ : AH} {Q : Bool → AH → Prop} (h : Sep ro σ → f_bytes_Equal B ro a0 a1 σ Q) : c_bytes_Equal B ro a0 a1 σ Q := by
  refine ACalls.of_sep fun hsep => ?_
  replace h := h hsep
  refine ACalls.of_body (args := [Sl.v a0, Sl.v a1]) Tryz.func61 rfl (by rw [Tryz.ntmps61]; simp) ?_
  rw [Tryz.ntmps61]
  unfold f_bytes_Equal at h
  refine AW.seq ?_
  refine AW.reg ?_
  refine Lp (V_asg rfl rfl) rfl rfl ?_
  refine Lnil ?_
  refine thenN ?_
  refine AW.seq ?_
  refine AW.reg ?_
  refine Lp (V_move rfl rfl) rfl rfl ?_
  refine Ls rfl rfl (X_cvt rfl rfl (awp_mono _ h ?_))
  rintro v σ ⟨x6_1, rfl, h⟩
  refine Lp (V_move rfl rfl) rfl rfl ?_
  refine Ls rfl rfl (X_cvt rfl rfl (awp_mono _ h ?_))
  rintro v σ ⟨x8_2, rfl, h⟩
  refine Lp (V_eqlS rfl rfl rfl) rfl rfl ?_
  refine Lp (V_asg rfl rfl) rfl rfl ?_
  refine Lnil ?_
  refine thenN ?_
  refine AW.ret ?_
  exact bR1 Tryz.results61 rfl ⟨_, rfl, h⟩

def f_bytes_Clone (B : World) (ro : AH) (a0 : Sl) (σ : AH) (Q : Sl → AH → Prop) : Prop :=
 if a0.a = none then
  Q (⟨none, 0, 0⟩ : Sl) σ
 else
 nw ro σ (.cells #[] 5) fun x5_1 σ =>
 awp Tryz.prog ro (Builtin.append_ #[22, 22] 22 #[Sl.v (⟨some ⟨x5_1, 0, none⟩, 0, 0⟩ : Sl), Sl.v a0]) (fun v σ => ∃ (x7_2 : Sl), v = Sl.v x7_2 ∧
  Q x7_2 σ) σ

set_option maxRecDepth 100000 in
set_option maxHeartbeats 4000000 in
theorem bytes_Clone_ok {B : World} {ro : AH} {a0 : Sl} {σ : AH} {Q : Sl → AH → Prop} (h : Sep ro σ → f_bytes_Clone B ro a0 σ Q) : c_bytes_Clone B ro a0 σ Q := by
  refine ACalls.of_sep fun hsep => ?_
  replace h := h hsep
  refine ACalls.of_body (args := [Sl.v a0]) Tryz.func74 rfl (by rw [Tryz.ntmps74]; simp) ?_
  rw [Tryz.ntmps74]
  unfold f_bytes_Clone at h
  refine AW.seq ?_
  refine AW.reg ?_
  refine Lp (V_asg rfl rfl) rfl rfl ?_
  refine Lnil ?_
  refine thenN ?_
  refine AW.seq ?_
  refine AW.seq ?_
  refine AW.reg ?_
  refine Lp (V_move rfl rfl) rfl rfl ?_
  refine Lp (V_eqL rfl Tryz.underlying22 rfl rfl) rfl rfl ?_
  refine Lnil ?_
  refine thenN ?_
  refine AW.iff rfl isNone_iff h (fun h => ?_) (fun h => ?_)
  · refine AW.seq ?_
    refine AW.reg ?_
    refine Lp (V_asg rfl rfl) rfl rfl ?_
    refine Lnil ?_
    refine thenN ?_
    refine AW.ret ?_
    refine thenR ?_
    exact bR1 Tryz.results74 rfl ⟨_, rfl, h⟩
  refine AW.skip ?_
  refine thenN ?_
  refine AW.seq ?_
  refine AW.reg ?_
  refine Ls rfl rfl (X_new (A_bsl (vs := []) (cs := #[]) rfl Tryz.underlying22 ty5 (by decide) rfl rfl) fun x5_1 g1 g2 => ?_)
  replace h := h x5_1 g1 g2
  refine Lp (V_move rfl rfl) rfl rfl ?_
  refine Ls rfl rfl (X_bi (s := Builtin.append_ #[22, 22] 22 #[Sl.v (⟨some ⟨x5_1, 0, none⟩, 0, 0⟩ : Sl), Sl.v a0]) rfl rfl (fun _ => rfl) (awp_mono _ h ?_))
  rintro v σ ⟨x7_2, rfl, h⟩
  refine Lp (V_asg rfl rfl) rfl rfl ?_
  refine Lnil ?_
  refine thenN ?_
  refine AW.ret ?_
  exact bR1 Tryz.results74 rfl ⟨_, rfl, h⟩

def f_strings_CutPrefix (B : World) (ro : AH) (a0 : ByteArray) (a1 : ByteArray) (σ : AH) (Q : ByteArray → Bool → AH → Prop) : Prop :=
 c_stringslite_CutPrefix B ro a0 a1 σ fun x8_1 x8_2 σ =>
 Q x8_1 x8_2 σ

set_option maxRecDepth 100000 in
set_option maxHeartbeats 4000000 in
theorem strings_CutPrefix_ok {B : World} {ro : AH} {a0 : ByteArray} {a1 : ByteArray} {σ : AH} {Q : ByteArray → Bool → AH → Prop} (h : Sep ro σ → f_strings_CutPrefix B ro a0 a1 σ Q) : c_strings_CutPrefix B ro a0 a1 σ Q := by
  refine ACalls.of_sep fun hsep => ?_
  replace h := h hsep
  refine ACalls.of_body (args := [.string a0, .string a1]) Tryz.func83 rfl (by rw [Tryz.ntmps83]; simp) ?_
  rw [Tryz.ntmps83]
  unfold f_strings_CutPrefix at h
  refine AW.seq ?_
  refine AW.reg ?_
  refine Lp (V_asg rfl rfl) rfl rfl ?_
  refine Lp (V_asg rfl rfl) rfl rfl ?_
  refine Lnil ?_
  refine thenN ?_
  refine AW.seq ?_
  refine AW.reg ?_
  refine Lp (V_move rfl rfl) rfl rfl ?_
  refine Lp (V_move rfl rfl) rfl rfl ?_
  refine Ls rfl rfl (X_call rfl Tryz.func110 rfl rfl rfl (ACalls.mono h ?_))
  rintro v σ ⟨x8_1, x8_2, rfl, h⟩
  refine Lp (V_ext rfl rfl rfl) rfl rfl ?_
  refine Lp (V_ext rfl rfl rfl) rfl rfl ?_
  refine Lp (V_asg rfl rfl) rfl rfl ?_
  refine Lp (V_asg rfl rfl) rfl rfl ?_
  refine Lnil ?_
  refine thenN ?_
  refine AW.ret ?_
  exact bR2 Tryz.results83 rfl rfl ⟨_, _, rfl, h⟩

def f_slices_ContainsFunc_byte_byte (B : World) (ro : AH) (a0 : Sl) (a1 : Value) (σ : AH) (Q : Bool → AH → Prop) : Prop :=
 c_slices_IndexFunc_byte_byte B ro a0 a1 σ fun x7_1 σ =>
 Q (decide (0 ≤ x7_1)) σ

set_option maxRecDepth 100000 in
set_option maxHeartbeats 4000000 in
theorem slices_ContainsFunc_byte_byte_ok {B : World} {ro : AH} {a0 : Sl} {a1 : Value} {σ : AH} {Q : Bool → AH → Prop} (h : Sep ro σ → f_slices_ContainsFunc_byte_byte B ro a0 a1 σ Q) : c_slices_ContainsFunc_byte_byte B ro a0 a1 σ Q := by
  refine ACalls.of_sep fun hsep => ?_
  replace h := h hsep
  refine ACalls.of_body (args := [Sl.v a0, a1]) Tryz.func105 rfl (by rw [Tryz.ntmps105]; simp) ?_
  rw [Tryz.ntmps105]
  unfold f_slices_ContainsFunc_byte_byte at h
  refine AW.seq ?_
  refine AW.reg ?_
  refine Lp (V_asg rfl rfl) rfl rfl ?_
  refine Lnil ?_
  refine thenN ?_
  refine AW.seq ?_
  refine AW.reg ?_
  refine Lp (V_move rfl rfl) rfl rfl ?_
  refine Lp (V_move rfl rfl) rfl rfl ?_
  refine Ls rfl rfl (X_call rfl Tryz.func131 rfl rfl rfl (ACalls.mono h ?_))
  rintro v σ ⟨x7_1, rfl, h⟩
  refine Lp (V_geq rfl rfl rfl) rfl rfl ?_
  refine Lp (V_asg rfl rfl) rfl rfl ?_
  refine Lnil ?_
  refine thenN ?_
  refine AW.ret ?_
  exact bR1 Tryz.results105 rfl ⟨_, rfl, h⟩

def f_stringslite_CutPrefix (B : World) (ro : AH) (a0 : ByteArray) (a1 : ByteArray) (σ : AH) (Q : ByteArray → Bool → AH → Prop) : Prop :=
 c_stringslite_HasPrefix B ro a0 a1 σ fun x8_1 σ =>
 if ¬ (x8_1 = true) then
  Q a0 false σ
 else
 cutOk (some (a1.size : Int)) none a0.size a0.size ∧
 Q (a0.extract (Int.toNat (a1.size : Int)) (a0.size)) true σ

set_option maxRecDepth 100000 in
set_option maxHeartbeats 4000000 in
theorem stringslite_CutPrefix_ok {B : World} {ro : AH} {a0 : ByteArray} {a1 : ByteArray} {σ : AH} {Q : ByteArray → Bool → AH → Prop} (h : Sep ro σ → f_stringslite_CutPrefix B ro a0 a1 σ Q) : c_stringslite_CutPrefix B ro a0 a1 σ Q := by
  refine ACalls.of_sep fun hsep => ?_
  replace h := h hsep
  refine ACalls.of_body (args := [.string a0, .string a1]) Tryz.func110 rfl (by rw [Tryz.ntmps110]; simp) ?_
  rw [Tryz.ntmps110]
  unfold f_stringslite_CutPrefix at h
  refine AW.seq ?_
  refine AW.reg ?_
  refine Lp (V_asg rfl rfl) rfl rfl ?_
  refine Lp (V_asg rfl rfl) rfl rfl ?_
  refine Lnil ?_
  refine thenN ?_
  refine AW.seq ?_
  refine AW.seq ?_
  refine AW.reg ?_
  refine Lp (V_move rfl rfl) rfl rfl ?_
  refine Lp (V_move rfl rfl) rfl rfl ?_
  refine Ls rfl rfl (X_call rfl Tryz.func135 rfl rfl rfl (ACalls.mono h ?_))
  rintro v σ ⟨x8_1, rfl, h⟩
  refine Lp (V_not rfl rfl) rfl rfl ?_
  refine Lnil ?_
  refine thenN ?_
  refine AW.iff rfl (bnot_iff Iff.rfl) h (fun h => ?_) (fun h => ?_)
  · refine AW.seq ?_
    refine AW.reg ?_
    refine Lp (V_move rfl rfl) rfl rfl ?_
    refine Lp (V_asg rfl rfl) rfl rfl ?_
    refine Lp (V_asg rfl rfl) rfl rfl ?_
    refine Lnil ?_
    refine thenN ?_
    refine AW.ret ?_
    refine thenR ?_
    exact bR2 Tryz.results110 rfl rfl ⟨_, _, rfl, h⟩
  refine AW.skip ?_
  refine thenN ?_
  refine AW.seq ?_
  refine AW.reg ?_
  refine Lp (V_move rfl rfl) rfl rfl ?_
  refine Lp (V_move rfl rfl) rfl rfl ?_
  refine Lp (V_lenS rfl rfl Tryz.underlying9 rfl rfl) rfl rfl ?_
  obtain ⟨hc, h⟩ := h
  refine Lp (V_slS (lo := (some (a1.size : Int))) (hi := none) rfl Tryz.underlying9 rfl (optI_some rfl) optI_none hc) rfl rfl ?_
  refine Lp (V_asg rfl rfl) rfl rfl ?_
  refine Lp (V_asg rfl rfl) rfl rfl ?_
  refine Lnil ?_
  refine thenN ?_
  refine AW.ret ?_
  exact bR2 Tryz.results110 rfl rfl ⟨_, _, rfl, h⟩

def j1_slices_IndexFunc_byte_byte (B : World) (ro : AH) (Q : Int → AH → Prop) (σ : AH) : Prop :=
 Q (-1) σ

def l2_slices_IndexFunc_byte_byte (B : World) (ro : AH) (a0 : Sl) (a1 : Value) (Q : Int → AH → Prop) : (Int) → AH → ((Int) → AH → Prop) → Prop := fun x8_3 σ Y2 =>
 if x8_3 < (a0.len : Int) then
  ∃ p14_4 : Addr, a0.a = some p14_4 ∧ (0 : Int) ≤ x8_3 ∧ x8_3 < (a0.len : Int) ∧
  ∃ (x15_5 : Int), acell ro σ (p14_4.add (Int.toNat x8_3 * 1)) = some (.int .u8 x15_5) ∧
  callV Tryz.prog B ro a1 [.int .u8 x15_5] σ (fun v σ => ∃ (x16_6 : Bool), v = .bool x16_6 ∧
   if x16_6 = true then
    Q x8_3 σ
   else
   Y2 (IntKind.i64.wrap (x8_3 + 1)) σ)
 else
 j1_slices_IndexFunc_byte_byte B ro Q σ

def f_slices_IndexFunc_byte_byte (B : World) (ro : AH) (a0 : Sl) (a1 : Value) (σ : AH) (Q : Int → AH → Prop) : Prop :=
 lfpD (l2_slices_IndexFunc_byte_byte B ro a0 a1 Q ) (0) σ

set_option maxRecDepth 100000 in
set_option maxHeartbeats 4000000 in
theorem slices_IndexFunc_byte_byte_ok {B : World} {ro : AH} {a0 : Sl} {a1 : Value} {σ : AH} {Q : Int → AH → Prop} (h : Sep ro σ → f_slices_IndexFunc_byte_byte B ro a0 a1 σ Q) : c_slices_IndexFunc_byte_byte B ro a0 a1 σ Q := by
  refine ACalls.of_sep fun hsep => ?_
  replace h := h hsep
  refine ACalls.of_body (args := [Sl.v a0, a1]) Tryz.func131 rfl (by rw [Tryz.ntmps131]; simp) ?_
  rw [Tryz.ntmps131]
  unfold f_slices_IndexFunc_byte_byte at h
  refine AW.seq ?_
  refine AW.reg ?_
  refine Lp (V_asg rfl rfl) rfl rfl ?_
  refine Lnil ?_
  refine thenN ?_
  refine AW.seqJ (fun fr σ => FrLe [] fr ∧ j1_slices_IndexFunc_byte_byte B ro Q σ) ?_ ?_
  · rintro fr σ ⟨hl, h⟩
    refine AW.weaken ?_ hl (HLe.refl _)
    unfold j1_slices_IndexFunc_byte_byte at h
    refine AW.seq ?_
    refine AW.reg ?_
    refine Lp (V_asg rfl rfl) rfl rfl ?_
    refine Lnil ?_
    refine thenN ?_
    refine AW.ret ?_
    exact bR1 Tryz.results131 rfl ⟨_, rfl, h⟩
  refine AW.seq ?_
  refine AW.reg ?_
  refine Lp (V_move rfl rfl) rfl rfl ?_
  refine Lp (V_lenL rfl rfl Tryz.underlying22 rfl rfl) rfl rfl ?_
  refine Lp (V_move rfl rfl) rfl rfl ?_
  refine Lnil ?_
  refine thenN ?_
  refine AW.block ?_
  refine ARound.loop (fr' := [(0, Sl.v a0), (1, a1), (7, .int .i64 (a0.len : Int)), (8, .int .i64 0)]) ?_ (FrLe.cons rfl (FrLe.cons rfl (FrLe.cons rfl (FrLe.cons rfl (FrLe.nil _)))))
  refine h (fun x8_3 σ => ARound _ _ _ _ _ _ [(0, Sl.v a0), (1, a1), (7, .int .i64 (a0.len : Int)), (8, .int .i64 x8_3)] σ) ?_
  rintro x8_3 σ Y2 hY2 h
  show AW _ _ _ _ _ _ _ _
  unfold l2_slices_IndexFunc_byte_byte at h
  refine AW.seq ?_
  refine AW.reg ?_
  refine Lp (V_lss rfl rfl rfl) rfl rfl ?_
  refine Lnil ?_
  refine thenN ?_
  refine AW.seq ?_
  refine AW.iff rfl decide_eq_true_iff h (fun h => ?_) (fun h => ?_)
  rotate_left
  · refine AW.exit ?_
    refine thenE ?_
    refine thenE ?_
    refine blockE ?_
    refine thenN ?_
    exact ⟨(FrLe.nil _), h⟩
  refine AW.skip ?_
  refine thenN ?_
  refine AW.seq ?_
  refine AW.block ?_
  refine AW.seq ?_
  refine AW.reg ?_
  refine Lp (V_move rfl rfl) rfl rfl ?_
  refine Lp (V_asg rfl rfl) rfl rfl ?_
  refine Lnil ?_
  refine thenN ?_
  refine AW.seq ?_
  refine AW.reg ?_
  refine Lp (V_move rfl rfl) rfl rfl ?_
  refine Lp (V_move rfl rfl) rfl rfl ?_
  refine Lp (V_move rfl rfl) rfl rfl ?_
  obtain ⟨p14_4, ha, h0, h1, h⟩ := h
  refine Lp (V_ixA rfl Tryz.underlying22 ty5 (ixL rfl ha) rfl h0 h1) rfl rfl ?_
  obtain ⟨x15_5, hc, h⟩ := h
  refine Ls rfl rfl (X_ld rfl Tryz.underlying5 rfl rfl hc ?_)
  refine Ls rfl rfl (X_callV rfl rfl rfl (callV_mono h ?_))
  rintro v σ ⟨x16_6, rfl, h⟩
  refine Lnil ?_
  refine thenN ?_
  refine AW.iff rfl Iff.rfl h (fun h => ?_) (fun h => ?_)
  · refine AW.seq ?_
    refine AW.reg ?_
    refine Lp (V_move rfl rfl) rfl rfl ?_
    refine Lp (V_asg rfl rfl) rfl rfl ?_
    refine Lnil ?_
    refine thenN ?_
    refine AW.ret ?_
    refine blockR ?_
    refine thenR ?_
    refine thenR ?_
    refine blockR ?_
    refine thenR ?_
    exact bR1 Tryz.results131 rfl ⟨_, rfl, h⟩
  refine AW.skip ?_
  refine blockN ?_
  refine thenN ?_
  refine AW.reg ?_
  refine Lp (V_add rfl rfl rfl) rfl rfl ?_
  refine Lp (V_move rfl rfl) rfl rfl ?_
  refine Lnil ?_
  refine thenN ?_
  refine ARound.head (fr' := [(0, Sl.v a0), (1, a1), (7, .int .i64 (a0.len : Int)), (8, .int .i64 (IntKind.i64.wrap (x8_3 + 1)))]) ?_ (FrLe.cons rfl (FrLe.cons rfl (FrLe.cons rfl (FrLe.cons rfl (FrLe.nil _)))))
  exact hY2 _ _ h

def j1_stringslite_HasPrefix (B : World) (ro : AH) (Q : Bool → AH → Prop) (x17_2 : Bool) (σ : AH) : Prop :=
 Q x17_2 σ

def f_stringslite_HasPrefix (B : World) (ro : AH) (a0 : ByteArray) (a1 : ByteArray) (σ : AH) (Q : Bool → AH → Prop) : Prop :=
 if (a1.size : Int) ≤ (a0.size : Int) then
  cutOk none (some (a1.size : Int)) a0.size a0.size ∧
  j1_stringslite_HasPrefix B ro Q (decide ((a0.extract (0) (Int.toNat (a1.size : Int))) = a1)) σ
 else
 j1_stringslite_HasPrefix B ro Q false σ

set_option maxRecDepth 100000 in
set_option maxHeartbeats 4000000 in
theorem stringslite_HasPrefix_ok {B : World} {ro : AH} {a0 : ByteArray} {a1 : ByteArray} {σ : AH} {Q : Bool → AH → Prop} (h : Sep ro σ → f_stringslite_HasPrefix B ro a0 a1 σ Q) : c_stringslite_HasPrefix B ro a0 a1 σ Q := by
  refine ACalls.of_sep fun hsep => ?_
  replace h := h hsep
  refine ACalls.of_body (args := [.string a0, .string a1]) Tryz.func135 rfl (by rw [Tryz.ntmps135]; simp) ?_
  rw [Tryz.ntmps135]
  unfold f_stringslite_HasPrefix at h
  refine AW.seq ?_
  refine AW.reg ?_
  refine Lp (V_asg rfl rfl) rfl rfl ?_
  refine Lnil ?_
  refine thenN ?_
  refine AW.seq ?_
  refine AW.reg ?_
  refine Lp (V_move rfl rfl) rfl rfl ?_
  refine Lp (V_lenS rfl rfl Tryz.underlying9 rfl rfl) rfl rfl ?_
  refine Lp (V_move rfl rfl) rfl rfl ?_
  refine Lp (V_lenS rfl rfl Tryz.underlying9 rfl rfl) rfl rfl ?_
  refine Lp (V_geq rfl rfl rfl) rfl rfl ?_
  refine Lp (V_move rfl rfl) rfl rfl ?_
  refine LsplitJ 7 (decide ((a1.size : Int) ≤ (a0.size : Int))) decide_eq_true_iff h (fun fr σ => ∃ (x17_2 : Bool), FrLe [(17, .bool x17_2)] fr ∧ j1_stringslite_HasPrefix B ro Q x17_2 σ) ?_ ?_ ?_
  · intro h e5 hk5
    refine Lypb (V_move rfl rfl) rfl rfl rfl rfl e5 ?_
    refine Lypb (V_move rfl rfl) rfl rfl rfl rfl e5 ?_
    refine Lypb (V_lenS rfl rfl Tryz.underlying9 rfl rfl) rfl rfl rfl rfl e5 ?_
    obtain ⟨hc, h⟩ := h
    refine Lypb (V_slS (lo := none) (hi := (some (a1.size : Int))) rfl Tryz.underlying9 rfl optI_none (optI_some rfl) hc) rfl rfl rfl rfl e5 ?_
    refine Lypb (V_move rfl rfl) rfl rfl rfl rfl e5 ?_
    refine Lypb (V_eqlS rfl rfl rfl) rfl rfl rfl rfl e5 ?_
    refine Lp (V_pickT rfl (evb e5) rfl) rfl rfl ?_
    exact hk5 _ _ ⟨_, (FrLe.cons rfl (FrLe.nil _)), h⟩
  · intro h e5 hk5
    refine Ln rfl rfl rfl rfl (.inl (by rw [e5]; rfl)) ?_
    refine Ln rfl rfl rfl rfl (.inl (by rw [e5]; rfl)) ?_
    refine Ln rfl rfl rfl rfl (.inl (by rw [e5]; rfl)) ?_
    refine Ln rfl rfl rfl rfl (.inl (by rw [e5]; rfl)) ?_
    refine Ln rfl rfl rfl rfl (.inl (by rw [e5]; rfl)) ?_
    refine Ln rfl rfl rfl rfl (.inl (by rw [e5]; rfl)) ?_
    refine Lp (V_pickF rfl (evb e5) rfl) rfl rfl ?_
    exact hk5 _ _ ⟨_, (FrLe.cons rfl (FrLe.nil _)), h⟩
  rintro fr σ ⟨x17_2, hl, h⟩
  unfold j1_stringslite_HasPrefix at h
  refine Lfr hl ?_
  refine Lp (V_asg rfl rfl) rfl rfl ?_
  refine Lnil ?_
  refine thenN ?_
  refine AW.ret ?_
  exact bR1 Tryz.results135 rfl ⟨_, rfl, h⟩

end Go.Proofs.YtfobjidchipdaaaGreatDoor.G

/- Functions as predicate transformers, and the proofs that the code does what they tell: printed by wip/tools/gen.py. -/
namespace Go.Proofs.YtfobjidchipdaaaGreatDoor.G
open Go Go.Proofs.YtfobjidchipdaaaGreatDoor.SL
set_option linter.unusedVariables false
set_option linter.unusedSimpArgs false

def f_ref01_Copy (B : World) (ro : AH) (a0 : Sl) (σ : AH) (Q : Sl → AH → Prop) : Prop :=
 nw ro σ (.cells #[Sl.v a0] 22) fun x4_1 σ =>
 c_ref01_Join B ro (⟨some ⟨x4_1, 0, none⟩, 1, 1⟩ : Sl) σ fun x5_2 σ =>
 Q x5_2 σ

set_option maxRecDepth 100000 in
set_option maxHeartbeats 4000000 in
theorem ref01_Copy_ok {B : World} {ro : AH} {a0 : Sl} {σ : AH} {Q : Sl → AH → Prop} (h : Sep ro σ → f_ref01_Copy B ro a0 σ Q) : c_ref01_Copy B ro a0 σ Q := by
  refine ACalls.of_sep fun hsep => ?_
  replace h := h hsep
  refine ACalls.of_body (args := [Sl.v a0]) Tryz.func12 rfl (by rw [Tryz.ntmps12]; simp) ?_
  rw [Tryz.ntmps12]
  unfold f_ref01_Copy at h
  refine AW.seq ?_
  refine AW.reg ?_
  refine Lp (V_asg rfl rfl) rfl rfl ?_
  refine Lnil ?_
  refine thenN ?_
  refine AW.seq ?_
  refine AW.reg ?_
  refine Lp (V_move rfl rfl) rfl rfl ?_
  refine Ls rfl rfl (X_new (A_bsl (vs := [(0, Sl.v a0)]) (cs := #[Sl.v a0]) rfl Tryz.underlying44 ty22 (by decide) rfl rfl) fun x4_1 g1 g2 => ?_)
  replace h := h x4_1 g1 g2
  refine Ls rfl rfl (X_call rfl Tryz.func48 rfl rfl rfl (ACalls.mono h ?_))
  rintro v σ ⟨x5_2, rfl, h⟩
  refine Lp (V_asg rfl rfl) rfl rfl ?_
  refine Lnil ?_
  refine thenN ?_
  refine AW.ret ?_
  exact bR1 Tryz.results12 rfl ⟨_, rfl, h⟩

def f_ref01_Same (B : World) (ro : AH) (a0 : Sl) (a1 : Sl) (σ : AH) (Q : Bool → AH → Prop) : Prop :=
 awp Tryz.prog ro (convert 22 9 (Sl.v a0)) (fun v σ =>
  (∃ (x6_1 : ByteArray), v = .string x6_1 ∧
   awp Tryz.prog ro (convert 22 9 (Sl.v a1)) (fun v σ =>
    (∃ (x8_2 : ByteArray), v = .string x8_2 ∧
     Q (decide (x6_1 = x8_2)) σ)) σ)) σ

set_option maxRecDepth 100000 in
set_option maxHeartbeats 4000000 in
theorem ref01_Same_ok {B : World} {ro : AH} {a0 : Sl} {a1 : Sl} {σ : AH} {Q : Bool → AH → Prop} (h : Sep ro σ → f_ref01_Same B ro a0 a1 σ Q) : c_ref01_Same B ro a0 a1 σ Q := by
  refine ACalls.of_sep fun hsep => ?_
  replace h := h hsep
  refine ACalls.of_body (args := [Sl.v a0, Sl.v a1]) Tryz.func17 rfl (by rw [Tryz.ntmps17]; simp) ?_
  rw [Tryz.ntmps17]
  unfold f_ref01_Same at h
  refine AW.seq ?_
  refine AW.reg ?_
  refine Lp (V_asg rfl rfl) rfl rfl ?_
  refine Lnil ?_
  refine thenN ?_
  refine AW.seq ?_
  refine AW.reg ?_
  refine Lp (V_move rfl rfl) rfl rfl ?_
  refine Ls rfl rfl (X_cvt rfl rfl (awp_mono _ h ?_))
  rintro v σ ⟨x6_1, rfl, h⟩
  refine Lp (V_move rfl rfl) rfl rfl ?_
  refine Ls rfl rfl (X_cvt rfl rfl (awp_mono _ h ?_))
  rintro v σ ⟨x8_2, rfl, h⟩
  refine Lp (V_eqlS rfl rfl rfl) rfl rfl ?_
  refine Lp (V_asg rfl rfl) rfl rfl ?_
  refine Lnil ?_
  refine thenN ?_
  refine AW.ret ?_
  exact bR1 Tryz.results17 rfl ⟨_, rfl, h⟩

def j1_ref01_SameInts (B : World) (ro : AH) (Q : Bool → AH → Prop) (σ : AH) : Prop :=
 Q true σ

def l2_ref01_SameInts (B : World) (ro : AH) (a0 : Sl) (a1 : Sl) (Q : Bool → AH → Prop) : (Int) → AH → ((Int) → AH → Prop) → Prop := fun x5_3 σ Y2 =>
 if x5_3 < (a0.len : Int) then
  ∃ p19_4 : Addr, a0.a = some p19_4 ∧ (0 : Int) ≤ x5_3 ∧ x5_3 < (a0.len : Int) ∧
  ∃ p23_5 : Addr, a1.a = some p23_5 ∧ (0 : Int) ≤ x5_3 ∧ x5_3 < (a1.len : Int) ∧
  ∃ (x20_6 : Int), acell ro σ (p19_4.add (Int.toNat x5_3 * 1)) = some (.int .i64 x20_6) ∧
  ∃ (x24_7 : Int), acell ro σ (p23_5.add (Int.toNat x5_3 * 1)) = some (.int .i64 x24_7) ∧
  if ¬ (x20_6 = x24_7) then
   Q false σ
  else
  Y2 (IntKind.i64.wrap (x5_3 + 1)) σ
 else
 j1_ref01_SameInts B ro Q σ

def f_ref01_SameInts (B : World) (ro : AH) (a0 : Sl) (a1 : Sl) (σ : AH) (Q : Bool → AH → Prop) : Prop :=
 if ¬ ((a0.len : Int) = (a1.len : Int)) then
  Q false σ
 else
 lfpD (l2_ref01_SameInts B ro a0 a1 Q ) (0) σ

set_option maxRecDepth 100000 in
set_option maxHeartbeats 4000000 in
theorem ref01_SameInts_ok {B : World} {ro : AH} {a0 : Sl} {a1 : Sl} {σ : AH} {Q : Bool → AH → Prop} (h : Sep ro σ → f_ref01_SameInts B ro a0 a1 σ Q) : c_ref01_SameInts B ro a0 a1 σ Q := by
  refine ACalls.of_sep fun hsep => ?_
  replace h := h hsep
  refine ACalls.of_body (args := [Sl.v a0, Sl.v a1]) Tryz.func25 rfl (by rw [Tryz.ntmps25]; simp) ?_
  rw [Tryz.ntmps25]
  unfold f_ref01_SameInts at h
  refine AW.seq ?_
  refine AW.reg ?_
  refine Lp (V_asg rfl rfl) rfl rfl ?_
  refine Lnil ?_
  refine thenN ?_
  refine AW.seq ?_
  refine AW.seq ?_
  refine AW.reg ?_
  refine Lp (V_move rfl rfl) rfl rfl ?_
  refine Lp (V_lenL rfl rfl Tryz.underlying23 rfl rfl) rfl rfl ?_
  refine Lp (V_move rfl rfl) rfl rfl ?_
  refine Lp (V_lenL rfl rfl Tryz.underlying23 rfl rfl) rfl rfl ?_
  refine Lp (V_neq rfl rfl rfl) rfl rfl ?_
  refine Lnil ?_
  refine thenN ?_
  refine AW.iff rfl (bnot_iff decide_eq_true_iff) h (fun h => ?_) (fun h => ?_)
  · refine AW.seq ?_
    refine AW.reg ?_
    refine Lp (V_asg rfl rfl) rfl rfl ?_
    refine Lnil ?_
    refine thenN ?_
    refine AW.ret ?_
    refine thenR ?_
    exact bR1 Tryz.results25 rfl ⟨_, rfl, h⟩
  refine AW.skip ?_
  refine thenN ?_
  refine AW.seqJ (fun fr σ => FrLe [] fr ∧ j1_ref01_SameInts B ro Q σ) ?_ ?_
  · rintro fr σ ⟨hl, h⟩
    refine AW.weaken ?_ hl (HLe.refl _)
    unfold j1_ref01_SameInts at h
    refine AW.seq ?_
    refine AW.reg ?_
    refine Lp (V_asg rfl rfl) rfl rfl ?_
    refine Lnil ?_
    refine thenN ?_
    refine AW.ret ?_
    exact bR1 Tryz.results25 rfl ⟨_, rfl, h⟩
  refine AW.seq ?_
  refine AW.reg ?_
  refine Lp (V_asg rfl rfl) rfl rfl ?_
  refine Lnil ?_
  refine thenN ?_
  refine AW.block ?_
  refine ARound.loop (fr' := [(0, Sl.v a0), (1, Sl.v a1), (5, .int .i64 0)]) ?_ (FrLe.cons rfl (FrLe.cons rfl (FrLe.cons rfl (FrLe.nil _))))
  refine h (fun x5_3 σ => ARound _ _ _ _ _ _ [(0, Sl.v a0), (1, Sl.v a1), (5, .int .i64 x5_3)] σ) ?_
  rintro x5_3 σ Y2 hY2 h
  show AW _ _ _ _ _ _ _ _
  unfold l2_ref01_SameInts at h
  refine AW.seq ?_
  refine AW.seq ?_
  refine AW.reg ?_
  refine Lp (V_move rfl rfl) rfl rfl ?_
  refine Lp (V_move rfl rfl) rfl rfl ?_
  refine Lp (V_lenL rfl rfl Tryz.underlying23 rfl rfl) rfl rfl ?_
  refine Lp (V_lss rfl rfl rfl) rfl rfl ?_
  refine Lnil ?_
  refine thenN ?_
  refine AW.iff rfl decide_eq_true_iff h (fun h => ?_) (fun h => ?_)
  rotate_left
  · refine AW.exit ?_
    refine thenE ?_
    refine thenE ?_
    refine blockE ?_
    refine thenN ?_
    exact ⟨(FrLe.nil _), h⟩
  refine AW.skip ?_
  refine thenN ?_
  refine AW.seq ?_
  refine AW.block ?_
  refine AW.seq ?_
  refine AW.drawn0 (fun i => ([0, 0, 0, 3, 0, 0, 0, 3, 0] : List Nat).getD i 2) [] [0, 1, 2, 4, 5, 6, 3, 7, 8] Tryz.mixed (by decide +kernel) ?_
  refine Dp rfl rfl rfl rfl (V_move rfl rfl) ?_
  refine Dp rfl rfl rfl rfl (V_move rfl rfl) ?_
  obtain ⟨p19_4, ha, h0, h1, h⟩ := h
  refine Dp rfl rfl rfl rfl (V_ixA rfl Tryz.underlying23 ty3 (ixL rfl ha) rfl h0 h1) ?_
  refine Dp rfl rfl rfl rfl (V_move rfl rfl) ?_
  refine Dp rfl rfl rfl rfl (V_move rfl rfl) ?_
  obtain ⟨p23_5, ha, h0, h1, h⟩ := h
  refine Dp rfl rfl rfl rfl (V_ixA rfl Tryz.underlying23 ty3 (ixL rfl ha) rfl h0 h1) ?_
  obtain ⟨x20_6, hc, h⟩ := h
  refine Dr rfl rfl rfl rfl (R_ld rfl Tryz.underlying3 rfl rfl hc) ?_
  obtain ⟨x24_7, hc, h⟩ := h
  refine Dr rfl rfl rfl rfl (R_ld rfl Tryz.underlying3 rfl rfl hc) ?_
  refine Dp rfl rfl rfl rfl (V_neq rfl rfl rfl) ?_
  refine Dend ?_
  refine thenN ?_
  refine AW.iff rfl (bnot_iff decide_eq_true_iff) h (fun h => ?_) (fun h => ?_)
  · refine AW.seq ?_
    refine AW.reg ?_
    refine Lp (V_asg rfl rfl) rfl rfl ?_
    refine Lnil ?_
    refine thenN ?_
    refine AW.ret ?_
    refine blockR ?_
    refine thenR ?_
    refine thenR ?_
    refine blockR ?_
    refine thenR ?_
    exact bR1 Tryz.results25 rfl ⟨_, rfl, h⟩
  refine AW.skip ?_
  refine blockN ?_
  refine thenN ?_
  refine AW.reg ?_
  refine Lp (V_move rfl rfl) rfl rfl ?_
  refine Lp (V_add rfl rfl rfl) rfl rfl ?_
  refine Lp (V_asg rfl rfl) rfl rfl ?_
  refine Lnil ?_
  refine thenN ?_
  refine ARound.head (fr' := [(0, Sl.v a0), (1, Sl.v a1), (5, .int .i64 (IntKind.i64.wrap (x5_3 + 1)))]) ?_ (FrLe.cons rfl (FrLe.cons rfl (FrLe.cons rfl (FrLe.nil _))))
  exact hY2 _ _ h

def j2_ref01_Join (B : World) (ro : AH) (Q : Sl → AH → Prop) (x3_3 : Sl) (σ : AH) : Prop :=
 Q x3_3 σ

def l4_ref01_Join (B : World) (ro : AH) (a0 : Sl) (Q : Sl → AH → Prop) : (Sl × Int) → AH → ((Sl × Int) → AH → Prop) → Prop := fun ⟨x3_5, x4_6⟩ σ Y4 =>
 if x4_6 < (a0.len : Int) then
  ∃ p15_7 : Addr, a0.a = some p15_7 ∧ (0 : Int) ≤ x4_6 ∧ x4_6 < (a0.len : Int) ∧
  ∃ (x16_8 : Sl), acell ro σ (p15_7.add (Int.toNat x4_6 * 1)) = some (Sl.v x16_8) ∧
  awp Tryz.prog ro (Builtin.append_ #[22, 22] 22 #[Sl.v x3_5, Sl.v x16_8]) (fun v σ => ∃ (x17_9 : Sl), v = Sl.v x17_9 ∧
   Y4 (x17_9, IntKind.i64.wrap (x4_6 + 1)) σ) σ
 else
 j2_ref01_Join B ro Q x3_5 σ

def f_ref01_Join (B : World) (ro : AH) (a0 : Sl) (σ : AH) (Q : Sl → AH → Prop) : Prop :=
 nw ro σ (.cells #[] 5) fun x5_1 σ =>
 lfpD (l4_ref01_Join B ro a0 Q ) ((⟨some ⟨x5_1, 0, none⟩, 0, 0⟩ : Sl), 0) σ

set_option maxRecDepth 100000 in
set_option maxHeartbeats 4000000 in
theorem ref01_Join_ok {B : World} {ro : AH} {a0 : Sl} {σ : AH} {Q : Sl → AH → Prop} (h : Sep ro σ → f_ref01_Join B ro a0 σ Q) : c_ref01_Join B ro a0 σ Q := by
  refine ACalls.of_sep fun hsep => ?_
  replace h := h hsep
  refine ACalls.of_body (args := [Sl.v a0]) Tryz.func48 rfl (by rw [Tryz.ntmps48]; simp) ?_
  rw [Tryz.ntmps48]
  unfold f_ref01_Join at h
  refine AW.seq ?_
  refine AW.reg ?_
  refine Lp (V_asg rfl rfl) rfl rfl ?_
  refine Lnil ?_
  refine thenN ?_
  refine AW.seq ?_
  refine AW.reg ?_
  refine Ls rfl rfl (X_new (A_bsl (vs := []) (cs := #[]) rfl Tryz.underlying22 ty5 (by decide) rfl rfl) fun x5_1 g1 g2 => ?_)
  replace h := h x5_1 g1 g2
  refine Lp (V_asg rfl rfl) rfl rfl ?_
  refine Lnil ?_
  refine thenN ?_
  refine AW.seqJ (fun fr σ => ∃ (x3_3 : Sl), FrLe [(3, Sl.v x3_3)] fr ∧ j2_ref01_Join B ro Q x3_3 σ) ?_ ?_
  · rintro fr σ ⟨x3_3, hl, h⟩
    refine AW.weaken ?_ hl (HLe.refl _)
    unfold j2_ref01_Join at h
    refine AW.seq ?_
    refine AW.reg ?_
    refine Lp (V_move rfl rfl) rfl rfl ?_
    refine Lp (V_asg rfl rfl) rfl rfl ?_
    refine Lnil ?_
    refine thenN ?_
    refine AW.ret ?_
    exact bR1 Tryz.results48 rfl ⟨_, rfl, h⟩
  refine AW.seq ?_
  refine AW.reg ?_
  refine Lp (V_asg rfl rfl) rfl rfl ?_
  refine Lnil ?_
  refine thenN ?_
  refine AW.block ?_
  refine ARound.loop (fr' := [(0, Sl.v a0), (3, Sl.v (⟨some ⟨x5_1, 0, none⟩, 0, 0⟩ : Sl)), (4, .int .i64 0)]) ?_ (FrLe.cons rfl (FrLe.cons rfl (FrLe.cons rfl (FrLe.nil _))))
  refine h (fun ⟨x3_5, x4_6⟩ σ => ARound _ _ _ _ _ _ [(0, Sl.v a0), (3, Sl.v x3_5), (4, .int .i64 x4_6)] σ) ?_
  rintro ⟨x3_5, x4_6⟩ σ Y4 hY4 h
  show AW _ _ _ _ _ _ _ _
  unfold l4_ref01_Join at h
  dsimp only at h
  refine AW.seq ?_
  refine AW.seq ?_
  refine AW.reg ?_
  refine Lp (V_move rfl rfl) rfl rfl ?_
  refine Lp (V_move rfl rfl) rfl rfl ?_
  refine Lp (V_lenL rfl rfl Tryz.underlying44 rfl rfl) rfl rfl ?_
  refine Lp (V_lss rfl rfl rfl) rfl rfl ?_
  refine Lnil ?_
  refine thenN ?_
  refine AW.iff rfl decide_eq_true_iff h (fun h => ?_) (fun h => ?_)
  rotate_left
  · refine AW.exit ?_
    refine thenE ?_
    refine thenE ?_
    refine blockE ?_
    refine thenN ?_
    exact ⟨_, (FrLe.cons rfl (FrLe.nil _)), h⟩
  refine AW.skip ?_
  refine thenN ?_
  refine AW.seq ?_
  refine AW.block ?_
  refine AW.reg ?_
  refine Lp (V_move rfl rfl) rfl rfl ?_
  refine Lp (V_move rfl rfl) rfl rfl ?_
  refine Lp (V_move rfl rfl) rfl rfl ?_
  obtain ⟨p15_7, ha, h0, h1, h⟩ := h
  refine Lp (V_ixA rfl Tryz.underlying44 ty22 (ixL rfl ha) rfl h0 h1) rfl rfl ?_
  obtain ⟨x16_8, hc, h⟩ := h
  refine Ls rfl rfl (X_ld rfl Tryz.underlying22 rfl rfl hc ?_)
  refine Ls rfl rfl (X_bi (s := Builtin.append_ #[22, 22] 22 #[Sl.v x3_5, Sl.v x16_8]) rfl rfl (fun _ => rfl) (awp_mono _ h ?_))
  rintro v σ ⟨x17_9, rfl, h⟩
  refine Lp (V_asg rfl rfl) rfl rfl ?_
  refine Lnil ?_
  refine blockN ?_
  refine thenN ?_
  refine AW.reg ?_
  refine Lp (V_move rfl rfl) rfl rfl ?_
  refine Lp (V_add rfl rfl rfl) rfl rfl ?_
  refine Lp (V_asg rfl rfl) rfl rfl ?_
  refine Lnil ?_
  refine thenN ?_
  refine ARound.head (fr' := [(0, Sl.v a0), (3, Sl.v x17_9), (4, .int .i64 (IntKind.i64.wrap (x4_6 + 1)))]) ?_ (FrLe.cons rfl (FrLe.cons rfl (FrLe.cons rfl (FrLe.nil _))))
  exact hY4 _ _ h

def f_ref01_Bad (B : World) (ro : AH) (a0 : Int) (σ : AH) (Q : Bool → AH → Prop) : Prop :=
 Q ((decide (a0 < 0)) || (decide (4611686018427387903 < a0))) σ

set_option maxRecDepth 100000 in
set_option maxHeartbeats 4000000 in
theorem ref01_Bad_ok {B : World} {ro : AH} {a0 : Int} {σ : AH} {Q : Bool → AH → Prop} (h : Sep ro σ → f_ref01_Bad B ro a0 σ Q) : c_ref01_Bad B ro a0 σ Q := by
  refine ACalls.of_sep fun hsep => ?_
  replace h := h hsep
  refine ACalls.of_body (args := [.int .i64 a0]) Tryz.func56 rfl (by rw [Tryz.ntmps56]; simp) ?_
  rw [Tryz.ntmps56]
  unfold f_ref01_Bad at h
  refine AW.seq ?_
  refine AW.reg ?_
  refine Lp (V_asg rfl rfl) rfl rfl ?_
  refine Lnil ?_
  refine thenN ?_
  refine AW.seq ?_
  refine AW.reg ?_
  refine Lp (V_move rfl rfl) rfl rfl ?_
  refine Lp (V_lss rfl rfl rfl) rfl rfl ?_
  refine Lp (V_move rfl rfl) rfl rfl ?_
  refine Lsplit 3 (decide (a0 < 0)) [(8, .bool ((decide (a0 < 0)) || (decide (4611686018427387903 < a0))))] ?_ ?_ ?_
  · intro e2 hk2
    refine Ln rfl rfl rfl rfl (.inl (by rw [e2]; rfl)) ?_
    refine Ln rfl rfl rfl rfl (.inl (by rw [e2]; rfl)) ?_
    refine Lp (V_pickT rfl (evb e2) rfl) rfl rfl ?_
    exact hk2 _ (FrLe.cons (by rw [e2]; rfl) (FrLe.nil _))
  · intro e2 hk2
    refine Lypb (V_move rfl rfl) rfl rfl rfl rfl e2 ?_
    refine Lypb (V_gtr rfl rfl rfl) rfl rfl rfl rfl e2 ?_
    refine Lp (V_pickF rfl (evb e2) rfl) rfl rfl ?_
    exact hk2 _ (FrLe.cons (by rw [e2]; rfl) (FrLe.nil _))
  intro fr hl
  refine Lfr hl ?_
  refine Lp (V_asg rfl rfl) rfl rfl ?_
  refine Lnil ?_
  refine thenN ?_
  refine AW.ret ?_
  exact bR1 Tryz.results56 rfl ⟨_, rfl, h⟩

def j1_ref01_Sum (B : World) (ro : AH) (Q : Int → AH → Prop) (x3_2 : Int) (σ : AH) : Prop :=
 Q (IntKind.i64.wrap (4294967295 - x3_2)) σ

def j6_ref01_Sum (B : World) (ro : AH) (a0 : Sl) (x4_5 : Int) (Q : Int → AH → Prop) (Y3 : (Int × Int) → AH → Prop) (x3_7 : Int) (σ : AH) : Prop :=
 Y3 (x3_7, IntKind.i64.wrap (x4_5 + 1)) σ

def j13_ref01_Sum (B : World) (ro : AH) (a0 : Sl) (x4_5 : Int) (x5_12 : Int) (Q : Int → AH → Prop) (Y3 : (Int × Int) → AH → Prop) (Y10 : (Int × Int) → AH → Prop) (x3_14 : Int) (σ : AH) : Prop :=
 Y10 (x3_14, IntKind.i64.wrap (x5_12 + 1)) σ

def l10_ref01_Sum (B : World) (ro : AH) (a0 : Sl) (x4_5 : Int) (Q : Int → AH → Prop) (Y3 : (Int × Int) → AH → Prop) : (Int × Int) → AH → ((Int × Int) → AH → Prop) → Prop := fun ⟨x3_11, x5_12⟩ σ Y10 =>
 if x5_12 < 8 then
  if (Int.tmod x3_11 2) = 1 then
   j13_ref01_Sum B ro a0 x4_5 x5_12 Q Y3 Y10 (bitXor .i64 (IntKind.i64.wrap (Int.tdiv x3_11 2)) 3988292384) σ
  else
  j13_ref01_Sum B ro a0 x4_5 x5_12 Q Y3 Y10 (IntKind.i64.wrap (Int.tdiv x3_11 2)) σ
 else
 j6_ref01_Sum B ro a0 x4_5 Q Y3 x3_11 σ

def l3_ref01_Sum (B : World) (ro : AH) (a0 : Sl) (Q : Int → AH → Prop) : (Int × Int) → AH → ((Int × Int) → AH → Prop) → Prop := fun ⟨x3_4, x4_5⟩ σ Y3 =>
 if x4_5 < (a0.len : Int) then
  ∃ p16_8 : Addr, a0.a = some p16_8 ∧ (0 : Int) ≤ x4_5 ∧ x4_5 < (a0.len : Int) ∧
  ∃ (x17_9 : Int), acell ro σ (p16_8.add (Int.toNat x4_5 * 1)) = some (.int .u8 x17_9) ∧
  lfpD (l10_ref01_Sum B ro a0 x4_5 Q Y3 ) (bitXor .i64 x3_4 (IntKind.i64.wrap x17_9), 0) σ
 else
 j1_ref01_Sum B ro Q x3_4 σ

def f_ref01_Sum (B : World) (ro : AH) (a0 : Sl) (σ : AH) (Q : Int → AH → Prop) : Prop :=
 lfpD (l3_ref01_Sum B ro a0 Q ) (4294967295, 0) σ

set_option maxRecDepth 100000 in
set_option maxHeartbeats 4000000 in
theorem ref01_Sum_ok {B : World} {ro : AH} {a0 : Sl} {σ : AH} {Q : Int → AH → Prop} (h : Sep ro σ → f_ref01_Sum B ro a0 σ Q) : c_ref01_Sum B ro a0 σ Q := by
  refine ACalls.of_sep fun hsep => ?_
  replace h := h hsep
  refine ACalls.of_body (args := [Sl.v a0]) Tryz.func57 rfl (by rw [Tryz.ntmps57]; simp) ?_
  rw [Tryz.ntmps57]
  unfold f_ref01_Sum at h
  refine AW.seq ?_
  refine AW.reg ?_
  refine Lp (V_asg rfl rfl) rfl rfl ?_
  refine Lnil ?_
  refine thenN ?_
  refine AW.seq ?_
  refine AW.reg ?_
  refine Lp (V_asg rfl rfl) rfl rfl ?_
  refine Lnil ?_
  refine thenN ?_
  refine AW.seqJ (fun fr σ => ∃ (x3_2 : Int), FrLe [(3, .int .i64 x3_2)] fr ∧ j1_ref01_Sum B ro Q x3_2 σ) ?_ ?_
  · rintro fr σ ⟨x3_2, hl, h⟩
    refine AW.weaken ?_ hl (HLe.refl _)
    unfold j1_ref01_Sum at h
    refine AW.seq ?_
    refine AW.reg ?_
    refine Lp (V_move rfl rfl) rfl rfl ?_
    refine Lp (V_sub rfl rfl rfl) rfl rfl ?_
    refine Lp (V_asg rfl rfl) rfl rfl ?_
    refine Lnil ?_
    refine thenN ?_
    refine AW.ret ?_
    exact bR1 Tryz.results57 rfl ⟨_, rfl, h⟩
  refine AW.seq ?_
  refine AW.reg ?_
  refine Lp (V_asg rfl rfl) rfl rfl ?_
  refine Lnil ?_
  refine thenN ?_
  refine AW.block ?_
  refine ARound.loop (fr' := [(0, Sl.v a0), (3, .int .i64 4294967295), (4, .int .i64 0)]) ?_ (FrLe.cons rfl (FrLe.cons rfl (FrLe.cons rfl (FrLe.nil _))))
  refine h (fun ⟨x3_4, x4_5⟩ σ => ARound _ _ _ _ _ _ [(0, Sl.v a0), (3, .int .i64 x3_4), (4, .int .i64 x4_5)] σ) ?_
  rintro ⟨x3_4, x4_5⟩ σ Y3 hY3 h
  show AW _ _ _ _ _ _ _ _
  unfold l3_ref01_Sum at h
  dsimp only at h
  refine AW.seq ?_
  refine AW.seq ?_
  refine AW.reg ?_
  refine Lp (V_move rfl rfl) rfl rfl ?_
  refine Lp (V_move rfl rfl) rfl rfl ?_
  refine Lp (V_lenL rfl rfl Tryz.underlying22 rfl rfl) rfl rfl ?_
  refine Lp (V_lss rfl rfl rfl) rfl rfl ?_
  refine Lnil ?_
  refine thenN ?_
  refine AW.iff rfl decide_eq_true_iff h (fun h => ?_) (fun h => ?_)
  rotate_left
  · refine AW.exit ?_
    refine thenE ?_
    refine thenE ?_
    refine blockE ?_
    refine thenN ?_
    exact ⟨_, (FrLe.cons rfl (FrLe.nil _)), h⟩
  refine AW.skip ?_
  refine thenN ?_
  refine AW.seqJ (fun fr σ => ∃ (x3_7 : Int), FrLe [(0, Sl.v a0), (4, .int .i64 x4_5), (3, .int .i64 x3_7)] fr ∧ j6_ref01_Sum B ro a0 x4_5 Q Y3 x3_7 σ) ?_ ?_
  · rintro fr σ ⟨x3_7, hl, h⟩
    refine AW.weaken ?_ hl (HLe.refl _)
    unfold j6_ref01_Sum at h
    refine AW.reg ?_
    refine Lp (V_move rfl rfl) rfl rfl ?_
    refine Lp (V_add rfl rfl rfl) rfl rfl ?_
    refine Lp (V_asg rfl rfl) rfl rfl ?_
    refine Lnil ?_
    refine thenN ?_
    refine ARound.head (fr' := [(0, Sl.v a0), (3, .int .i64 x3_7), (4, .int .i64 (IntKind.i64.wrap (x4_5 + 1)))]) ?_ (FrLe.cons rfl (FrLe.cons rfl (FrLe.cons rfl (FrLe.nil _))))
    exact hY3 _ _ h
  refine AW.block ?_
  refine AW.seq ?_
  refine AW.reg ?_
  refine Lp (V_move rfl rfl) rfl rfl ?_
  refine Lp (V_move rfl rfl) rfl rfl ?_
  refine Lp (V_move rfl rfl) rfl rfl ?_
  obtain ⟨p16_8, ha, h0, h1, h⟩ := h
  refine Lp (V_ixA rfl Tryz.underlying22 ty5 (ixL rfl ha) rfl h0 h1) rfl rfl ?_
  obtain ⟨x17_9, hc, h⟩ := h
  refine Ls rfl rfl (X_ld rfl Tryz.underlying5 rfl rfl hc ?_)
  refine Lp (V_cvt rfl rfl Tryz.underlying5 Tryz.underlying3) rfl rfl ?_
  refine Lp (V_xor rfl rfl rfl) rfl rfl ?_
  refine Lp (V_asg rfl rfl) rfl rfl ?_
  refine Lnil ?_
  refine thenN ?_
  refine AW.seq ?_
  refine AW.reg ?_
  refine Lp (V_asg rfl rfl) rfl rfl ?_
  refine Lnil ?_
  refine thenN ?_
  refine AW.block ?_
  refine ARound.loop (fr' := [(0, Sl.v a0), (4, .int .i64 x4_5), (3, .int .i64 (bitXor .i64 x3_4 (IntKind.i64.wrap x17_9))), (5, .int .i64 0)]) ?_ (FrLe.cons rfl (FrLe.cons rfl (FrLe.cons rfl (FrLe.cons rfl (FrLe.nil _)))))
  refine h (fun ⟨x3_11, x5_12⟩ σ => ARound _ _ _ _ _ _ [(0, Sl.v a0), (4, .int .i64 x4_5), (3, .int .i64 x3_11), (5, .int .i64 x5_12)] σ) ?_
  rintro ⟨x3_11, x5_12⟩ σ Y10 hY10 h
  show AW _ _ _ _ _ _ _ _
  unfold l10_ref01_Sum at h
  dsimp only at h
  refine AW.seq ?_
  refine AW.seq ?_
  refine AW.reg ?_
  refine Lp (V_move rfl rfl) rfl rfl ?_
  refine Lp (V_lss rfl rfl rfl) rfl rfl ?_
  refine Lnil ?_
  refine thenN ?_
  refine AW.iff rfl decide_eq_true_iff h (fun h => ?_) (fun h => ?_)
  rotate_left
  · refine AW.exit ?_
    refine thenE ?_
    refine thenE ?_
    refine blockE ?_
    refine blockN ?_
    refine thenN ?_
    exact ⟨_, (FrLe.cons rfl (FrLe.cons rfl (FrLe.cons rfl (FrLe.nil _)))), h⟩
  refine AW.skip ?_
  refine thenN ?_
  refine AW.seqJ (fun fr σ => ∃ (x3_14 : Int), FrLe [(0, Sl.v a0), (4, .int .i64 x4_5), (5, .int .i64 x5_12), (3, .int .i64 x3_14)] fr ∧ j13_ref01_Sum B ro a0 x4_5 x5_12 Q Y3 Y10 x3_14 σ) ?_ ?_
  · rintro fr σ ⟨x3_14, hl, h⟩
    refine AW.weaken ?_ hl (HLe.refl _)
    unfold j13_ref01_Sum at h
    refine AW.reg ?_
    refine Lp (V_move rfl rfl) rfl rfl ?_
    refine Lp (V_add rfl rfl rfl) rfl rfl ?_
    refine Lp (V_asg rfl rfl) rfl rfl ?_
    refine Lnil ?_
    refine thenN ?_
    refine ARound.head (fr' := [(0, Sl.v a0), (4, .int .i64 x4_5), (3, .int .i64 x3_14), (5, .int .i64 (IntKind.i64.wrap (x5_12 + 1)))]) ?_ (FrLe.cons rfl (FrLe.cons rfl (FrLe.cons rfl (FrLe.cons rfl (FrLe.nil _)))))
    exact hY10 _ _ h
  refine AW.block ?_
  refine AW.seq ?_
  refine AW.reg ?_
  refine Lp (V_move rfl rfl) rfl rfl ?_
  refine Lp (V_rem rfl rfl rfl (by decide)) rfl rfl ?_
  refine Lp (V_asg rfl rfl) rfl rfl ?_
  refine Lnil ?_
  refine thenN ?_
  refine AW.seq ?_
  refine AW.reg ?_
  refine Lp (V_move rfl rfl) rfl rfl ?_
  refine Lp (V_quo rfl rfl rfl (by decide)) rfl rfl ?_
  refine Lp (V_asg rfl rfl) rfl rfl ?_
  refine Lnil ?_
  refine thenN ?_
  refine AW.seq ?_
  refine AW.reg ?_
  refine Lp (V_move rfl rfl) rfl rfl ?_
  refine Lp (V_eql rfl rfl rfl) rfl rfl ?_
  refine Lnil ?_
  refine thenN ?_
  refine AW.iff rfl decide_eq_true_iff h (fun h => ?_) (fun h => ?_)
  rotate_left
  · refine AW.skip ?_
    refine blockN ?_
    refine thenN ?_
    exact ⟨_, (FrLe.cons rfl (FrLe.cons rfl (FrLe.cons rfl (FrLe.cons rfl (FrLe.nil _))))), h⟩
  refine AW.reg ?_
  refine Lp (V_move rfl rfl) rfl rfl ?_
  refine Lp (V_xor rfl rfl rfl) rfl rfl ?_
  refine Lp (V_asg rfl rfl) rfl rfl ?_
  refine Lnil ?_
  refine blockN ?_
  refine thenN ?_
  exact ⟨_, (FrLe.cons rfl (FrLe.cons rfl (FrLe.cons rfl (FrLe.cons rfl (FrLe.nil _))))), h⟩

def j2_ref01_Put (B : World) (ro : AH) (Q : Sl → AH → Prop) (x0_3 : Int) (x3_4 : Sl) (σ : AH) : Prop :=
 nw ro σ (.cells #[.int .u8 (IntKind.u8.wrap x0_3)] 5) fun x19_5 σ =>
 awp Tryz.prog ro (Builtin.append_ #[22, 22] 22 #[Sl.v x3_4, Sl.v (⟨some ⟨x19_5, 0, none⟩, 1, 1⟩ : Sl)]) (fun v σ => ∃ (x20_6 : Sl), v = Sl.v x20_6 ∧
  Q x20_6 σ) σ

def l7_ref01_Put (B : World) (ro : AH) (Q : Sl → AH → Prop) : (Int × Sl) → AH → ((Int × Sl) → AH → Prop) → Prop := fun ⟨x0_8, x3_9⟩ σ Y7 =>
 if 128 ≤ x0_8 then
  nw ro σ (.cells #[.int .u8 (IntKind.u8.wrap (IntKind.i64.wrap (128 + (Int.tmod x0_8 128))))] 5) fun x12_10 σ =>
  awp Tryz.prog ro (Builtin.append_ #[22, 22] 22 #[Sl.v x3_9, Sl.v (⟨some ⟨x12_10, 0, none⟩, 1, 1⟩ : Sl)]) (fun v σ => ∃ (x13_11 : Sl), v = Sl.v x13_11 ∧
   Y7 (IntKind.i64.wrap (Int.tdiv x0_8 128), x13_11) σ) σ
 else
 j2_ref01_Put B ro Q x0_8 x3_9 σ

def f_ref01_Put (B : World) (ro : AH) (a0 : Int) (σ : AH) (Q : Sl → AH → Prop) : Prop :=
 nw ro σ (.cells #[] 5) fun x4_1 σ =>
 lfpD (l7_ref01_Put B ro Q ) (a0, (⟨some ⟨x4_1, 0, none⟩, 0, 0⟩ : Sl)) σ

set_option maxRecDepth 100000 in
set_option maxHeartbeats 4000000 in
theorem ref01_Put_ok {B : World} {ro : AH} {a0 : Int} {σ : AH} {Q : Sl → AH → Prop} (h : Sep ro σ → f_ref01_Put B ro a0 σ Q) : c_ref01_Put B ro a0 σ Q := by
  refine ACalls.of_sep fun hsep => ?_
  replace h := h hsep
  refine ACalls.of_body (args := [.int .i64 a0]) Tryz.func58 rfl (by rw [Tryz.ntmps58]; simp) ?_
  rw [Tryz.ntmps58]
  unfold f_ref01_Put at h
  refine AW.seq ?_
  refine AW.reg ?_
  refine Lp (V_asg rfl rfl) rfl rfl ?_
  refine Lnil ?_
  refine thenN ?_
  refine AW.seq ?_
  refine AW.reg ?_
  refine Ls rfl rfl (X_new (A_bsl (vs := []) (cs := #[]) rfl Tryz.underlying22 ty5 (by decide) rfl rfl) fun x4_1 g1 g2 => ?_)
  replace h := h x4_1 g1 g2
  refine Lp (V_asg rfl rfl) rfl rfl ?_
  refine Lnil ?_
  refine thenN ?_
  refine AW.seqJ (fun fr σ => ∃ (x0_3 : Int) (x3_4 : Sl), FrLe [(0, .int .i64 x0_3), (3, Sl.v x3_4)] fr ∧ j2_ref01_Put B ro Q x0_3 x3_4 σ) ?_ ?_
  · rintro fr σ ⟨x0_3, x3_4, hl, h⟩
    refine AW.weaken ?_ hl (HLe.refl _)
    unfold j2_ref01_Put at h
    refine AW.seq ?_
    refine AW.reg ?_
    refine Lp (V_move rfl rfl) rfl rfl ?_
    refine Lp (V_move rfl rfl) rfl rfl ?_
    refine Lp (V_cvt rfl rfl Tryz.underlying3 Tryz.underlying5) rfl rfl ?_
    refine Ls rfl rfl (X_new (A_bsl (vs := [(0, .int .u8 (IntKind.u8.wrap x0_3))]) (cs := #[.int .u8 (IntKind.u8.wrap x0_3)]) rfl Tryz.underlying22 ty5 (by decide) rfl rfl) fun x19_5 g1 g2 => ?_)
    replace h := h x19_5 g1 g2
    refine Ls rfl rfl (X_bi (s := Builtin.append_ #[22, 22] 22 #[Sl.v x3_4, Sl.v (⟨some ⟨x19_5, 0, none⟩, 1, 1⟩ : Sl)]) rfl rfl (fun _ => rfl) (awp_mono _ h ?_))
    rintro v σ ⟨x20_6, rfl, h⟩
    refine Lp (V_asg rfl rfl) rfl rfl ?_
    refine Lnil ?_
    refine thenN ?_
    refine AW.ret ?_
    exact bR1 Tryz.results58 rfl ⟨_, rfl, h⟩
  refine AW.block ?_
  refine ARound.loop (fr' := [(0, .int .i64 a0), (3, Sl.v (⟨some ⟨x4_1, 0, none⟩, 0, 0⟩ : Sl))]) ?_ (FrLe.cons rfl (FrLe.cons rfl (FrLe.nil _)))
  refine h (fun ⟨x0_8, x3_9⟩ σ => ARound _ _ _ _ _ _ [(0, .int .i64 x0_8), (3, Sl.v x3_9)] σ) ?_
  rintro ⟨x0_8, x3_9⟩ σ Y7 hY7 h
  show AW _ _ _ _ _ _ _ _
  unfold l7_ref01_Put at h
  dsimp only at h
  refine AW.seq ?_
  refine AW.seq ?_
  refine AW.reg ?_
  refine Lp (V_move rfl rfl) rfl rfl ?_
  refine Lp (V_geq rfl rfl rfl) rfl rfl ?_
  refine Lnil ?_
  refine thenN ?_
  refine AW.iff rfl decide_eq_true_iff h (fun h => ?_) (fun h => ?_)
  rotate_left
  · refine AW.exit ?_
    refine thenE ?_
    refine thenE ?_
    refine blockE ?_
    refine thenN ?_
    exact ⟨_, _, (FrLe.cons rfl (FrLe.cons rfl (FrLe.nil _))), h⟩
  refine AW.skip ?_
  refine thenN ?_
  refine AW.block ?_
  refine AW.seq ?_
  refine AW.reg ?_
  refine Lp (V_move rfl rfl) rfl rfl ?_
  refine Lp (V_move rfl rfl) rfl rfl ?_
  refine Lp (V_rem rfl rfl rfl (by decide)) rfl rfl ?_
  refine Lp (V_add rfl rfl rfl) rfl rfl ?_
  refine Lp (V_cvt rfl rfl Tryz.underlying3 Tryz.underlying5) rfl rfl ?_
  refine Ls rfl rfl (X_new (A_bsl (vs := [(0, .int .u8 (IntKind.u8.wrap (IntKind.i64.wrap (128 + (Int.tmod x0_8 128)))))]) (cs := #[.int .u8 (IntKind.u8.wrap (IntKind.i64.wrap (128 + (Int.tmod x0_8 128))))]) rfl Tryz.underlying22 ty5 (by decide) rfl rfl) fun x12_10 g1 g2 => ?_)
  replace h := h x12_10 g1 g2
  refine Ls rfl rfl (X_bi (s := Builtin.append_ #[22, 22] 22 #[Sl.v x3_9, Sl.v (⟨some ⟨x12_10, 0, none⟩, 1, 1⟩ : Sl)]) rfl rfl (fun _ => rfl) (awp_mono _ h ?_))
  rintro v σ ⟨x13_11, rfl, h⟩
  refine Lp (V_asg rfl rfl) rfl rfl ?_
  refine Lnil ?_
  refine thenN ?_
  refine AW.reg ?_
  refine Lp (V_move rfl rfl) rfl rfl ?_
  refine Lp (V_quo rfl rfl rfl (by decide)) rfl rfl ?_
  refine Lp (V_asg rfl rfl) rfl rfl ?_
  refine Lnil ?_
  refine blockN ?_
  refine thenN ?_
  refine ARound.head (fr' := [(0, .int .i64 (IntKind.i64.wrap (Int.tdiv x0_8 128))), (3, Sl.v x13_11)]) ?_ (FrLe.cons rfl (FrLe.cons rfl (FrLe.nil _)))
  exact hY7 _ _ h

def f_ref01_Blob (B : World) (ro : AH) (a0 : Sl) (σ : AH) (Q : Sl → AH → Prop) : Prop :=
 c_ref01_Put B ro (a0.len : Int) σ fun x5_1 σ =>
 nw ro σ (.cells #[Sl.v x5_1, Sl.v a0] 22) fun x7_2 σ =>
 c_ref01_Join B ro (⟨some ⟨x7_2, 0, none⟩, 2, 2⟩ : Sl) σ fun x8_3 σ =>
 Q x8_3 σ

set_option maxRecDepth 100000 in
set_option maxHeartbeats 4000000 in
theorem ref01_Blob_ok {B : World} {ro : AH} {a0 : Sl} {σ : AH} {Q : Sl → AH → Prop} (h : Sep ro σ → f_ref01_Blob B ro a0 σ Q) : c_ref01_Blob B ro a0 σ Q := by
  refine ACalls.of_sep fun hsep => ?_
  replace h := h hsep
  refine ACalls.of_body (args := [Sl.v a0]) Tryz.func59 rfl (by rw [Tryz.ntmps59]; simp) ?_
  rw [Tryz.ntmps59]
  unfold f_ref01_Blob at h
  refine AW.seq ?_
  refine AW.reg ?_
  refine Lp (V_asg rfl rfl) rfl rfl ?_
  refine Lnil ?_
  refine thenN ?_
  refine AW.seq ?_
  refine AW.reg ?_
  refine Lp (V_move rfl rfl) rfl rfl ?_
  refine Lp (V_lenL rfl rfl Tryz.underlying22 rfl rfl) rfl rfl ?_
  refine Ls rfl rfl (X_call rfl Tryz.func58 rfl rfl rfl (ACalls.mono h ?_))
  rintro v σ ⟨x5_1, rfl, h⟩
  refine Lp (V_move rfl rfl) rfl rfl ?_
  refine Ls rfl rfl (X_new (A_bsl (vs := [(0, Sl.v x5_1), (1, Sl.v a0)]) (cs := #[Sl.v x5_1, Sl.v a0]) rfl Tryz.underlying44 ty22 (by decide) rfl rfl) fun x7_2 g1 g2 => ?_)
  replace h := h x7_2 g1 g2
  refine Ls rfl rfl (X_call rfl Tryz.func48 rfl rfl rfl (ACalls.mono h ?_))
  rintro v σ ⟨x8_3, rfl, h⟩
  refine Lp (V_asg rfl rfl) rfl rfl ?_
  refine Lnil ?_
  refine thenN ?_
  refine AW.ret ?_
  exact bR1 Tryz.results59 rfl ⟨_, rfl, h⟩

def f_ref01_Reader_Num (B : World) (ro : AH) (a0 : Option Addr) (σ : AH) (Q : Int → AH → Prop) : Prop :=
 ∃ p7_1 : Addr, a0 = some p7_1 ∧
 ∃ (x9_2 : Int), acell ro σ (p7_1.add 2) = some (.int .i64 x9_2) ∧
 if ¬ (x9_2 = 0) then
  Q 0 σ
 else
 ∃ p13_3 : Addr, a0 = some p13_3 ∧
 ∃ p17_4 : Addr, a0 = some p17_4 ∧
 ∃ (x15_5 : Sl), acell ro σ p13_3 = some (Sl.v x15_5) ∧
 ∃ (x19_6 : Int), acell ro σ (p17_4.add 1) = some (.int .i64 x19_6) ∧
 c_ref01_Number B ro x15_5 x19_6 σ fun x20_7 x20_8 x20_9 σ =>
 if ¬ (x20_9 = 0) then
  ∃ p28_10 : Addr, a0 = some p28_10 ∧
  stN (p28_10.add 2) (fun σ =>
   Q 0 σ) [.int .i64 x20_9] 0 σ
 else
 ∃ p32_11 : Addr, a0 = some p32_11 ∧
 stN (p32_11.add 1) (fun σ =>
  Q x20_7 σ) [.int .i64 x20_8] 0 σ

set_option maxRecDepth 100000 in
set_option maxHeartbeats 4000000 in
theorem ref01_Reader_Num_ok {B : World} {ro : AH} {a0 : Option Addr} {σ : AH} {Q : Int → AH → Prop} (h : Sep ro σ → f_ref01_Reader_Num B ro a0 σ Q) : c_ref01_Reader_Num B ro a0 σ Q := by
  refine ACalls.of_sep fun hsep => ?_
  replace h := h hsep
  refine ACalls.of_body (args := [.pointer a0]) Tryz.func62 rfl (by rw [Tryz.ntmps62]; simp) ?_
  rw [Tryz.ntmps62]
  unfold f_ref01_Reader_Num at h
  refine AW.seq ?_
  refine AW.reg ?_
  refine Lp (V_asg rfl rfl) rfl rfl ?_
  refine Lnil ?_
  refine thenN ?_
  refine AW.seq ?_
  refine AW.seq ?_
  refine AW.reg ?_
  refine Lp (V_move rfl rfl) rfl rfl ?_
  obtain ⟨p7_1, hc, h⟩ := h
  refine Lp (V_nil rfl (by rw [← hc]; rfl)) rfl rfl ?_
  refine Lp (V_fld rfl Tryz.underlying122 rfl ty3 (by decide) rfl) rfl rfl ?_
  obtain ⟨x9_2, hc, h⟩ := h
  refine Ls rfl rfl (X_ld rfl Tryz.underlying3 rfl rfl hc ?_)
  refine Lp (V_neq rfl rfl rfl) rfl rfl ?_
  refine Lnil ?_
  refine thenN ?_
  refine AW.iff rfl (bnot_iff decide_eq_true_iff) h (fun h => ?_) (fun h => ?_)
  · refine AW.seq ?_
    refine AW.reg ?_
    refine Lp (V_asg rfl rfl) rfl rfl ?_
    refine Lnil ?_
    refine thenN ?_
    refine AW.ret ?_
    refine thenR ?_
    exact bR1 Tryz.results62 rfl ⟨_, rfl, h⟩
  refine AW.skip ?_
  refine thenN ?_
  refine AW.seq ?_
  refine AW.drawn0 (fun i => ([0, 0, 0, 3, 0, 0, 0, 3, 2, 0, 0, 0, 0, 0, 0, 0] : List Nat).getD i 2) [] [0, 1, 2, 4, 5, 6, 3, 7, 8, 9, 10, 11, 12, 13, 14, 15] Tryz.mixed (by decide +kernel) ?_
  refine Dp rfl rfl rfl rfl (V_move rfl rfl) ?_
  obtain ⟨p13_3, hc, h⟩ := h
  refine Dp rfl rfl rfl rfl (V_nil rfl (by rw [← hc]; rfl)) ?_
  refine Dp rfl rfl rfl rfl (V_fld rfl Tryz.underlying122 rfl ty22 (by decide) rfl) ?_
  refine Dp rfl rfl rfl rfl (V_move rfl rfl) ?_
  obtain ⟨p17_4, hc, h⟩ := h
  refine Dp rfl rfl rfl rfl (V_nil rfl (by rw [← hc]; rfl)) ?_
  refine Dp rfl rfl rfl rfl (V_fld rfl Tryz.underlying122 rfl ty3 (by decide) rfl) ?_
  obtain ⟨x15_5, hc, h⟩ := h
  refine Dr rfl rfl rfl rfl (R_ld rfl Tryz.underlying22 rfl rfl hc) ?_
  obtain ⟨x19_6, hc, h⟩ := h
  refine Dr rfl rfl rfl rfl (R_ld rfl Tryz.underlying3 rfl rfl hc) ?_
  refine Dg rfl rfl rfl rfl (X_call rfl Tryz.func95 rfl rfl rfl (ACalls.mono h ?_))
  rintro v σ ⟨x20_7, x20_8, x20_9, rfl, h⟩
  refine Dp rfl rfl rfl rfl (V_move rfl rfl) ?_
  refine Dp rfl rfl rfl rfl (V_ext rfl rfl rfl) ?_
  refine Dp rfl rfl rfl rfl (V_ext rfl rfl rfl) ?_
  refine Dp rfl rfl rfl rfl (V_ext rfl rfl rfl) ?_
  refine Dp rfl rfl rfl rfl (V_asg rfl rfl) ?_
  refine Dp rfl rfl rfl rfl (V_asg rfl rfl) ?_
  refine Dp rfl rfl rfl rfl (V_asg rfl rfl) ?_
  refine Dend ?_
  refine thenN ?_
  refine AW.seq ?_
  refine AW.seq ?_
  refine AW.reg ?_
  refine Lp (V_move rfl rfl) rfl rfl ?_
  refine Lp (V_neq rfl rfl rfl) rfl rfl ?_
  refine Lnil ?_
  refine thenN ?_
  refine AW.iff rfl (bnot_iff decide_eq_true_iff) h (fun h => ?_) (fun h => ?_)
  · refine AW.seq ?_
    refine AW.reg ?_
    refine Lp (V_move rfl rfl) rfl rfl ?_
    refine Lp (V_move rfl rfl) rfl rfl ?_
    obtain ⟨p28_10, hc, h⟩ := h
    refine Lp (V_nil rfl (by rw [← hc]; rfl)) rfl rfl ?_
    refine Lp (V_fld rfl Tryz.underlying122 rfl ty3 (by decide) rfl) rfl rfl ?_
    refine Ls rfl rfl (X_st rfl ty3 rfl rfl rfl rfl (stN_mono h fun σ h => ?_))
    refine Lnil ?_
    refine thenN ?_
    refine AW.seq ?_
    refine AW.reg ?_
    refine Lp (V_asg rfl rfl) rfl rfl ?_
    refine Lnil ?_
    refine thenN ?_
    refine AW.ret ?_
    refine thenR ?_
    exact bR1 Tryz.results62 rfl ⟨_, rfl, h⟩
  refine AW.skip ?_
  refine thenN ?_
  refine AW.seq ?_
  refine AW.reg ?_
  refine Lp (V_move rfl rfl) rfl rfl ?_
  refine Lp (V_move rfl rfl) rfl rfl ?_
  obtain ⟨p32_11, hc, h⟩ := h
  refine Lp (V_nil rfl (by rw [← hc]; rfl)) rfl rfl ?_
  refine Lp (V_fld rfl Tryz.underlying122 rfl ty3 (by decide) rfl) rfl rfl ?_
  refine Ls rfl rfl (X_st rfl ty3 rfl rfl rfl rfl (stN_mono h fun σ h => ?_))
  refine Lnil ?_
  refine thenN ?_
  refine AW.seq ?_
  refine AW.reg ?_
  refine Lp (V_move rfl rfl) rfl rfl ?_
  refine Lp (V_asg rfl rfl) rfl rfl ?_
  refine Lnil ?_
  refine thenN ?_
  refine AW.ret ?_
  exact bR1 Tryz.results62 rfl ⟨_, rfl, h⟩

def f_ref01_Reader_Blob (B : World) (ro : AH) (a0 : Option Addr) (σ : AH) (Q : Sl → AH → Prop) : Prop :=
 ∃ p7_1 : Addr, a0 = some p7_1 ∧
 ∃ (x9_2 : Int), acell ro σ (p7_1.add 1) = some (.int .i64 x9_2) ∧
 c_ref01_Reader_Num B ro a0 σ fun x11_3 σ =>
 ∃ p13_4 : Addr, a0 = some p13_4 ∧
 ∃ (x15_5 : Int), acell ro σ (p13_4.add 2) = some (.int .i64 x15_5) ∧
 if ¬ (x15_5 = 0) then
  Q (⟨none, 0, 0⟩ : Sl) σ
 else
 c_ref01_Reader_Left B ro a0 σ fun x19_6 σ =>
 if x19_6 < x11_3 then
  ∃ p22_7 : Addr, a0 = some p22_7 ∧
  stN (p22_7.add 2) (fun σ =>
   ∃ p26_8 : Addr, a0 = some p26_8 ∧
   stN (p26_8.add 1) (fun σ =>
    Q (⟨none, 0, 0⟩ : Sl) σ) [.int .i64 x9_2] 0 σ) [.int .i64 12] 0 σ
 else
 ∃ p29_9 : Addr, a0 = some p29_9 ∧
 ∃ p33_10 : Addr, a0 = some p33_10 ∧
 ∃ p37_11 : Addr, a0 = some p37_11 ∧
 ∃ (x31_12 : Sl), acell ro σ p29_9 = some (Sl.v x31_12) ∧
 ∃ (x35_13 : Int), acell ro σ (p33_10.add 1) = some (.int .i64 x35_13) ∧
 ∃ (x39_14 : Int), acell ro σ (p37_11.add 1) = some (.int .i64 x39_14) ∧
 cutOk (some x35_13) (some (IntKind.i64.wrap (x39_14 + x11_3))) x31_12.len x31_12.cap ∧
 c_ref01_Copy B ro (⟨cutA x31_12.a (Int.toNat x35_13) x31_12.cap 1, Int.toNat (IntKind.i64.wrap (x39_14 + x11_3)) - Int.toNat x35_13, x31_12.cap - Int.toNat x35_13⟩ : Sl) σ fun x43_15 σ =>
 ∃ p45_16 : Addr, a0 = some p45_16 ∧
 ∃ (x47_17 : Int), acell ro σ (p45_16.add 1) = some (.int .i64 x47_17) ∧
 ∃ p50_18 : Addr, a0 = some p50_18 ∧
 stN (p50_18.add 1) (fun σ =>
  Q x43_15 σ) [.int .i64 (IntKind.i64.wrap (x47_17 + x11_3))] 0 σ

set_option maxRecDepth 100000 in
set_option maxHeartbeats 4000000 in
theorem ref01_Reader_Blob_ok {B : World} {ro : AH} {a0 : Option Addr} {σ : AH} {Q : Sl → AH → Prop} (h : Sep ro σ → f_ref01_Reader_Blob B ro a0 σ Q) : c_ref01_Reader_Blob B ro a0 σ Q := by
  refine ACalls.of_sep fun hsep => ?_
  replace h := h hsep
  refine ACalls.of_body (args := [.pointer a0]) Tryz.func63 rfl (by rw [Tryz.ntmps63]; simp) ?_
  rw [Tryz.ntmps63]
  unfold f_ref01_Reader_Blob at h
  refine AW.seq ?_
  refine AW.reg ?_
  refine Lp (V_asg rfl rfl) rfl rfl ?_
  refine Lnil ?_
  refine thenN ?_
  refine AW.seq ?_
  refine AW.reg ?_
  refine Lp (V_move rfl rfl) rfl rfl ?_
  obtain ⟨p7_1, hc, h⟩ := h
  refine Lp (V_nil rfl (by rw [← hc]; rfl)) rfl rfl ?_
  refine Lp (V_fld rfl Tryz.underlying122 rfl ty3 (by decide) rfl) rfl rfl ?_
  obtain ⟨x9_2, hc, h⟩ := h
  refine Ls rfl rfl (X_ld rfl Tryz.underlying3 rfl rfl hc ?_)
  refine Lp (V_asg rfl rfl) rfl rfl ?_
  refine Lnil ?_
  refine thenN ?_
  refine AW.seq ?_
  refine AW.reg ?_
  refine Lp (V_move rfl rfl) rfl rfl ?_
  refine Ls rfl rfl (X_call rfl Tryz.func62 rfl rfl rfl (ACalls.mono h ?_))
  rintro v σ ⟨x11_3, rfl, h⟩
  refine Lp (V_asg rfl rfl) rfl rfl ?_
  refine Lnil ?_
  refine thenN ?_
  refine AW.seq ?_
  refine AW.seq ?_
  refine AW.reg ?_
  refine Lp (V_move rfl rfl) rfl rfl ?_
  obtain ⟨p13_4, hc, h⟩ := h
  refine Lp (V_nil rfl (by rw [← hc]; rfl)) rfl rfl ?_
  refine Lp (V_fld rfl Tryz.underlying122 rfl ty3 (by decide) rfl) rfl rfl ?_
  obtain ⟨x15_5, hc, h⟩ := h
  refine Ls rfl rfl (X_ld rfl Tryz.underlying3 rfl rfl hc ?_)
  refine Lp (V_neq rfl rfl rfl) rfl rfl ?_
  refine Lnil ?_
  refine thenN ?_
  refine AW.iff rfl (bnot_iff decide_eq_true_iff) h (fun h => ?_) (fun h => ?_)
  · refine AW.seq ?_
    refine AW.reg ?_
    refine Lp (V_asg rfl rfl) rfl rfl ?_
    refine Lnil ?_
    refine thenN ?_
    refine AW.ret ?_
    refine thenR ?_
    exact bR1 Tryz.results63 rfl ⟨_, rfl, h⟩
  refine AW.skip ?_
  refine thenN ?_
  refine AW.seq ?_
  refine AW.seq ?_
  refine AW.reg ?_
  refine Lp (V_move rfl rfl) rfl rfl ?_
  refine Lp (V_move rfl rfl) rfl rfl ?_
  refine Ls rfl rfl (X_call rfl Tryz.func64 rfl rfl rfl (ACalls.mono h ?_))
  rintro v σ ⟨x19_6, rfl, h⟩
  refine Lp (V_gtr rfl rfl rfl) rfl rfl ?_
  refine Lnil ?_
  refine thenN ?_
  refine AW.iff rfl decide_eq_true_iff h (fun h => ?_) (fun h => ?_)
  · refine AW.seq ?_
    refine AW.reg ?_
    refine Lp (V_move rfl rfl) rfl rfl ?_
    obtain ⟨p22_7, hc, h⟩ := h
    refine Lp (V_nil rfl (by rw [← hc]; rfl)) rfl rfl ?_
    refine Lp (V_fld rfl Tryz.underlying122 rfl ty3 (by decide) rfl) rfl rfl ?_
    refine Ls rfl rfl (X_st rfl ty3 rfl rfl rfl rfl (stN_mono h fun σ h => ?_))
    refine Lnil ?_
    refine thenN ?_
    refine AW.seq ?_
    refine AW.reg ?_
    refine Lp (V_move rfl rfl) rfl rfl ?_
    refine Lp (V_move rfl rfl) rfl rfl ?_
    obtain ⟨p26_8, hc, h⟩ := h
    refine Lp (V_nil rfl (by rw [← hc]; rfl)) rfl rfl ?_
    refine Lp (V_fld rfl Tryz.underlying122 rfl ty3 (by decide) rfl) rfl rfl ?_
    refine Ls rfl rfl (X_st rfl ty3 rfl rfl rfl rfl (stN_mono h fun σ h => ?_))
    refine Lnil ?_
    refine thenN ?_
    refine AW.seq ?_
    refine AW.reg ?_
    refine Lp (V_asg rfl rfl) rfl rfl ?_
    refine Lnil ?_
    refine thenN ?_
    refine AW.ret ?_
    refine thenR ?_
    exact bR1 Tryz.results63 rfl ⟨_, rfl, h⟩
  refine AW.skip ?_
  refine thenN ?_
  refine AW.seq ?_
  refine AW.drawn0 (fun i => ([0, 0, 0, 3, 0, 0, 0, 3, 0, 0, 0, 3, 0, 0, 0, 2, 0] : List Nat).getD i 2) [(3, 14), (3, 15), (7, 14), (7, 15), (11, 13), (11, 14), (11, 15)] [0, 1, 2, 4, 5, 6, 8, 9, 10, 12, 3, 7, 11, 13, 14, 15, 16] Tryz.mixed (by decide +kernel) ?_
  refine Dp rfl rfl rfl rfl (V_move rfl rfl) ?_
  obtain ⟨p29_9, hc, h⟩ := h
  refine Dp rfl rfl rfl rfl (V_nil rfl (by rw [← hc]; rfl)) ?_
  refine Dp rfl rfl rfl rfl (V_fld rfl Tryz.underlying122 rfl ty22 (by decide) rfl) ?_
  refine Dp rfl rfl rfl rfl (V_move rfl rfl) ?_
  obtain ⟨p33_10, hc, h⟩ := h
  refine Dp rfl rfl rfl rfl (V_nil rfl (by rw [← hc]; rfl)) ?_
  refine Dp rfl rfl rfl rfl (V_fld rfl Tryz.underlying122 rfl ty3 (by decide) rfl) ?_
  refine Dp rfl rfl rfl rfl (V_move rfl rfl) ?_
  obtain ⟨p37_11, hc, h⟩ := h
  refine Dp rfl rfl rfl rfl (V_nil rfl (by rw [← hc]; rfl)) ?_
  refine Dp rfl rfl rfl rfl (V_fld rfl Tryz.underlying122 rfl ty3 (by decide) rfl) ?_
  refine Dp rfl rfl rfl rfl (V_move rfl rfl) ?_
  obtain ⟨x31_12, hc, h⟩ := h
  refine Dr rfl rfl rfl rfl (R_ld rfl Tryz.underlying22 rfl rfl hc) ?_
  obtain ⟨x35_13, hc, h⟩ := h
  refine Dr rfl rfl rfl rfl (R_ld rfl Tryz.underlying3 rfl rfl hc) ?_
  obtain ⟨x39_14, hc, h⟩ := h
  refine Dr rfl rfl rfl rfl (R_ld rfl Tryz.underlying3 rfl rfl hc) ?_
  refine Dp rfl rfl rfl rfl (V_add rfl rfl rfl) ?_
  obtain ⟨hc, h⟩ := h
  refine Dp rfl rfl rfl rfl (V_slL (lo := (some x35_13)) (hi := (some (IntKind.i64.wrap (x39_14 + x11_3)))) rfl Tryz.underlying22 ty5 rfl (optI_some rfl) (optI_some rfl) hc) ?_
  refine Dg rfl rfl rfl rfl (X_call rfl Tryz.func12 rfl rfl rfl (ACalls.mono h ?_))
  rintro v σ ⟨x43_15, rfl, h⟩
  refine Dp rfl rfl rfl rfl (V_asg rfl rfl) ?_
  refine Dend ?_
  refine thenN ?_
  refine AW.seq ?_
  refine AW.reg ?_
  refine Lp (V_move rfl rfl) rfl rfl ?_
  obtain ⟨p45_16, hc, h⟩ := h
  refine Lp (V_nil rfl (by rw [← hc]; rfl)) rfl rfl ?_
  refine Lp (V_fld rfl Tryz.underlying122 rfl ty3 (by decide) rfl) rfl rfl ?_
  obtain ⟨x47_17, hc, h⟩ := h
  refine Ls rfl rfl (X_ld rfl Tryz.underlying3 rfl rfl hc ?_)
  refine Lp (V_move rfl rfl) rfl rfl ?_
  refine Lp (V_add rfl rfl rfl) rfl rfl ?_
  obtain ⟨p50_18, hc, h⟩ := h
  refine Lp (V_nil rfl (by rw [← hc]; rfl)) rfl rfl ?_
  refine Lp (V_fld rfl Tryz.underlying122 rfl ty3 (by decide) rfl) rfl rfl ?_
  refine Ls rfl rfl (X_st rfl ty3 rfl rfl rfl rfl (stN_mono h fun σ h => ?_))
  refine Lnil ?_
  refine thenN ?_
  refine AW.seq ?_
  refine AW.reg ?_
  refine Lp (V_move rfl rfl) rfl rfl ?_
  refine Lp (V_asg rfl rfl) rfl rfl ?_
  refine Lnil ?_
  refine thenN ?_
  refine AW.ret ?_
  exact bR1 Tryz.results63 rfl ⟨_, rfl, h⟩

def f_ref01_Reader_Left (B : World) (ro : AH) (a0 : Option Addr) (σ : AH) (Q : Int → AH → Prop) : Prop :=
 ∃ p4_1 : Addr, a0 = some p4_1 ∧
 ∃ p9_2 : Addr, a0 = some p9_2 ∧
 ∃ (x6_3 : Sl), acell ro σ p4_1 = some (Sl.v x6_3) ∧
 ∃ (x11_4 : Int), acell ro σ (p9_2.add 1) = some (.int .i64 x11_4) ∧
 Q (IntKind.i64.wrap ((x6_3.len : Int) - x11_4)) σ

set_option maxRecDepth 100000 in
set_option maxHeartbeats 4000000 in
theorem ref01_Reader_Left_ok {B : World} {ro : AH} {a0 : Option Addr} {σ : AH} {Q : Int → AH → Prop} (h : Sep ro σ → f_ref01_Reader_Left B ro a0 σ Q) : c_ref01_Reader_Left B ro a0 σ Q := by
  refine ACalls.of_sep fun hsep => ?_
  replace h := h hsep
  refine ACalls.of_body (args := [.pointer a0]) Tryz.func64 rfl (by rw [Tryz.ntmps64]; simp) ?_
  rw [Tryz.ntmps64]
  unfold f_ref01_Reader_Left at h
  refine AW.seq ?_
  refine AW.reg ?_
  refine Lp (V_asg rfl rfl) rfl rfl ?_
  refine Lnil ?_
  refine thenN ?_
  refine AW.seq ?_
  refine AW.drawn0 (fun i => ([0, 0, 0, 3, 0, 0, 0, 0, 3, 0, 0] : List Nat).getD i 2) [] [0, 1, 2, 5, 6, 7, 3, 4, 8, 9, 10] Tryz.mixed (by decide +kernel) ?_
  refine Dp rfl rfl rfl rfl (V_move rfl rfl) ?_
  obtain ⟨p4_1, hc, h⟩ := h
  refine Dp rfl rfl rfl rfl (V_nil rfl (by rw [← hc]; rfl)) ?_
  refine Dp rfl rfl rfl rfl (V_fld rfl Tryz.underlying122 rfl ty22 (by decide) rfl) ?_
  refine Dp rfl rfl rfl rfl (V_move rfl rfl) ?_
  obtain ⟨p9_2, hc, h⟩ := h
  refine Dp rfl rfl rfl rfl (V_nil rfl (by rw [← hc]; rfl)) ?_
  refine Dp rfl rfl rfl rfl (V_fld rfl Tryz.underlying122 rfl ty3 (by decide) rfl) ?_
  obtain ⟨x6_3, hc, h⟩ := h
  refine Dr rfl rfl rfl rfl (R_ld rfl Tryz.underlying22 rfl rfl hc) ?_
  refine Dp rfl rfl rfl rfl (V_lenL rfl rfl Tryz.underlying22 rfl rfl) ?_
  obtain ⟨x11_4, hc, h⟩ := h
  refine Dr rfl rfl rfl rfl (R_ld rfl Tryz.underlying3 rfl rfl hc) ?_
  refine Dp rfl rfl rfl rfl (V_sub rfl rfl rfl) ?_
  refine Dp rfl rfl rfl rfl (V_asg rfl rfl) ?_
  refine Dend ?_
  refine thenN ?_
  refine AW.ret ?_
  exact bR1 Tryz.results64 rfl ⟨_, rfl, h⟩

def j7_ref01_Number (B : World) (ro : AH) (a1 : Int) (x7_2 : Int) (Q : Int → Int → Int → AH → Prop) (x9_8 : Int) (σ : AH) : Prop :=
 Q x9_8 (IntKind.i64.wrap ((IntKind.i64.wrap (a1 + x7_2)) + 1)) 0 σ

def l9_ref01_Number (B : World) (ro : AH) (a0 : Sl) (a1 : Int) (x7_2 : Int) (Q : Int → Int → Int → AH → Prop) : (Int × Int) → AH → ((Int × Int) → AH → Prop) → Prop := fun ⟨x9_10, x10_11⟩ σ Y9 =>
 if 0 ≤ x10_11 then
  ∃ p90_12 : Addr, a0.a = some p90_12 ∧ (0 : Int) ≤ (IntKind.i64.wrap (a1 + x10_11)) ∧ (IntKind.i64.wrap (a1 + x10_11)) < (a0.len : Int) ∧
  ∃ (x91_13 : Int), acell ro σ (p90_12.add (Int.toNat (IntKind.i64.wrap (a1 + x10_11)) * 1)) = some (.int .u8 x91_13) ∧
  Y9 (IntKind.i64.wrap ((IntKind.i64.wrap (x9_10 * 128)) + (Int.tmod (IntKind.i64.wrap x91_13) 128)), IntKind.i64.wrap (x10_11 - 1)) σ
 else
 j7_ref01_Number B ro a1 x7_2 Q x9_10 σ

def j5_ref01_Number (B : World) (ro : AH) (a0 : Sl) (a1 : Int) (x7_2 : Int) (Q : Int → Int → Int → AH → Prop) (x78_6 : Bool) (σ : AH) : Prop :=
 if x78_6 = true then
  Q 0 0 13 σ
 else
 lfpD (l9_ref01_Number B ro a0 a1 x7_2 Q ) (0, x7_2) σ

def j14_ref01_Number (B : World) (ro : AH) (a0 : Sl) (a1 : Int) (x7_2 : Int) (x66_4 : Bool) (Q : Int → Int → Int → AH → Prop) (x77_15 : Bool) (σ : AH) : Prop :=
 j5_ref01_Number B ro a0 a1 x7_2 Q x77_15 σ

def j3_ref01_Number (B : World) (ro : AH) (a0 : Sl) (a1 : Int) (x7_2 : Int) (Q : Int → Int → Int → AH → Prop) (x66_4 : Bool) (σ : AH) : Prop :=
 if x66_4 = true then
  j5_ref01_Number B ro a0 a1 x7_2 Q true σ
 else
 if x7_2 = 8 then
  ∃ p74_16 : Addr, a0.a = some p74_16 ∧ (0 : Int) ≤ (IntKind.i64.wrap (a1 + 8)) ∧ (IntKind.i64.wrap (a1 + 8)) < (a0.len : Int) ∧
  ∃ (x75_17 : Int), acell ro σ (p74_16.add (Int.toNat (IntKind.i64.wrap (a1 + 8)) * 1)) = some (.int .u8 x75_17) ∧
  j14_ref01_Number B ro a0 a1 x7_2 x66_4 Q (decide (63 < x75_17)) σ
 else
 j14_ref01_Number B ro a0 a1 x7_2 x66_4 Q false σ

def j18_ref01_Number (B : World) (ro : AH) (a0 : Sl) (a1 : Int) (x7_2 : Int) (Q : Int → Int → Int → AH → Prop) (x65_19 : Bool) (σ : AH) : Prop :=
 j3_ref01_Number B ro a0 a1 x7_2 Q x65_19 σ

def j1_ref01_Number (B : World) (ro : AH) (a0 : Sl) (a1 : Int) (Q : Int → Int → Int → AH → Prop) (x7_2 : Int) (σ : AH) : Prop :=
 if (x7_2 < 0) ∧ ((IntKind.i64.wrap ((a0.len : Int) - a1)) < 9) then
  Q 0 0 12 σ
 else
 if x7_2 < 0 then
  j3_ref01_Number B ro a0 a1 x7_2 Q true σ
 else
 if 0 < x7_2 then
  ∃ p62_20 : Addr, a0.a = some p62_20 ∧ (0 : Int) ≤ (IntKind.i64.wrap (a1 + x7_2)) ∧ (IntKind.i64.wrap (a1 + x7_2)) < (a0.len : Int) ∧
  ∃ (x63_21 : Int), acell ro σ (p62_20.add (Int.toNat (IntKind.i64.wrap (a1 + x7_2)) * 1)) = some (.int .u8 x63_21) ∧
  j18_ref01_Number B ro a0 a1 x7_2 Q (decide (x63_21 = 0)) σ
 else
 j18_ref01_Number B ro a0 a1 x7_2 Q false σ

def j25_ref01_Number (B : World) (ro : AH) (a0 : Sl) (a1 : Int) (x8_24 : Int) (Q : Int → Int → Int → AH → Prop) (Y22 : (Int × Int) → AH → Prop) (x7_26 : Int) (σ : AH) : Prop :=
 Y22 (x7_26, IntKind.i64.wrap (x8_24 + 1)) σ

def l22_ref01_Number (B : World) (ro : AH) (a0 : Sl) (a1 : Int) (Q : Int → Int → Int → AH → Prop) : (Int × Int) → AH → ((Int × Int) → AH → Prop) → Prop := fun ⟨x7_23, x8_24⟩ σ Y22 =>
 if ((x8_24 < 9) ∧ ((IntKind.i64.wrap (a1 + x8_24)) < (a0.len : Int))) ∧ (x7_23 < 0) then
  ∃ p39_27 : Addr, a0.a = some p39_27 ∧ (0 : Int) ≤ (IntKind.i64.wrap (a1 + x8_24)) ∧ (IntKind.i64.wrap (a1 + x8_24)) < (a0.len : Int) ∧
  ∃ (x40_28 : Int), acell ro σ (p39_27.add (Int.toNat (IntKind.i64.wrap (a1 + x8_24)) * 1)) = some (.int .u8 x40_28) ∧
  if x40_28 < 128 then
   j25_ref01_Number B ro a0 a1 x8_24 Q Y22 x8_24 σ
  else
  j25_ref01_Number B ro a0 a1 x8_24 Q Y22 x7_23 σ
 else
 j1_ref01_Number B ro a0 a1 Q x7_23 σ

def f_ref01_Number (B : World) (ro : AH) (a0 : Sl) (a1 : Int) (σ : AH) (Q : Int → Int → Int → AH → Prop) : Prop :=
 if (a1 < 0) ∨ ((a0.len : Int) < a1) then
  Q 0 0 11 σ
 else
 lfpD (l22_ref01_Number B ro a0 a1 Q ) ((-1), 0) σ

set_option maxRecDepth 100000 in
set_option maxHeartbeats 4000000 in
theorem ref01_Number_ok {B : World} {ro : AH} {a0 : Sl} {a1 : Int} {σ : AH} {Q : Int → Int → Int → AH → Prop} (h : Sep ro σ → f_ref01_Number B ro a0 a1 σ Q) : c_ref01_Number B ro a0 a1 σ Q := by
  refine ACalls.of_sep fun hsep => ?_
  replace h := h hsep
  refine ACalls.of_body (args := [Sl.v a0, .int .i64 a1]) Tryz.func95 rfl (by rw [Tryz.ntmps95]; simp) ?_
  rw [Tryz.ntmps95]
  unfold f_ref01_Number at h
  refine AW.seq ?_
  refine AW.reg ?_
  refine Lp (V_asg rfl rfl) rfl rfl ?_
  refine Lp (V_asg rfl rfl) rfl rfl ?_
  refine Lp (V_asg rfl rfl) rfl rfl ?_
  refine Lnil ?_
  refine thenN ?_
  refine AW.seq ?_
  refine AW.seq ?_
  refine AW.reg ?_
  refine Lp (V_move rfl rfl) rfl rfl ?_
  refine Lp (V_lss rfl rfl rfl) rfl rfl ?_
  refine Lp (V_move rfl rfl) rfl rfl ?_
  refine Lsplit 5 (decide (a1 < 0)) [(0, Sl.v a0), (1, .int .i64 a1), (18, .bool ((decide (a1 < 0)) || (decide ((a0.len : Int) < a1))))] ?_ ?_ ?_
  · intro e2 hk2
    refine Ln rfl rfl rfl rfl (.inl (by rw [e2]; rfl)) ?_
    refine Ln rfl rfl rfl rfl (.inl (by rw [e2]; rfl)) ?_
    refine Ln rfl rfl rfl rfl (.inl (by rw [e2]; rfl)) ?_
    refine Ln rfl rfl rfl rfl (.inl (by rw [e2]; rfl)) ?_
    refine Lp (V_pickT rfl (evb e2) rfl) rfl rfl ?_
    exact hk2 _ (FrLe.cons rfl (FrLe.cons rfl (FrLe.cons (by rw [e2]; rfl) (FrLe.nil _))))
  · intro e2 hk2
    refine Lypb (V_move rfl rfl) rfl rfl rfl rfl e2 ?_
    refine Lypb (V_move rfl rfl) rfl rfl rfl rfl e2 ?_
    refine Lypb (V_lenL rfl rfl Tryz.underlying22 rfl rfl) rfl rfl rfl rfl e2 ?_
    refine Lypb (V_gtr rfl rfl rfl) rfl rfl rfl rfl e2 ?_
    refine Lp (V_pickF rfl (evb e2) rfl) rfl rfl ?_
    exact hk2 _ (FrLe.cons rfl (FrLe.cons rfl (FrLe.cons (by rw [e2]; rfl) (FrLe.nil _))))
  intro fr hl
  refine Lfr hl ?_
  refine Lnil ?_
  refine thenN ?_
  refine AW.iff rfl (bor_iff decide_eq_true_iff decide_eq_true_iff) h (fun h => ?_) (fun h => ?_)
  · refine AW.seq ?_
    refine AW.reg ?_
    refine Lp (V_asg rfl rfl) rfl rfl ?_
    refine Lp (V_asg rfl rfl) rfl rfl ?_
    refine Lp (V_asg rfl rfl) rfl rfl ?_
    refine Lnil ?_
    refine thenN ?_
    refine AW.ret ?_
    refine thenR ?_
    exact bR3 Tryz.results95 rfl rfl rfl ⟨_, _, _, rfl, h⟩
  refine AW.skip ?_
  refine thenN ?_
  refine AW.seq ?_
  refine AW.reg ?_
  refine Lp (V_asg rfl rfl) rfl rfl ?_
  refine Lnil ?_
  refine thenN ?_
  refine AW.seqJ (fun fr σ => ∃ (x7_2 : Int), FrLe [(0, Sl.v a0), (1, .int .i64 a1), (7, .int .i64 x7_2)] fr ∧ j1_ref01_Number B ro a0 a1 Q x7_2 σ) ?_ ?_
  rotate_left
  · refine AW.seq ?_
    refine AW.reg ?_
    refine Lp (V_asg rfl rfl) rfl rfl ?_
    refine Lnil ?_
    refine thenN ?_
    refine AW.block ?_
    refine ARound.loop (fr' := [(0, Sl.v a0), (1, .int .i64 a1), (7, .int .i64 (-1)), (8, .int .i64 0)]) ?_ (FrLe.cons rfl (FrLe.cons rfl (FrLe.cons rfl (FrLe.cons rfl (FrLe.nil _)))))
    refine h (fun ⟨x7_23, x8_24⟩ σ => ARound _ _ _ _ _ _ [(0, Sl.v a0), (1, .int .i64 a1), (7, .int .i64 x7_23), (8, .int .i64 x8_24)] σ) ?_
    rintro ⟨x7_23, x8_24⟩ σ Y22 hY22 h
    show AW _ _ _ _ _ _ _ _
    unfold l22_ref01_Number at h
    dsimp only at h
    refine AW.seq ?_
    refine AW.seq ?_
    refine AW.reg ?_
    refine Lp (V_move rfl rfl) rfl rfl ?_
    refine Lp (V_lss rfl rfl rfl) rfl rfl ?_
    refine Lp (V_move rfl rfl) rfl rfl ?_
    refine Lsplit 7 (decide (x8_24 < 9)) [(0, Sl.v a0), (1, .int .i64 a1), (7, .int .i64 x7_23), (8, .int .i64 x8_24), (28, .bool ((decide (x8_24 < 9)) && (decide ((IntKind.i64.wrap (a1 + x8_24)) < (a0.len : Int)))))] ?_ ?_ ?_
    · intro e2 hk2
      refine Lypb (V_move rfl rfl) rfl rfl rfl rfl e2 ?_
      refine Lypb (V_move rfl rfl) rfl rfl rfl rfl e2 ?_
      refine Lypb (V_add rfl rfl rfl) rfl rfl rfl rfl e2 ?_
      refine Lypb (V_move rfl rfl) rfl rfl rfl rfl e2 ?_
      refine Lypb (V_lenL rfl rfl Tryz.underlying22 rfl rfl) rfl rfl rfl rfl e2 ?_
      refine Lypb (V_lss rfl rfl rfl) rfl rfl rfl rfl e2 ?_
      refine Lp (V_pickT rfl (evb e2) rfl) rfl rfl ?_
      exact hk2 _ (FrLe.cons rfl (FrLe.cons rfl (FrLe.cons rfl (FrLe.cons rfl (FrLe.cons (by rw [e2]; rfl) (FrLe.nil _))))))
    · intro e2 hk2
      refine Ln rfl rfl rfl rfl (.inl (by rw [e2]; rfl)) ?_
      refine Ln rfl rfl rfl rfl (.inl (by rw [e2]; rfl)) ?_
      refine Ln rfl rfl rfl rfl (.inl (by rw [e2]; rfl)) ?_
      refine Ln rfl rfl rfl rfl (.inl (by rw [e2]; rfl)) ?_
      refine Ln rfl rfl rfl rfl (.inl (by rw [e2]; rfl)) ?_
      refine Ln rfl rfl rfl rfl (.inl (by rw [e2]; rfl)) ?_
      refine Lp (V_pickF rfl (evb e2) rfl) rfl rfl ?_
      exact hk2 _ (FrLe.cons rfl (FrLe.cons rfl (FrLe.cons rfl (FrLe.cons rfl (FrLe.cons (by rw [e2]; rfl) (FrLe.nil _))))))
    intro fr hl
    refine Lfr hl ?_
    refine Lp (V_move rfl rfl) rfl rfl ?_
    refine Lsplit 3 ((decide (x8_24 < 9)) && (decide ((IntKind.i64.wrap (a1 + x8_24)) < (a0.len : Int)))) [(0, Sl.v a0), (1, .int .i64 a1), (7, .int .i64 x7_23), (8, .int .i64 x8_24), (32, .bool (((decide (x8_24 < 9)) && (decide ((IntKind.i64.wrap (a1 + x8_24)) < (a0.len : Int)))) && (decide (x7_23 < 0))))] ?_ ?_ ?_
    · intro e10 hk10
      refine Lypb (V_move rfl rfl) rfl rfl rfl rfl e10 ?_
      refine Lypb (V_lss rfl rfl rfl) rfl rfl rfl rfl e10 ?_
      refine Lp (V_pickT rfl (evb e10) rfl) rfl rfl ?_
      exact hk10 _ (FrLe.cons rfl (FrLe.cons rfl (FrLe.cons rfl (FrLe.cons rfl (FrLe.cons (by rw [e10]; rfl) (FrLe.nil _))))))
    · intro e10 hk10
      refine Ln rfl rfl rfl rfl (.inl (by rw [e10]; rfl)) ?_
      refine Ln rfl rfl rfl rfl (.inl (by rw [e10]; rfl)) ?_
      refine Lp (V_pickF rfl (evb e10) rfl) rfl rfl ?_
      exact hk10 _ (FrLe.cons rfl (FrLe.cons rfl (FrLe.cons rfl (FrLe.cons rfl (FrLe.cons (by rw [e10]; rfl) (FrLe.nil _))))))
    intro fr hl
    refine Lfr hl ?_
    refine Lnil ?_
    refine thenN ?_
    refine AW.iff rfl (band_iff (band_iff decide_eq_true_iff decide_eq_true_iff) decide_eq_true_iff) h (fun h => ?_) (fun h => ?_)
    rotate_left
    · refine AW.exit ?_
      refine thenE ?_
      refine thenE ?_
      refine blockE ?_
      refine thenN ?_
      exact ⟨_, (FrLe.cons rfl (FrLe.cons rfl (FrLe.cons rfl (FrLe.nil _)))), h⟩
    refine AW.skip ?_
    refine thenN ?_
    refine AW.seqJ (fun fr σ => ∃ (x7_26 : Int), FrLe [(0, Sl.v a0), (1, .int .i64 a1), (8, .int .i64 x8_24), (7, .int .i64 x7_26)] fr ∧ j25_ref01_Number B ro a0 a1 x8_24 Q Y22 x7_26 σ) ?_ ?_
    · rintro fr σ ⟨x7_26, hl, h⟩
      refine AW.weaken ?_ hl (HLe.refl _)
      unfold j25_ref01_Number at h
      refine AW.reg ?_
      refine Lp (V_move rfl rfl) rfl rfl ?_
      refine Lp (V_add rfl rfl rfl) rfl rfl ?_
      refine Lp (V_asg rfl rfl) rfl rfl ?_
      refine Lnil ?_
      refine thenN ?_
      refine ARound.head (fr' := [(0, Sl.v a0), (1, .int .i64 a1), (7, .int .i64 x7_26), (8, .int .i64 (IntKind.i64.wrap (x8_24 + 1)))]) ?_ (FrLe.cons rfl (FrLe.cons rfl (FrLe.cons rfl (FrLe.cons rfl (FrLe.nil _)))))
      exact hY22 _ _ h
    refine AW.block ?_
    refine AW.seq ?_
    refine AW.reg ?_
    refine Lp (V_move rfl rfl) rfl rfl ?_
    refine Lp (V_move rfl rfl) rfl rfl ?_
    refine Lp (V_move rfl rfl) rfl rfl ?_
    refine Lp (V_add rfl rfl rfl) rfl rfl ?_
    obtain ⟨p39_27, ha, h0, h1, h⟩ := h
    refine Lp (V_ixA rfl Tryz.underlying22 ty5 (ixL rfl ha) rfl h0 h1) rfl rfl ?_
    obtain ⟨x40_28, hc, h⟩ := h
    refine Ls rfl rfl (X_ld rfl Tryz.underlying5 rfl rfl hc ?_)
    refine Lp (V_lss rfl rfl rfl) rfl rfl ?_
    refine Lnil ?_
    refine thenN ?_
    refine AW.iff rfl decide_eq_true_iff h (fun h => ?_) (fun h => ?_)
    rotate_left
    · refine AW.skip ?_
      refine blockN ?_
      refine thenN ?_
      exact ⟨_, (FrLe.cons rfl (FrLe.cons rfl (FrLe.cons rfl (FrLe.cons rfl (FrLe.nil _))))), h⟩
    refine AW.reg ?_
    refine Lp (V_move rfl rfl) rfl rfl ?_
    refine Lp (V_asg rfl rfl) rfl rfl ?_
    refine Lnil ?_
    refine blockN ?_
    refine thenN ?_
    exact ⟨_, (FrLe.cons rfl (FrLe.cons rfl (FrLe.cons rfl (FrLe.cons rfl (FrLe.nil _))))), h⟩
  rintro fr σ ⟨x7_2, hl, h⟩
  refine AW.weaken ?_ hl (HLe.refl _)
  unfold j1_ref01_Number at h
  refine AW.seq ?_
  refine AW.seq ?_
  refine AW.reg ?_
  refine Lp (V_move rfl rfl) rfl rfl ?_
  refine Lp (V_lss rfl rfl rfl) rfl rfl ?_
  refine Lp (V_move rfl rfl) rfl rfl ?_
  refine Lsplit 6 (decide (x7_2 < 0)) [(0, Sl.v a0), (1, .int .i64 a1), (7, .int .i64 x7_2), (51, .bool ((decide (x7_2 < 0)) && (decide ((IntKind.i64.wrap ((a0.len : Int) - a1)) < 9))))] ?_ ?_ ?_
  · intro e2 hk2
    refine Lypb (V_move rfl rfl) rfl rfl rfl rfl e2 ?_
    refine Lypb (V_lenL rfl rfl Tryz.underlying22 rfl rfl) rfl rfl rfl rfl e2 ?_
    refine Lypb (V_move rfl rfl) rfl rfl rfl rfl e2 ?_
    refine Lypb (V_sub rfl rfl rfl) rfl rfl rfl rfl e2 ?_
    refine Lypb (V_lss rfl rfl rfl) rfl rfl rfl rfl e2 ?_
    refine Lp (V_pickT rfl (evb e2) rfl) rfl rfl ?_
    exact hk2 _ (FrLe.cons rfl (FrLe.cons rfl (FrLe.cons rfl (FrLe.cons (by rw [e2]; rfl) (FrLe.nil _)))))
  · intro e2 hk2
    refine Ln rfl rfl rfl rfl (.inl (by rw [e2]; rfl)) ?_
    refine Ln rfl rfl rfl rfl (.inl (by rw [e2]; rfl)) ?_
    refine Ln rfl rfl rfl rfl (.inl (by rw [e2]; rfl)) ?_
    refine Ln rfl rfl rfl rfl (.inl (by rw [e2]; rfl)) ?_
    refine Ln rfl rfl rfl rfl (.inl (by rw [e2]; rfl)) ?_
    refine Lp (V_pickF rfl (evb e2) rfl) rfl rfl ?_
    exact hk2 _ (FrLe.cons rfl (FrLe.cons rfl (FrLe.cons rfl (FrLe.cons (by rw [e2]; rfl) (FrLe.nil _)))))
  intro fr hl
  refine Lfr hl ?_
  refine Lnil ?_
  refine thenN ?_
  refine AW.iff rfl (band_iff decide_eq_true_iff decide_eq_true_iff) h (fun h => ?_) (fun h => ?_)
  · refine AW.seq ?_
    refine AW.reg ?_
    refine Lp (V_asg rfl rfl) rfl rfl ?_
    refine Lp (V_asg rfl rfl) rfl rfl ?_
    refine Lp (V_asg rfl rfl) rfl rfl ?_
    refine Lnil ?_
    refine thenN ?_
    refine AW.ret ?_
    refine thenR ?_
    exact bR3 Tryz.results95 rfl rfl rfl ⟨_, _, _, rfl, h⟩
  refine AW.skip ?_
  refine thenN ?_
  refine AW.seq ?_
  refine AW.seq ?_
  refine AW.reg ?_
  refine Lp (V_move rfl rfl) rfl rfl ?_
  refine Lp (V_lss rfl rfl rfl) rfl rfl ?_
  refine Lp (V_move rfl rfl) rfl rfl ?_
  refine LsplitJ 12 (decide (x7_2 < 0)) decide_eq_true_iff h (fun fr σ => ∃ (x66_4 : Bool), FrLe [(0, Sl.v a0), (1, .int .i64 a1), (7, .int .i64 x7_2), (66, .bool x66_4)] fr ∧ j3_ref01_Number B ro a0 a1 x7_2 Q x66_4 σ) ?_ ?_ ?_
  · intro h e2 hk2
    refine Ln rfl rfl rfl rfl (.inl (by rw [e2]; rfl)) ?_
    refine Ln rfl rfl rfl rfl (.inl (by rw [e2]; rfl)) ?_
    refine Ln rfl rfl rfl rfl (.inl (by rw [e2]; rfl)) ?_
    refine Ln rfl rfl rfl rfl (.inr rfl) ?_
    refine Ln rfl rfl rfl rfl (.inr rfl) ?_
    refine Ln rfl rfl rfl rfl (.inr rfl) ?_
    refine Ln rfl rfl rfl rfl (.inr rfl) ?_
    refine Ln rfl rfl rfl rfl (.inr rfl) ?_
    refine Ln rfl rfl rfl rfl (.inr rfl) ?_
    refine Ln rfl rfl rfl rfl (.inr rfl) ?_
    refine Ln rfl rfl rfl rfl (.inl (by rw [e2]; rfl)) ?_
    refine Lp (V_pickT rfl (evb e2) rfl) rfl rfl ?_
    exact hk2 _ _ ⟨_, (FrLe.cons rfl (FrLe.cons rfl (FrLe.cons rfl (FrLe.cons rfl (FrLe.nil _))))), h⟩
  · intro h e2 hk2
    refine Lypb (V_move rfl rfl) rfl rfl rfl rfl e2 ?_
    refine Lypb (V_gtr rfl rfl rfl) rfl rfl rfl rfl e2 ?_
    refine Lypb (V_move rfl rfl) rfl rfl rfl rfl e2 ?_
    refine LsplitJ 8 (decide (0 < x7_2)) decide_eq_true_iff h (fun fr σ => ∃ (x65_19 : Bool), FrLe [(0, Sl.v a0), (1, .int .i64 a1), (7, .int .i64 x7_2), (54, .bool (decide (x7_2 < 0))), (65, .bool x65_19)] fr ∧ j18_ref01_Number B ro a0 a1 x7_2 Q x65_19 σ) ?_ ?_ ?_
    · intro h e5 hk5
      refine Lypb (V_move rfl rfl) rfl rfl rfl rfl e5 ?_
      refine Lypb (V_move rfl rfl) rfl rfl rfl rfl e5 ?_
      refine Lypb (V_move rfl rfl) rfl rfl rfl rfl e5 ?_
      refine Lypb (V_add rfl rfl rfl) rfl rfl rfl rfl e5 ?_
      obtain ⟨p62_20, ha, h0, h1, h⟩ := h
      refine Lypb (V_ixA rfl Tryz.underlying22 ty5 (ixL rfl ha) rfl h0 h1) rfl rfl rfl rfl e5 ?_
      obtain ⟨x63_21, hc, h⟩ := h
      refine Lyb rfl rfl rfl rfl e5 (X_ld rfl Tryz.underlying5 rfl rfl hc ?_)
      refine Lypb (V_eql rfl rfl rfl) rfl rfl rfl rfl e5 ?_
      refine Lypb (V_pickT rfl (evb e5) rfl) rfl rfl rfl rfl e2 ?_
      exact hk5 _ _ ⟨_, (FrLe.cons rfl (FrLe.cons rfl (FrLe.cons rfl (FrLe.cons rfl (FrLe.cons rfl (FrLe.nil _)))))), h⟩
    · intro h e5 hk5
      refine Ln rfl rfl rfl rfl (.inl (by rw [e5]; rfl)) ?_
      refine Ln rfl rfl rfl rfl (.inl (by rw [e5]; rfl)) ?_
      refine Ln rfl rfl rfl rfl (.inl (by rw [e5]; rfl)) ?_
      refine Ln rfl rfl rfl rfl (.inl (by rw [e5]; rfl)) ?_
      refine Ln rfl rfl rfl rfl (.inl (by rw [e5]; rfl)) ?_
      refine Ln rfl rfl rfl rfl (.inl (by rw [e5]; rfl)) ?_
      refine Ln rfl rfl rfl rfl (.inl (by rw [e5]; rfl)) ?_
      refine Lypb (V_pickF rfl (evb e5) rfl) rfl rfl rfl rfl e2 ?_
      exact hk5 _ _ ⟨_, (FrLe.cons rfl (FrLe.cons rfl (FrLe.cons rfl (FrLe.cons rfl (FrLe.cons rfl (FrLe.nil _)))))), h⟩
    rintro fr σ ⟨x65_19, hl, h⟩
    unfold j18_ref01_Number at h
    refine Lfr hl ?_
    refine Lp (V_pickF rfl (evb e2) rfl) rfl rfl ?_
    exact hk2 _ _ ⟨_, (FrLe.cons rfl (FrLe.cons rfl (FrLe.cons rfl (FrLe.cons rfl (FrLe.nil _))))), h⟩
  rintro fr σ ⟨x66_4, hl, h⟩
  unfold j3_ref01_Number at h
  refine Lfr hl ?_
  refine Lp (V_move rfl rfl) rfl rfl ?_
  refine LsplitJ 11 x66_4 Iff.rfl h (fun fr σ => ∃ (x78_6 : Bool), FrLe [(0, Sl.v a0), (1, .int .i64 a1), (7, .int .i64 x7_2), (78, .bool x78_6)] fr ∧ j5_ref01_Number B ro a0 a1 x7_2 Q x78_6 σ) ?_ ?_ ?_
  · intro h e15 hk15
    refine Ln rfl rfl rfl rfl (.inl (by rw [e15]; rfl)) ?_
    refine Ln rfl rfl rfl rfl (.inl (by rw [e15]; rfl)) ?_
    refine Ln rfl rfl rfl rfl (.inl (by rw [e15]; rfl)) ?_
    refine Ln rfl rfl rfl rfl (.inr rfl) ?_
    refine Ln rfl rfl rfl rfl (.inr rfl) ?_
    refine Ln rfl rfl rfl rfl (.inr rfl) ?_
    refine Ln rfl rfl rfl rfl (.inr rfl) ?_
    refine Ln rfl rfl rfl rfl (.inr rfl) ?_
    refine Ln rfl rfl rfl rfl (.inr rfl) ?_
    refine Ln rfl rfl rfl rfl (.inl (by rw [e15]; rfl)) ?_
    refine Lp (V_pickT rfl (evb e15) rfl) rfl rfl ?_
    exact hk15 _ _ ⟨_, (FrLe.cons rfl (FrLe.cons rfl (FrLe.cons rfl (FrLe.cons rfl (FrLe.nil _))))), h⟩
  · intro h e15 hk15
    refine Lypb (V_move rfl rfl) rfl rfl rfl rfl e15 ?_
    refine Lypb (V_eql rfl rfl rfl) rfl rfl rfl rfl e15 ?_
    refine Lypb (V_move rfl rfl) rfl rfl rfl rfl e15 ?_
    refine LsplitJ 7 (decide (x7_2 = 8)) decide_eq_true_iff h (fun fr σ => ∃ (x77_15 : Bool), FrLe [(0, Sl.v a0), (1, .int .i64 a1), (7, .int .i64 x7_2), (67, .bool x66_4), (77, .bool x77_15)] fr ∧ j14_ref01_Number B ro a0 a1 x7_2 x66_4 Q x77_15 σ) ?_ ?_ ?_
    · intro h e18 hk18
      refine Lypb (V_move rfl rfl) rfl rfl rfl rfl e18 ?_
      refine Lypb (V_move rfl rfl) rfl rfl rfl rfl e18 ?_
      refine Lypb (V_add rfl rfl rfl) rfl rfl rfl rfl e18 ?_
      obtain ⟨p74_16, ha, h0, h1, h⟩ := h
      refine Lypb (V_ixA rfl Tryz.underlying22 ty5 (ixL rfl ha) rfl h0 h1) rfl rfl rfl rfl e18 ?_
      obtain ⟨x75_17, hc, h⟩ := h
      refine Lyb rfl rfl rfl rfl e18 (X_ld rfl Tryz.underlying5 rfl rfl hc ?_)
      refine Lypb (V_gtr rfl rfl rfl) rfl rfl rfl rfl e18 ?_
      refine Lypb (V_pickT rfl (evb e18) rfl) rfl rfl rfl rfl e15 ?_
      exact hk18 _ _ ⟨_, (FrLe.cons rfl (FrLe.cons rfl (FrLe.cons rfl (FrLe.cons rfl (FrLe.cons rfl (FrLe.nil _)))))), h⟩
    · intro h e18 hk18
      refine Ln rfl rfl rfl rfl (.inl (by rw [e18]; rfl)) ?_
      refine Ln rfl rfl rfl rfl (.inl (by rw [e18]; rfl)) ?_
      refine Ln rfl rfl rfl rfl (.inl (by rw [e18]; rfl)) ?_
      refine Ln rfl rfl rfl rfl (.inl (by rw [e18]; rfl)) ?_
      refine Ln rfl rfl rfl rfl (.inl (by rw [e18]; rfl)) ?_
      refine Ln rfl rfl rfl rfl (.inl (by rw [e18]; rfl)) ?_
      refine Lypb (V_pickF rfl (evb e18) rfl) rfl rfl rfl rfl e15 ?_
      exact hk18 _ _ ⟨_, (FrLe.cons rfl (FrLe.cons rfl (FrLe.cons rfl (FrLe.cons rfl (FrLe.cons rfl (FrLe.nil _)))))), h⟩
    rintro fr σ ⟨x77_15, hl, h⟩
    unfold j14_ref01_Number at h
    refine Lfr hl ?_
    refine Lp (V_pickF rfl (evb e15) rfl) rfl rfl ?_
    exact hk15 _ _ ⟨_, (FrLe.cons rfl (FrLe.cons rfl (FrLe.cons rfl (FrLe.cons rfl (FrLe.nil _))))), h⟩
  rintro fr σ ⟨x78_6, hl, h⟩
  unfold j5_ref01_Number at h
  refine Lfr hl ?_
  refine Lnil ?_
  refine thenN ?_
  refine AW.iff rfl Iff.rfl h (fun h => ?_) (fun h => ?_)
  · refine AW.seq ?_
    refine AW.reg ?_
    refine Lp (V_asg rfl rfl) rfl rfl ?_
    refine Lp (V_asg rfl rfl) rfl rfl ?_
    refine Lp (V_asg rfl rfl) rfl rfl ?_
    refine Lnil ?_
    refine thenN ?_
    refine AW.ret ?_
    refine thenR ?_
    exact bR3 Tryz.results95 rfl rfl rfl ⟨_, _, _, rfl, h⟩
  refine AW.skip ?_
  refine thenN ?_
  refine AW.seq ?_
  refine AW.reg ?_
  refine Lp (V_asg rfl rfl) rfl rfl ?_
  refine Lnil ?_
  refine thenN ?_
  refine AW.seqJ (fun fr σ => ∃ (x9_8 : Int), FrLe [(1, .int .i64 a1), (7, .int .i64 x7_2), (9, .int .i64 x9_8)] fr ∧ j7_ref01_Number B ro a1 x7_2 Q x9_8 σ) ?_ ?_
  · rintro fr σ ⟨x9_8, hl, h⟩
    refine AW.weaken ?_ hl (HLe.refl _)
    unfold j7_ref01_Number at h
    refine AW.seq ?_
    refine AW.reg ?_
    refine Lp (V_move rfl rfl) rfl rfl ?_
    refine Lp (V_move rfl rfl) rfl rfl ?_
    refine Lp (V_move rfl rfl) rfl rfl ?_
    refine Lp (V_add rfl rfl rfl) rfl rfl ?_
    refine Lp (V_add rfl rfl rfl) rfl rfl ?_
    refine Lp (V_asg rfl rfl) rfl rfl ?_
    refine Lp (V_asg rfl rfl) rfl rfl ?_
    refine Lp (V_asg rfl rfl) rfl rfl ?_
    refine Lnil ?_
    refine thenN ?_
    refine AW.ret ?_
    exact bR3 Tryz.results95 rfl rfl rfl ⟨_, _, _, rfl, h⟩
  refine AW.seq ?_
  refine AW.reg ?_
  refine Lp (V_move rfl rfl) rfl rfl ?_
  refine Lp (V_asg rfl rfl) rfl rfl ?_
  refine Lnil ?_
  refine thenN ?_
  refine AW.block ?_
  refine ARound.loop (fr' := [(0, Sl.v a0), (1, .int .i64 a1), (7, .int .i64 x7_2), (9, .int .i64 0), (10, .int .i64 x7_2)]) ?_ (FrLe.cons rfl (FrLe.cons rfl (FrLe.cons rfl (FrLe.cons rfl (FrLe.cons rfl (FrLe.nil _))))))
  refine h (fun ⟨x9_10, x10_11⟩ σ => ARound _ _ _ _ _ _ [(0, Sl.v a0), (1, .int .i64 a1), (7, .int .i64 x7_2), (9, .int .i64 x9_10), (10, .int .i64 x10_11)] σ) ?_
  rintro ⟨x9_10, x10_11⟩ σ Y9 hY9 h
  show AW _ _ _ _ _ _ _ _
  unfold l9_ref01_Number at h
  dsimp only at h
  refine AW.seq ?_
  refine AW.seq ?_
  refine AW.reg ?_
  refine Lp (V_move rfl rfl) rfl rfl ?_
  refine Lp (V_geq rfl rfl rfl) rfl rfl ?_
  refine Lnil ?_
  refine thenN ?_
  refine AW.iff rfl decide_eq_true_iff h (fun h => ?_) (fun h => ?_)
  rotate_left
  · refine AW.exit ?_
    refine thenE ?_
    refine thenE ?_
    refine blockE ?_
    refine thenN ?_
    exact ⟨_, (FrLe.cons rfl (FrLe.cons rfl (FrLe.cons rfl (FrLe.nil _)))), h⟩
  refine AW.skip ?_
  refine thenN ?_
  refine AW.seq ?_
  refine AW.block ?_
  refine AW.reg ?_
  refine Lp (V_move rfl rfl) rfl rfl ?_
  refine Lp (V_mul rfl rfl rfl) rfl rfl ?_
  refine Lp (V_move rfl rfl) rfl rfl ?_
  refine Lp (V_move rfl rfl) rfl rfl ?_
  refine Lp (V_move rfl rfl) rfl rfl ?_
  refine Lp (V_add rfl rfl rfl) rfl rfl ?_
  obtain ⟨p90_12, ha, h0, h1, h⟩ := h
  refine Lp (V_ixA rfl Tryz.underlying22 ty5 (ixL rfl ha) rfl h0 h1) rfl rfl ?_
  obtain ⟨x91_13, hc, h⟩ := h
  refine Ls rfl rfl (X_ld rfl Tryz.underlying5 rfl rfl hc ?_)
  refine Lp (V_cvt rfl rfl Tryz.underlying5 Tryz.underlying3) rfl rfl ?_
  refine Lp (V_rem rfl rfl rfl (by decide)) rfl rfl ?_
  refine Lp (V_add rfl rfl rfl) rfl rfl ?_
  refine Lp (V_asg rfl rfl) rfl rfl ?_
  refine Lnil ?_
  refine blockN ?_
  refine thenN ?_
  refine AW.reg ?_
  refine Lp (V_move rfl rfl) rfl rfl ?_
  refine Lp (V_sub rfl rfl rfl) rfl rfl ?_
  refine Lp (V_asg rfl rfl) rfl rfl ?_
  refine Lnil ?_
  refine thenN ?_
  refine ARound.head (fr' := [(0, Sl.v a0), (1, .int .i64 a1), (7, .int .i64 x7_2), (9, .int .i64 (IntKind.i64.wrap ((IntKind.i64.wrap (x9_10 * 128)) + (Int.tmod (IntKind.i64.wrap x91_13) 128)))), (10, .int .i64 (IntKind.i64.wrap (x10_11 - 1)))]) ?_ (FrLe.cons rfl (FrLe.cons rfl (FrLe.cons rfl (FrLe.cons rfl (FrLe.cons rfl (FrLe.nil _))))))
  exact hY9 _ _ h

end Go.Proofs.YtfobjidchipdaaaGreatDoor.G
