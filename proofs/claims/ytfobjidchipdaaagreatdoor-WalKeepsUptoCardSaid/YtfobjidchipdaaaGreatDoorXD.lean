/- GC, GLib, GR1, LbA, RwA, StS, LdR, HdA, LcA, CpA, WiA, WsA -/
import Derived.Lib.LaidTab
import Derived.Lib.ItoaNum
import Derived.HandedShaped
import Derived.LaidMore
import Derived.Lay
import Derived.Stop.Joined
import Derived.Test.YtfobjidchipdaaaGreatDoorRows
import Derived.Test.YtfobjidchipdaaaGreatDoorXC
/- What it means to call each function: printed by wip/tools/gen.py. -/
namespace Go.Proofs.YtfobjidchipdaaaGreatDoor.G
open Go Go.Proofs.YtfobjidchipdaaaGreatDoor.SL
set_option linter.unusedVariables false
set_option linter.unusedSimpArgs false

/-- althing/althinglaw04.WalKeeps -/
def c_law04_WalKeeps (B : World) (ro : AH) (a0_0 : Int) (a0_1 : Sl) (a0_2 : Sl) (a0_3 : Sl) (σ : AH) (Q : Bool → AH → Prop) : Prop :=
  ACalls Tryz.prog B ro 7 #[.agg #[.int .i64 a0_0, Sl.v a0_1, Sl.v a0_2, Sl.v a0_3]] σ fun v σ => ∃ (r0 : Bool), v = .bool r0 ∧ Q r0 σ
/-- althing/disk.New -/
def c_disk_New (B : World) (ro : AH) (a0 : Int) (σ : AH) (Q : Option Addr → Int → AH → Prop) : Prop :=
  ACalls Tryz.prog B ro 9 #[.int .i64 a0] σ fun v σ => ∃ (r0 : Option Addr) (r1 : Int), v = .tuple #[.pointer r0, .int .i64 r1] ∧ Q r0 r1 σ
/-- althing/althinglaw05.awake -/
def c_law05_awake (B : World) (ro : AH) (σ : AH) (Q : Bool → AH → Prop) : Prop :=
  ACalls Tryz.prog B ro 10 #[] σ fun v σ => ∃ (r0 : Bool), v = .bool r0 ∧ Q r0 σ
/-- althing/snap.Save -/
def c_snap_Save (B : World) (ro : AH) (a0 : Option Addr) (a1 : ByteArray) (a2 : Int) (a3 : Sl) (σ : AH) (Q : Int → AH → Prop) : Prop :=
  ACalls Tryz.prog B ro 11 #[.pointer a0, .string a1, .int .i64 a2, Sl.v a3] σ fun v σ => ∃ (r0 : Int), v = .int .i64 r0 ∧ Q r0 σ
/-- althing/althingref01.Copy -/
def c_ref01_Copy (B : World) (ro : AH) (a0 : Sl) (σ : AH) (Q : Sl → AH → Prop) : Prop :=
  ACalls Tryz.prog B ro 12 #[Sl.v a0] σ fun v σ => ∃ (r0 : Sl), v = Sl.v r0 ∧ Q r0 σ
/-- althing/snap.Load -/
def c_snap_Load (B : World) (ro : AH) (a0 : Option Addr) (a1 : ByteArray) (σ : AH) (Q : Int → Sl → Bool → Int → AH → Prop) : Prop :=
  ACalls Tryz.prog B ro 13 #[.pointer a0, .string a1] σ fun v σ => ∃ (r0 : Int) (r1 : Sl) (r2 : Bool) (r3 : Int), v = .tuple #[.int .i64 r0, Sl.v r1, .bool r2, .int .i64 r3] ∧ Q r0 r1 r2 r3 σ
theorem c_snap_Load_mono {B : World} {ro : AH} {a0 : Option Addr} {a1 : ByteArray} {σ : AH} {Q Q' : Int → Sl → Bool → Int → AH → Prop} (h : c_snap_Load B ro a0 a1 σ Q) (hq : ∀ r0 r1 r2 r3 σ, Sep ro σ → Q r0 r1 r2 r3 σ → Q' r0 r1 r2 r3 σ) : c_snap_Load B ro a0 a1 σ Q' :=
  ACalls.monoS h fun v σ hs ⟨r0, r1, r2, r3, hv, q⟩ => ⟨r0, r1, r2, r3, hv, hq _ _ _ _ σ hs q⟩
/-- (althing/disk.table).Used -/
def c_disk_table_Used (B : World) (ro : AH) (a0 : Option Nat) (σ : AH) (Q : Int → AH → Prop) : Prop :=
  ACalls Tryz.prog B ro 14 #[.map a0] σ fun v σ => ∃ (r0 : Int), v = .int .i64 r0 ∧ Q r0 σ
/-- (*althing/disk.Disk).Crash -/
def c_disk_Disk_Crash (B : World) (ro : AH) (a0 : Option Addr) (a1 : Sl) (σ : AH) (Q : AH → Prop) : Prop :=
  ACalls Tryz.prog B ro 15 #[.pointer a0, Sl.v a1] σ fun v σ => v = .tuple #[] ∧ Q σ
/-- althing/althingref01.CopyInts -/
def c_ref01_CopyInts (B : World) (ro : AH) (a0 : Sl) (σ : AH) (Q : Sl → AH → Prop) : Prop :=
  ACalls Tryz.prog B ro 16 #[Sl.v a0] σ fun v σ => ∃ (r0 : Sl), v = Sl.v r0 ∧ Q r0 σ
/-- althing/althingref01.Same -/
def c_ref01_Same (B : World) (ro : AH) (a0 : Sl) (a1 : Sl) (σ : AH) (Q : Bool → AH → Prop) : Prop :=
  ACalls Tryz.prog B ro 17 #[Sl.v a0, Sl.v a1] σ fun v σ => ∃ (r0 : Bool), v = .bool r0 ∧ Q r0 σ
/-- althing/althinglaw04.awake -/
def c_law04_awake (B : World) (ro : AH) (σ : AH) (Q : Bool → AH → Prop) : Prop :=
  ACalls Tryz.prog B ro 28 #[] σ fun v σ => ∃ (r0 : Bool), v = .bool r0 ∧ Q r0 σ
theorem c_law04_awake_mono {B : World} {ro : AH} {σ : AH} {Q Q' : Bool → AH → Prop} (h : c_law04_awake B ro σ Q) (hq : ∀ r0 σ, Sep ro σ → Q r0 σ → Q' r0 σ) : c_law04_awake B ro σ Q' :=
  ACalls.monoS h fun v σ hs ⟨r0, hv, q⟩ => ⟨r0, hv, hq _ σ hs q⟩
/-- althing/wal.Open -/
def c_wal_Open (B : World) (ro : AH) (a0 : Option Addr) (a1 : ByteArray) (a2 : Int) (σ : AH) (Q : Option Addr → Int → AH → Prop) : Prop :=
  ACalls Tryz.prog B ro 29 #[.pointer a0, .string a1, .int .i64 a2] σ fun v σ => ∃ (r0 : Option Addr) (r1 : Int), v = .tuple #[.pointer r0, .int .i64 r1] ∧ Q r0 r1 σ
/-- (*althing/wal.Log).Append -/
def c_wal_Log_Append (B : World) (ro : AH) (a0 : Option Addr) (a1 : Sl) (σ : AH) (Q : Int → AH → Prop) : Prop :=
  ACalls Tryz.prog B ro 30 #[.pointer a0, Sl.v a1] σ fun v σ => ∃ (r0 : Int), v = .int .i64 r0 ∧ Q r0 σ
/-- althing/althinglaw04.copied -/
def c_law04_copied (B : World) (ro : AH) (a0 : Sl) (σ : AH) (Q : Sl → AH → Prop) : Prop :=
  ACalls Tryz.prog B ro 31 #[Sl.v a0] σ fun v σ => ∃ (r0 : Sl), v = Sl.v r0 ∧ Q r0 σ
/-- (*althing/wal.Log).Next -/
def c_wal_Log_Next (B : World) (ro : AH) (a0 : Option Addr) (σ : AH) (Q : Int → AH → Prop) : Prop :=
  ACalls Tryz.prog B ro 32 #[.pointer a0] σ fun v σ => ∃ (r0 : Int), v = .int .i64 r0 ∧ Q r0 σ
/-- (*althing/wal.Log).Sync -/
def c_wal_Log_Sync (B : World) (ro : AH) (a0 : Option Addr) (σ : AH) (Q : Int → AH → Prop) : Prop :=
  ACalls Tryz.prog B ro 33 #[.pointer a0] σ fun v σ => ∃ (r0 : Int), v = .int .i64 r0 ∧ Q r0 σ
/-- (*althing/wal.Log).Get -/
def c_wal_Log_Get (B : World) (ro : AH) (a0 : Option Addr) (a1 : Int) (σ : AH) (Q : Sl → Int → AH → Prop) : Prop :=
  ACalls Tryz.prog B ro 34 #[.pointer a0, .int .i64 a1] σ fun v σ => ∃ (r0 : Sl) (r1 : Int), v = .tuple #[Sl.v r0, .int .i64 r1] ∧ Q r0 r1 σ
/-- (*althing/wal.Log).Safe -/
def c_wal_Log_Safe (B : World) (ro : AH) (a0 : Option Addr) (σ : AH) (Q : Int → AH → Prop) : Prop :=
  ACalls Tryz.prog B ro 35 #[.pointer a0] σ fun v σ => ∃ (r0 : Int), v = .int .i64 r0 ∧ Q r0 σ
/-- (*althing/wal.Log).First -/
def c_wal_Log_First (B : World) (ro : AH) (a0 : Option Addr) (σ : AH) (Q : Int → AH → Prop) : Prop :=
  ACalls Tryz.prog B ro 36 #[.pointer a0] σ fun v σ => ∃ (r0 : Int), v = .int .i64 r0 ∧ Q r0 σ
/-- althing/snap.dataFile -/
def c_snap_dataFile (B : World) (ro : AH) (a0 : ByteArray) (a1 : Int) (σ : AH) (Q : ByteArray → AH → Prop) : Prop :=
  ACalls Tryz.prog B ro 38 #[.string a0, .int .i64 a1] σ fun v σ => ∃ (r0 : ByteArray), v = .string r0 ∧ Q r0 σ
/-- althing/snap.Save$1 -/
def c_snap_Save_c1 (B : World) (ro : AH) (a0 : Addr) (a1 : Addr) (a2 : Addr) (σ : AH) (Q : AH → Prop) : Prop :=
  ACalls Tryz.prog B ro 39 #[.pointer (some a0), .pointer (some a1), .pointer (some a2)] σ fun v σ => v = .tuple #[] ∧ Q σ
/-- (*althing/disk.Disk).Remove -/
def c_disk_Disk_Remove (B : World) (ro : AH) (a0 : Option Addr) (a1 : Sl) (σ : AH) (Q : Int → AH → Prop) : Prop :=
  ACalls Tryz.prog B ro 40 #[.pointer a0, Sl.v a1] σ fun v σ => ∃ (r0 : Int), v = .int .i64 r0 ∧ Q r0 σ
/-- althing/snap.digestOf -/
def c_snap_digestOf (B : World) (ro : AH) (a0 : Sl) (σ : AH) (Q : Int → Int → AH → Prop) : Prop :=
  ACalls Tryz.prog B ro 41 #[Sl.v a0] σ fun v σ => ∃ (r0_0 : Int) (r0_1 : Int), v = .agg #[.int .i64 r0_0, .int .i64 r0_1] ∧ Q r0_0 r0_1 σ
/-- (althing/snap.manifest).bytes -/
def c_snap_manifest_bytes (B : World) (ro : AH) (a0_0 : Int) (a0_1 : Int) (a0_2 : Int) (σ : AH) (Q : Sl → AH → Prop) : Prop :=
  ACalls Tryz.prog B ro 42 #[.agg #[.int .i64 a0_0, .int .i64 a0_1, .int .i64 a0_2]] σ fun v σ => ∃ (r0 : Sl), v = Sl.v r0 ∧ Q r0 σ
/-- (*althing/disk.Disk).Append -/
def c_disk_Disk_Append (B : World) (ro : AH) (a0 : Option Addr) (a1 : ByteArray) (a2 : Sl) (σ : AH) (Q : Int → AH → Prop) : Prop :=
  ACalls Tryz.prog B ro 43 #[.pointer a0, .string a1, Sl.v a2] σ fun v σ => ∃ (r0 : Int), v = .int .i64 r0 ∧ Q r0 σ
/-- (*althing/disk.Disk).Sync -/
def c_disk_Disk_Sync (B : World) (ro : AH) (a0 : Option Addr) (a1 : Sl) (σ : AH) (Q : Int → AH → Prop) : Prop :=
  ACalls Tryz.prog B ro 44 #[.pointer a0, Sl.v a1] σ fun v σ => ∃ (r0 : Int), v = .int .i64 r0 ∧ Q r0 σ
/-- (*althing/disk.Disk).Rename -/
def c_disk_Disk_Rename (B : World) (ro : AH) (a0 : Option Addr) (a1 : ByteArray) (a2 : ByteArray) (σ : AH) (Q : Int → AH → Prop) : Prop :=
  ACalls Tryz.prog B ro 45 #[.pointer a0, .string a1, .string a2] σ fun v σ => ∃ (r0 : Int), v = .int .i64 r0 ∧ Q r0 σ
/-- (althing/disk.table).Files -/
def c_disk_table_Files (B : World) (ro : AH) (a0 : Option Nat) (σ : AH) (Q : Sl → AH → Prop) : Prop :=
  ACalls Tryz.prog B ro 46 #[.map a0] σ fun v σ => ∃ (r0 : Sl), v = Sl.v r0 ∧ Q r0 σ
/-- althing/snap.isData -/
def c_snap_isData (B : World) (ro : AH) (a0 : ByteArray) (a1 : ByteArray) (σ : AH) (Q : Bool → AH → Prop) : Prop :=
  ACalls Tryz.prog B ro 47 #[.string a0, .string a1] σ fun v σ => ∃ (r0 : Bool), v = .bool r0 ∧ Q r0 σ
/-- althing/althingref01.Join -/
def c_ref01_Join (B : World) (ro : AH) (a0 : Sl) (σ : AH) (Q : Sl → AH → Prop) : Prop :=
  ACalls Tryz.prog B ro 48 #[Sl.v a0] σ fun v σ => ∃ (r0 : Sl), v = Sl.v r0 ∧ Q r0 σ
/-- althing/snap.rightName -/
def c_snap_rightName (B : World) (ro : AH) (a0 : ByteArray) (σ : AH) (Q : Bool → AH → Prop) : Prop :=
  ACalls Tryz.prog B ro 49 #[.string a0] σ fun v σ => ∃ (r0 : Bool), v = .bool r0 ∧ Q r0 σ
/-- althing/snap.readManifest -/
def c_snap_readManifest (B : World) (ro : AH) (a0 : Option Addr) (a1 : ByteArray) (σ : AH) (Q : Int → Int → Int → Bool → AH → Prop) : Prop :=
  ACalls Tryz.prog B ro 50 #[.pointer a0, .string a1] σ fun v σ => ∃ (r0_0 : Int) (r0_1 : Int) (r0_2 : Int) (r1 : Bool), v = .tuple #[.agg #[.int .i64 r0_0, .int .i64 r0_1, .int .i64 r0_2], .bool r1] ∧ Q r0_0 r0_1 r0_2 r1 σ
/-- (*althing/disk.Disk).Read -/
def c_disk_Disk_Read (B : World) (ro : AH) (a0 : Option Addr) (a1 : ByteArray) (σ : AH) (Q : Sl → Int → AH → Prop) : Prop :=
  ACalls Tryz.prog B ro 51 #[.pointer a0, .string a1] σ fun v σ => ∃ (r0 : Sl) (r1 : Int), v = .tuple #[Sl.v r0, .int .i64 r1] ∧ Q r0 r1 σ
/-- (*althing/althingref05.Asm).find -/
def c_ref05_Asm_find (B : World) (ro : AH) (a0 : Option Addr) (a1 : Int) (σ : AH) (Q : Int → AH → Prop) : Prop :=
  ACalls Tryz.prog B ro 65 #[.pointer a0, .int .i64 a1] σ fun v σ => ∃ (r0 : Int), v = .int .i64 r0 ∧ Q r0 σ
/-- althing/wal.rightName -/
def c_wal_rightName (B : World) (ro : AH) (a0 : ByteArray) (σ : AH) (Q : Bool → AH → Prop) : Prop :=
  ACalls Tryz.prog B ro 66 #[.string a0] σ fun v σ => ∃ (r0 : Bool), v = .bool r0 ∧ Q r0 σ
/-- (althing/wal.place).cutFile -/
def c_wal_place_cutFile (B : World) (ro : AH) (a0_0 : Option Addr) (a0_1 : ByteArray) (σ : AH) (Q : ByteArray → AH → Prop) : Prop :=
  ACalls Tryz.prog B ro 67 #[.agg #[.pointer a0_0, .string a0_1]] σ fun v σ => ∃ (r0 : ByteArray), v = .string r0 ∧ Q r0 σ
/-- (althing/wal.place).numbers -/
def c_wal_place_numbers (B : World) (ro : AH) (a0_0 : Option Addr) (a0_1 : ByteArray) (σ : AH) (Q : Sl → AH → Prop) : Prop :=
  ACalls Tryz.prog B ro 68 #[.agg #[.pointer a0_0, .string a0_1]] σ fun v σ => ∃ (r0 : Sl), v = Sl.v r0 ∧ Q r0 σ
/-- (*althing/wal.Log).take -/
def c_wal_Log_take (B : World) (ro : AH) (a0 : Option Addr) (a1 : Int) (a2 : Option Addr) (σ : AH) (Q : Bool → AH → Prop) : Prop :=
  ACalls Tryz.prog B ro 69 #[.pointer a0, .int .i64 a1, .pointer a2] σ fun v σ => ∃ (r0 : Bool), v = .bool r0 ∧ Q r0 σ
/-- (althing/wal.place).file -/
def c_wal_place_file (B : World) (ro : AH) (a0_0 : Option Addr) (a0_1 : ByteArray) (a1 : Int) (σ : AH) (Q : ByteArray → AH → Prop) : Prop :=
  ACalls Tryz.prog B ro 70 #[.agg #[.pointer a0_0, .string a0_1], .int .i64 a1] σ fun v σ => ∃ (r0 : ByteArray), v = .string r0 ∧ Q r0 σ
/-- (*althing/wal.Log).cut -/
def c_wal_Log_cut (B : World) (ro : AH) (a0 : Option Addr) (σ : AH) (Q : Int → AH → Prop) : Prop :=
  ACalls Tryz.prog B ro 71 #[.pointer a0] σ fun v σ => ∃ (r0 : Int), v = .int .i64 r0 ∧ Q r0 σ
/-- (*althing/wal.Log).write -/
def c_wal_Log_write (B : World) (ro : AH) (a0 : Option Addr) (a1 : Sl) (σ : AH) (Q : Int → AH → Prop) : Prop :=
  ACalls Tryz.prog B ro 72 #[.pointer a0, Sl.v a1] σ fun v σ => ∃ (r0 : Int), v = .int .i64 r0 ∧ Q r0 σ
/-- (*althing/wal.segment).next -/
def c_wal_segment_next (B : World) (ro : AH) (a0 : Option Addr) (σ : AH) (Q : Int → AH → Prop) : Prop :=
  ACalls Tryz.prog B ro 73 #[.pointer a0] σ fun v σ => ∃ (r0 : Int), v = .int .i64 r0 ∧ Q r0 σ
/-- bytes.Clone -/
def c_bytes_Clone (B : World) (ro : AH) (a0 : Sl) (σ : AH) (Q : Sl → AH → Prop) : Prop :=
  ACalls Tryz.prog B ro 74 #[Sl.v a0] σ fun v σ => ∃ (r0 : Sl), v = Sl.v r0 ∧ Q r0 σ
/-- strconv.Itoa -/
def c_strconv_Itoa (B : World) (ro : AH) (a0 : Int) (σ : AH) (Q : ByteArray → AH → Prop) : Prop :=
  ACalls Tryz.prog B ro 75 #[.int .i64 a0] σ fun v σ => ∃ (r0 : ByteArray), v = .string r0 ∧ Q r0 σ
/-- (althing/disk.table).find -/
def c_disk_table_find (B : World) (ro : AH) (a0 : Option Nat) (a1 : Sl) (σ : AH) (Q : Sl → Int → AH → Prop) : Prop :=
  ACalls Tryz.prog B ro 76 #[.map a0, Sl.v a1] σ fun v σ => ∃ (r0 : Sl) (r1 : Int), v = .tuple #[Sl.v r0, .int .i64 r1] ∧ Q r0 r1 σ
/-- althing/wire.Sum -/
def c_wire_Sum (B : World) (ro : AH) (a0 : Sl) (σ : AH) (Q : Int → AH → Prop) : Prop :=
  ACalls Tryz.prog B ro 77 #[Sl.v a0] σ fun v σ => ∃ (r0 : Int), v = .int .i64 r0 ∧ Q r0 σ
/-- althing/wire.Numbers -/
def c_wire_Numbers (B : World) (ro : AH) (a0 : Sl) (σ : AH) (Q : Sl → Int → AH → Prop) : Prop :=
  ACalls Tryz.prog B ro 78 #[Sl.v a0] σ fun v σ => ∃ (r0 : Sl) (r1 : Int), v = .tuple #[Sl.v r0, .int .i64 r1] ∧ Q r0 r1 σ
/-- althing/wire.Frame -/
def c_wire_Frame (B : World) (ro : AH) (a0 : Sl) (σ : AH) (Q : Sl → Int → AH → Prop) : Prop :=
  ACalls Tryz.prog B ro 79 #[Sl.v a0] σ fun v σ => ∃ (r0 : Sl) (r1 : Int), v = .tuple #[Sl.v r0, .int .i64 r1] ∧ Q r0 r1 σ
/-- althing/disk.rightName -/
def c_disk_rightName (B : World) (ro : AH) (a0 : ByteArray) (σ : AH) (Q : Bool → AH → Prop) : Prop :=
  ACalls Tryz.prog B ro 80 #[.string a0] σ fun v σ => ∃ (r0 : Bool), v = .bool r0 ∧ Q r0 σ
/-- slices.Sorted[string] -/
def c_slices_Sorted_string (B : World) (ro : AH) (a0 : Value) (σ : AH) (Q : Sl → AH → Prop) : Prop :=
  ACalls Tryz.prog B ro 81 #[a0] σ fun v σ => ∃ (r0 : Sl), v = Sl.v r0 ∧ Q r0 σ
/-- maps.Keys[althing/disk.table,string,*althing/disk.file] -/
def c_maps_Keys_disk_file (B : World) (ro : AH) (a0 : Option Nat) (σ : AH) (Q : Value → AH → Prop) : Prop :=
  ACalls Tryz.prog B ro 82 #[.map a0] σ fun v σ => ∃ (r0 : Value), v = r0 ∧ Q r0 σ
/-- strings.CutPrefix -/
def c_strings_CutPrefix (B : World) (ro : AH) (a0 : ByteArray) (a1 : ByteArray) (σ : AH) (Q : ByteArray → Bool → AH → Prop) : Prop :=
  ACalls Tryz.prog B ro 83 #[.string a0, .string a1] σ fun v σ => ∃ (r0 : ByteArray) (r1 : Bool), v = .tuple #[.string r0, .bool r1] ∧ Q r0 r1 σ
/-- strconv.Atoi -/
def c_strconv_Atoi (B : World) (ro : AH) (a0 : ByteArray) (σ : AH) (Q : Int → Value → AH → Prop) : Prop :=
  ACalls Tryz.prog B ro 84 #[.string a0] σ fun v σ => ∃ (r0 : Int) (r1 : Value), v = .tuple #[.int .i64 r0, r1] ∧ Q r0 r1 σ
/-- strings.Trim -/
def c_strings_Trim (B : World) (ro : AH) (a0 : ByteArray) (a1 : ByteArray) (σ : AH) (Q : ByteArray → AH → Prop) : Prop :=
  ACalls Tryz.prog B ro 85 #[.string a0, .string a1] σ fun v σ => ∃ (r0 : ByteArray), v = .string r0 ∧ Q r0 σ
/-- althing/wire.Unframe -/
def c_wire_Unframe (B : World) (ro : AH) (a0 : Sl) (a1 : Int) (σ : AH) (Q : Sl → Int → Int → AH → Prop) : Prop :=
  ACalls Tryz.prog B ro 86 #[Sl.v a0, .int .i64 a1] σ fun v σ => ∃ (r0 : Sl) (r1 : Int) (r2 : Int), v = .tuple #[Sl.v r0, .int .i64 r1, .int .i64 r2] ∧ Q r0 r1 r2 σ
/-- althing/wire.NewReader -/
def c_wire_NewReader (B : World) (ro : AH) (a0 : Sl) (σ : AH) (Q : Option Addr → AH → Prop) : Prop :=
  ACalls Tryz.prog B ro 87 #[Sl.v a0] σ fun v σ => ∃ (r0 : Option Addr), v = .pointer r0 ∧ Q r0 σ
/-- (*althing/wire.Reader).Num -/
def c_wire_Reader_Num (B : World) (ro : AH) (a0 : Option Addr) (σ : AH) (Q : Int → AH → Prop) : Prop :=
  ACalls Tryz.prog B ro 88 #[.pointer a0] σ fun v σ => ∃ (r0 : Int), v = .int .i64 r0 ∧ Q r0 σ
/-- (*althing/wire.Reader).Err -/
def c_wire_Reader_Err (B : World) (ro : AH) (a0 : Option Addr) (σ : AH) (Q : Int → AH → Prop) : Prop :=
  ACalls Tryz.prog B ro 89 #[.pointer a0] σ fun v σ => ∃ (r0 : Int), v = .int .i64 r0 ∧ Q r0 σ
/-- (*althing/wire.Reader).Left -/
def c_wire_Reader_Left (B : World) (ro : AH) (a0 : Option Addr) (σ : AH) (Q : Int → AH → Prop) : Prop :=
  ACalls Tryz.prog B ro 90 #[.pointer a0] σ fun v σ => ∃ (r0 : Int), v = .int .i64 r0 ∧ Q r0 σ
/-- strings.Contains -/
def c_strings_Contains (B : World) (ro : AH) (a0 : ByteArray) (a1 : ByteArray) (σ : AH) (Q : Bool → AH → Prop) : Prop :=
  ACalls Tryz.prog B ro 96 #[.string a0, .string a1] σ fun v σ => ∃ (r0 : Bool), v = .bool r0 ∧ Q r0 σ
/-- althing/wire.Number -/
def c_wire_Number (B : World) (ro : AH) (a0 : Sl) (a1 : Int) (σ : AH) (Q : Int → Int → Int → AH → Prop) : Prop :=
  ACalls Tryz.prog B ro 97 #[Sl.v a0, .int .i64 a1] σ fun v σ => ∃ (r0 : Int) (r1 : Int) (r2 : Int), v = .tuple #[.int .i64 r0, .int .i64 r1, .int .i64 r2] ∧ Q r0 r1 r2 σ
/-- strings.Repeat -/
def c_strings_Repeat (B : World) (ro : AH) (a0 : ByteArray) (a1 : Int) (σ : AH) (Q : ByteArray → AH → Prop) : Prop :=
  ACalls Tryz.prog B ro 98 #[.string a0, .int .i64 a1] σ fun v σ => ∃ (r0 : ByteArray), v = .string r0 ∧ Q r0 σ
/-- (*althing/wal.Log).lay -/
def c_wal_Log_lay (B : World) (ro : AH) (a0 : Option Addr) (a1 : Option Addr) (a2 : Sl) (a3 : Sl) (σ : AH) (Q : Int → AH → Prop) : Prop :=
  ACalls Tryz.prog B ro 99 #[.pointer a0, .pointer a1, Sl.v a2, Sl.v a3] σ fun v σ => ∃ (r0 : Int), v = .int .i64 r0 ∧ Q r0 σ
/-- althing/wal.frame -/
def c_wal_frame (B : World) (ro : AH) (a0 : Sl) (σ : AH) (Q : Sl → AH → Prop) : Prop :=
  ACalls Tryz.prog B ro 100 #[Sl.v a0] σ fun v σ => ∃ (r0 : Sl), v = Sl.v r0 ∧ Q r0 σ
/-- althing/wire.right -/
def c_wire_right (B : World) (ro : AH) (a0 : Int) (σ : AH) (Q : Bool → AH → Prop) : Prop :=
  ACalls Tryz.prog B ro 102 #[.int .i64 a0] σ fun v σ => ∃ (r0 : Bool), v = .bool r0 ∧ Q r0 σ
/-- althing/wire.put -/
def c_wire_put (B : World) (ro : AH) (a0 : Sl) (a1 : Int) (σ : AH) (Q : Sl → AH → Prop) : Prop :=
  ACalls Tryz.prog B ro 103 #[Sl.v a0, .int .i64 a1] σ fun v σ => ∃ (r0 : Sl), v = Sl.v r0 ∧ Q r0 σ
/-- althing/wire.four -/
def c_wire_four (B : World) (ro : AH) (a0 : Int) (σ : AH) (Q : Sl → AH → Prop) : Prop :=
  ACalls Tryz.prog B ro 104 #[.int .i64 a0] σ fun v σ => ∃ (r0 : Sl), v = Sl.v r0 ∧ Q r0 σ
/-- slices.ContainsFunc[[]byte,byte] -/
def c_slices_ContainsFunc_byte_byte (B : World) (ro : AH) (a0 : Sl) (a1 : Value) (σ : AH) (Q : Bool → AH → Prop) : Prop :=
  ACalls Tryz.prog B ro 105 #[Sl.v a0, a1] σ fun v σ => ∃ (r0 : Bool), v = .bool r0 ∧ Q r0 σ
/-- althing/disk.rightName$1 -/
def c_disk_rightName_c1 (B : World) (ro : AH) (a0 : Int) (σ : AH) (Q : Bool → AH → Prop) : Prop :=
  ACalls Tryz.prog B ro 106 #[.int .u8 a0] σ fun v σ => ∃ (r0 : Bool), v = .bool r0 ∧ Q r0 σ
/-- internal/stringslite.CutPrefix -/
def c_stringslite_CutPrefix (B : World) (ro : AH) (a0 : ByteArray) (a1 : ByteArray) (σ : AH) (Q : ByteArray → Bool → AH → Prop) : Prop :=
  ACalls Tryz.prog B ro 110 #[.string a0, .string a1] σ fun v σ => ∃ (r0 : ByteArray) (r1 : Bool), v = .tuple #[.string r0, .bool r1] ∧ Q r0 r1 σ
/-- althing/wire.value -/
def c_wire_value (B : World) (ro : AH) (a0 : Sl) (σ : AH) (Q : Int → AH → Prop) : Prop :=
  ACalls Tryz.prog B ro 120 #[Sl.v a0] σ fun v σ => ∃ (r0 : Int), v = .int .i64 r0 ∧ Q r0 σ
/-- slices.IndexFunc[[]byte,byte] -/
def c_slices_IndexFunc_byte_byte (B : World) (ro : AH) (a0 : Sl) (a1 : Value) (σ : AH) (Q : Int → AH → Prop) : Prop :=
  ACalls Tryz.prog B ro 131 #[Sl.v a0, a1] σ fun v σ => ∃ (r0 : Int), v = .int .i64 r0 ∧ Q r0 σ
/-- internal/stringslite.HasPrefix -/
def c_stringslite_HasPrefix (B : World) (ro : AH) (a0 : ByteArray) (a1 : ByteArray) (σ : AH) (Q : Bool → AH → Prop) : Prop :=
  ACalls Tryz.prog B ro 135 #[.string a0, .string a1] σ fun v σ => ∃ (r0 : Bool), v = .bool r0 ∧ Q r0 σ
end Go.Proofs.YtfobjidchipdaaaGreatDoor.G

/- Functions as predicate transformers, and the proofs that the code does what they tell: printed by wip/tools/gen.py. -/
namespace Go.Proofs.YtfobjidchipdaaaGreatDoor.G
open Go Go.Proofs.YtfobjidchipdaaaGreatDoor.SL
set_option linter.unusedVariables false
set_option linter.unusedSimpArgs false

def f_bytes_Clone (B : World) (ro : AH) (a0 : Sl) (σ : AH) (Q : Sl → AH → Prop) : Prop :=
 if a0.a = none then
  Q (⟨none, 0, 0⟩ : Sl) σ
 else
 nw ro σ (.cells #[] 5) fun x5_1 σ =>
 awp Tryz.prog ro (Builtin.append_ #[22, 22] 22 #[Sl.v (⟨some ⟨x5_1, 0, none⟩, 0, 0⟩ : Sl), Sl.v a0]) (fun v σ => ∃ (x7_2 : Sl), v = Sl.v x7_2 ∧
  Q x7_2 σ) σ

set_option maxRecDepth 100000 in
set_option maxHeartbeats 4000000 in
theorem bytes_Clone_ok {B : World} {ro : AH} {a0 : Sl} {σ : AH} {Q : Sl → AH → Prop} (h : Sep ro σ → f_bytes_Clone B ro a0 σ Q) : c_bytes_Clone B ro a0 σ Q := by
  refine ACalls.of_sep fun hsep => ?_
  replace h := h hsep
  refine ACalls.of_body (args := [Sl.v a0]) Tryz.func74 rfl (by rw [Tryz.ntmps74]; simp) ?_
  rw [Tryz.ntmps74]
  unfold f_bytes_Clone at h
  refine AW.seq ?_
  refine AW.reg ?_
  refine Lp (V_asg rfl rfl) rfl rfl ?_
  refine Lnil ?_
  refine thenN ?_
  refine AW.seq ?_
  refine AW.seq ?_
  refine AW.reg ?_
  refine Lp (V_move rfl rfl) rfl rfl ?_
  refine Lp (V_eqL rfl Tryz.underlying22 rfl rfl) rfl rfl ?_
  refine Lnil ?_
  refine thenN ?_
  refine AW.iff rfl isNone_iff h (fun h => ?_) (fun h => ?_)
  · refine AW.seq ?_
    refine AW.reg ?_
    refine Lp (V_asg rfl rfl) rfl rfl ?_
    refine Lnil ?_
    refine thenN ?_
    refine AW.ret ?_
    refine thenR ?_
    exact bR1 Tryz.results74 rfl ⟨_, rfl, h⟩
  refine AW.skip ?_
  refine thenN ?_
  refine AW.seq ?_
  refine AW.reg ?_
  refine Ls rfl rfl (X_new (A_bsl (vs := []) (cs := #[]) rfl Tryz.underlying22 ty5 (by decide) rfl rfl) fun x5_1 g1 g2 => ?_)
  replace h := h x5_1 g1 g2
  refine Lp (V_move rfl rfl) rfl rfl ?_
  refine Ls rfl rfl (X_bi (s := Builtin.append_ #[22, 22] 22 #[Sl.v (⟨some ⟨x5_1, 0, none⟩, 0, 0⟩ : Sl), Sl.v a0]) rfl rfl (fun _ => rfl) (awp_mono _ h ?_))
  rintro v σ ⟨x7_2, rfl, h⟩
  refine Lp (V_asg rfl rfl) rfl rfl ?_
  refine Lnil ?_
  refine thenN ?_
  refine AW.ret ?_
  exact bR1 Tryz.results74 rfl ⟨_, rfl, h⟩

def f_strings_CutPrefix (B : World) (ro : AH) (a0 : ByteArray) (a1 : ByteArray) (σ : AH) (Q : ByteArray → Bool → AH → Prop) : Prop :=
 c_stringslite_CutPrefix B ro a0 a1 σ fun x8_1 x8_2 σ =>
 Q x8_1 x8_2 σ

set_option maxRecDepth 100000 in
set_option maxHeartbeats 4000000 in
theorem strings_CutPrefix_ok {B : World} {ro : AH} {a0 : ByteArray} {a1 : ByteArray} {σ : AH} {Q : ByteArray → Bool → AH → Prop} (h : Sep ro σ → f_strings_CutPrefix B ro a0 a1 σ Q) : c_strings_CutPrefix B ro a0 a1 σ Q := by
  refine ACalls.of_sep fun hsep => ?_
  replace h := h hsep
  refine ACalls.of_body (args := [.string a0, .string a1]) Tryz.func83 rfl (by rw [Tryz.ntmps83]; simp) ?_
  rw [Tryz.ntmps83]
  unfold f_strings_CutPrefix at h
  refine AW.seq ?_
  refine AW.reg ?_
  refine Lp (V_asg rfl rfl) rfl rfl ?_
  refine Lp (V_asg rfl rfl) rfl rfl ?_
  refine Lnil ?_
  refine thenN ?_
  refine AW.seq ?_
  refine AW.reg ?_
  refine Lp (V_move rfl rfl) rfl rfl ?_
  refine Lp (V_move rfl rfl) rfl rfl ?_
  refine Ls rfl rfl (X_call rfl Tryz.func110 rfl rfl rfl (ACalls.mono h ?_))
  rintro v σ ⟨x8_1, x8_2, rfl, h⟩
  refine Lp (V_ext rfl rfl rfl) rfl rfl ?_
  refine Lp (V_ext rfl rfl rfl) rfl rfl ?_
  refine Lp (V_asg rfl rfl) rfl rfl ?_
  refine Lp (V_asg rfl rfl) rfl rfl ?_
  refine Lnil ?_
  refine thenN ?_
  refine AW.ret ?_
  exact bR2 Tryz.results83 rfl rfl ⟨_, _, rfl, h⟩

def f_slices_ContainsFunc_byte_byte (B : World) (ro : AH) (a0 : Sl) (a1 : Value) (σ : AH) (Q : Bool → AH → Prop) : Prop :=
 c_slices_IndexFunc_byte_byte B ro a0 a1 σ fun x7_1 σ =>
 Q (decide (0 ≤ x7_1)) σ

set_option maxRecDepth 100000 in
set_option maxHeartbeats 4000000 in
theorem slices_ContainsFunc_byte_byte_ok {B : World} {ro : AH} {a0 : Sl} {a1 : Value} {σ : AH} {Q : Bool → AH → Prop} (h : Sep ro σ → f_slices_ContainsFunc_byte_byte B ro a0 a1 σ Q) : c_slices_ContainsFunc_byte_byte B ro a0 a1 σ Q := by
  refine ACalls.of_sep fun hsep => ?_
  replace h := h hsep
  refine ACalls.of_body (args := [Sl.v a0, a1]) Tryz.func105 rfl (by rw [Tryz.ntmps105]; simp) ?_
  rw [Tryz.ntmps105]
  unfold f_slices_ContainsFunc_byte_byte at h
  refine AW.seq ?_
  refine AW.reg ?_
  refine Lp (V_asg rfl rfl) rfl rfl ?_
  refine Lnil ?_
  refine thenN ?_
  refine AW.seq ?_
  refine AW.reg ?_
  refine Lp (V_move rfl rfl) rfl rfl ?_
  refine Lp (V_move rfl rfl) rfl rfl ?_
  refine Ls rfl rfl (X_call rfl Tryz.func131 rfl rfl rfl (ACalls.mono h ?_))
  rintro v σ ⟨x7_1, rfl, h⟩
  refine Lp (V_geq rfl rfl rfl) rfl rfl ?_
  refine Lp (V_asg rfl rfl) rfl rfl ?_
  refine Lnil ?_
  refine thenN ?_
  refine AW.ret ?_
  exact bR1 Tryz.results105 rfl ⟨_, rfl, h⟩

def f_stringslite_CutPrefix (B : World) (ro : AH) (a0 : ByteArray) (a1 : ByteArray) (σ : AH) (Q : ByteArray → Bool → AH → Prop) : Prop :=
 c_stringslite_HasPrefix B ro a0 a1 σ fun x8_1 σ =>
 if ¬ (x8_1 = true) then
  Q a0 false σ
 else
 cutOk (some (a1.size : Int)) none a0.size a0.size ∧
 Q (a0.extract (Int.toNat (a1.size : Int)) (a0.size)) true σ

set_option maxRecDepth 100000 in
set_option maxHeartbeats 4000000 in
theorem stringslite_CutPrefix_ok {B : World} {ro : AH} {a0 : ByteArray} {a1 : ByteArray} {σ : AH} {Q : ByteArray → Bool → AH → Prop} (h : Sep ro σ → f_stringslite_CutPrefix B ro a0 a1 σ Q) : c_stringslite_CutPrefix B ro a0 a1 σ Q := by
  refine ACalls.of_sep fun hsep => ?_
  replace h := h hsep
  refine ACalls.of_body (args := [.string a0, .string a1]) Tryz.func110 rfl (by rw [Tryz.ntmps110]; simp) ?_
  rw [Tryz.ntmps110]
  unfold f_stringslite_CutPrefix at h
  refine AW.seq ?_
  refine AW.reg ?_
  refine Lp (V_asg rfl rfl) rfl rfl ?_
  refine Lp (V_asg rfl rfl) rfl rfl ?_
  refine Lnil ?_
  refine thenN ?_
  refine AW.seq ?_
  refine AW.seq ?_
  refine AW.reg ?_
  refine Lp (V_move rfl rfl) rfl rfl ?_
  refine Lp (V_move rfl rfl) rfl rfl ?_
  refine Ls rfl rfl (X_call rfl Tryz.func135 rfl rfl rfl (ACalls.mono h ?_))
  rintro v σ ⟨x8_1, rfl, h⟩
  refine Lp (V_not rfl rfl) rfl rfl ?_
  refine Lnil ?_
  refine thenN ?_
  refine AW.iff rfl (bnot_iff Iff.rfl) h (fun h => ?_) (fun h => ?_)
  · refine AW.seq ?_
    refine AW.reg ?_
    refine Lp (V_move rfl rfl) rfl rfl ?_
    refine Lp (V_asg rfl rfl) rfl rfl ?_
    refine Lp (V_asg rfl rfl) rfl rfl ?_
    refine Lnil ?_
    refine thenN ?_
    refine AW.ret ?_
    refine thenR ?_
    exact bR2 Tryz.results110 rfl rfl ⟨_, _, rfl, h⟩
  refine AW.skip ?_
  refine thenN ?_
  refine AW.seq ?_
  refine AW.reg ?_
  refine Lp (V_move rfl rfl) rfl rfl ?_
  refine Lp (V_move rfl rfl) rfl rfl ?_
  refine Lp (V_lenS rfl rfl Tryz.underlying9 rfl rfl) rfl rfl ?_
  obtain ⟨hc, h⟩ := h
  refine Lp (V_slS (lo := (some (a1.size : Int))) (hi := none) rfl Tryz.underlying9 rfl (optI_some rfl) optI_none hc) rfl rfl ?_
  refine Lp (V_asg rfl rfl) rfl rfl ?_
  refine Lp (V_asg rfl rfl) rfl rfl ?_
  refine Lnil ?_
  refine thenN ?_
  refine AW.ret ?_
  exact bR2 Tryz.results110 rfl rfl ⟨_, _, rfl, h⟩

def j1_slices_IndexFunc_byte_byte (B : World) (ro : AH) (Q : Int → AH → Prop) (σ : AH) : Prop :=
 Q (-1) σ

def l2_slices_IndexFunc_byte_byte (B : World) (ro : AH) (a0 : Sl) (a1 : Value) (Q : Int → AH → Prop) : (Int) → AH → ((Int) → AH → Prop) → Prop := fun x8_3 σ Y2 =>
 if x8_3 < (a0.len : Int) then
  ∃ p14_4 : Addr, a0.a = some p14_4 ∧ (0 : Int) ≤ x8_3 ∧ x8_3 < (a0.len : Int) ∧
  ∃ (x15_5 : Int), acell ro σ (p14_4.add (Int.toNat x8_3 * 1)) = some (.int .u8 x15_5) ∧
  callV Tryz.prog B ro a1 [.int .u8 x15_5] σ (fun v σ => ∃ (x16_6 : Bool), v = .bool x16_6 ∧
   if x16_6 = true then
    Q x8_3 σ
   else
   Y2 (IntKind.i64.wrap (x8_3 + 1)) σ)
 else
 j1_slices_IndexFunc_byte_byte B ro Q σ

def f_slices_IndexFunc_byte_byte (B : World) (ro : AH) (a0 : Sl) (a1 : Value) (σ : AH) (Q : Int → AH → Prop) : Prop :=
 lfpD (l2_slices_IndexFunc_byte_byte B ro a0 a1 Q ) (0) σ

set_option maxRecDepth 100000 in
set_option maxHeartbeats 4000000 in
theorem slices_IndexFunc_byte_byte_ok {B : World} {ro : AH} {a0 : Sl} {a1 : Value} {σ : AH} {Q : Int → AH → Prop} (h : Sep ro σ → f_slices_IndexFunc_byte_byte B ro a0 a1 σ Q) : c_slices_IndexFunc_byte_byte B ro a0 a1 σ Q := by
  refine ACalls.of_sep fun hsep => ?_
  replace h := h hsep
  refine ACalls.of_body (args := [Sl.v a0, a1]) Tryz.func131 rfl (by rw [Tryz.ntmps131]; simp) ?_
  rw [Tryz.ntmps131]
  unfold f_slices_IndexFunc_byte_byte at h
  refine AW.seq ?_
  refine AW.reg ?_
  refine Lp (V_asg rfl rfl) rfl rfl ?_
  refine Lnil ?_
  refine thenN ?_
  refine AW.seqJ (fun fr σ => FrLe [] fr ∧ j1_slices_IndexFunc_byte_byte B ro Q σ) ?_ ?_
  · rintro fr σ ⟨hl, h⟩
    refine AW.weaken ?_ hl (HLe.refl _)
    unfold j1_slices_IndexFunc_byte_byte at h
    refine AW.seq ?_
    refine AW.reg ?_
    refine Lp (V_asg rfl rfl) rfl rfl ?_
    refine Lnil ?_
    refine thenN ?_
    refine AW.ret ?_
    exact bR1 Tryz.results131 rfl ⟨_, rfl, h⟩
  refine AW.seq ?_
  refine AW.reg ?_
  refine Lp (V_move rfl rfl) rfl rfl ?_
  refine Lp (V_lenL rfl rfl Tryz.underlying22 rfl rfl) rfl rfl ?_
  refine Lp (V_move rfl rfl) rfl rfl ?_
  refine Lnil ?_
  refine thenN ?_
  refine AW.block ?_
  refine ARound.loop (fr' := [(0, Sl.v a0), (1, a1), (7, .int .i64 (a0.len : Int)), (8, .int .i64 0)]) ?_ (FrLe.cons rfl (FrLe.cons rfl (FrLe.cons rfl (FrLe.cons rfl (FrLe.nil _)))))
  refine h (fun x8_3 σ => ARound _ _ _ _ _ _ [(0, Sl.v a0), (1, a1), (7, .int .i64 (a0.len : Int)), (8, .int .i64 x8_3)] σ) ?_
  rintro x8_3 σ Y2 hY2 h
  show AW _ _ _ _ _ _ _ _
  unfold l2_slices_IndexFunc_byte_byte at h
  refine AW.seq ?_
  refine AW.reg ?_
  refine Lp (V_lss rfl rfl rfl) rfl rfl ?_
  refine Lnil ?_
  refine thenN ?_
  refine AW.seq ?_
  refine AW.iff rfl decide_eq_true_iff h (fun h => ?_) (fun h => ?_)
  rotate_left
  · refine AW.exit ?_
    refine thenE ?_
    refine thenE ?_
    refine blockE ?_
    refine thenN ?_
    exact ⟨(FrLe.nil _), h⟩
  refine AW.skip ?_
  refine thenN ?_
  refine AW.seq ?_
  refine AW.block ?_
  refine AW.seq ?_
  refine AW.reg ?_
  refine Lp (V_move rfl rfl) rfl rfl ?_
  refine Lp (V_asg rfl rfl) rfl rfl ?_
  refine Lnil ?_
  refine thenN ?_
  refine AW.seq ?_
  refine AW.reg ?_
  refine Lp (V_move rfl rfl) rfl rfl ?_
  refine Lp (V_move rfl rfl) rfl rfl ?_
  refine Lp (V_move rfl rfl) rfl rfl ?_
  obtain ⟨p14_4, ha, h0, h1, h⟩ := h
  refine Lp (V_ixA rfl Tryz.underlying22 ty5 (ixL rfl ha) rfl h0 h1) rfl rfl ?_
  obtain ⟨x15_5, hc, h⟩ := h
  refine Ls rfl rfl (X_ld rfl Tryz.underlying5 rfl rfl hc ?_)
  refine Ls rfl rfl (X_callV rfl rfl rfl (callV_mono h ?_))
  rintro v σ ⟨x16_6, rfl, h⟩
  refine Lnil ?_
  refine thenN ?_
  refine AW.iff rfl Iff.rfl h (fun h => ?_) (fun h => ?_)
  · refine AW.seq ?_
    refine AW.reg ?_
    refine Lp (V_move rfl rfl) rfl rfl ?_
    refine Lp (V_asg rfl rfl) rfl rfl ?_
    refine Lnil ?_
    refine thenN ?_
    refine AW.ret ?_
    refine blockR ?_
    refine thenR ?_
    refine thenR ?_
    refine blockR ?_
    refine thenR ?_
    exact bR1 Tryz.results131 rfl ⟨_, rfl, h⟩
  refine AW.skip ?_
  refine blockN ?_
  refine thenN ?_
  refine AW.reg ?_
  refine Lp (V_add rfl rfl rfl) rfl rfl ?_
  refine Lp (V_move rfl rfl) rfl rfl ?_
  refine Lnil ?_
  refine thenN ?_
  refine ARound.head (fr' := [(0, Sl.v a0), (1, a1), (7, .int .i64 (a0.len : Int)), (8, .int .i64 (IntKind.i64.wrap (x8_3 + 1)))]) ?_ (FrLe.cons rfl (FrLe.cons rfl (FrLe.cons rfl (FrLe.cons rfl (FrLe.nil _)))))
  exact hY2 _ _ h

def j1_stringslite_HasPrefix (B : World) (ro : AH) (Q : Bool → AH → Prop) (x17_2 : Bool) (σ : AH) : Prop :=
 Q x17_2 σ

def f_stringslite_HasPrefix (B : World) (ro : AH) (a0 : ByteArray) (a1 : ByteArray) (σ : AH) (Q : Bool → AH → Prop) : Prop :=
 if (a1.size : Int) ≤ (a0.size : Int) then
  cutOk none (some (a1.size : Int)) a0.size a0.size ∧
  j1_stringslite_HasPrefix B ro Q (decide ((a0.extract (0) (Int.toNat (a1.size : Int))) = a1)) σ
 else
 j1_stringslite_HasPrefix B ro Q false σ

set_option maxRecDepth 100000 in
set_option maxHeartbeats 4000000 in
theorem stringslite_HasPrefix_ok {B : World} {ro : AH} {a0 : ByteArray} {a1 : ByteArray} {σ : AH} {Q : Bool → AH → Prop} (h : Sep ro σ → f_stringslite_HasPrefix B ro a0 a1 σ Q) : c_stringslite_HasPrefix B ro a0 a1 σ Q := by
  refine ACalls.of_sep fun hsep => ?_
  replace h := h hsep
  refine ACalls.of_body (args := [.string a0, .string a1]) Tryz.func135 rfl (by rw [Tryz.ntmps135]; simp) ?_
  rw [Tryz.ntmps135]
  unfold f_stringslite_HasPrefix at h
  refine AW.seq ?_
  refine AW.reg ?_
  refine Lp (V_asg rfl rfl) rfl rfl ?_
  refine Lnil ?_
  refine thenN ?_
  refine AW.seq ?_
  refine AW.reg ?_
  refine Lp (V_move rfl rfl) rfl rfl ?_
  refine Lp (V_lenS rfl rfl Tryz.underlying9 rfl rfl) rfl rfl ?_
  refine Lp (V_move rfl rfl) rfl rfl ?_
  refine Lp (V_lenS rfl rfl Tryz.underlying9 rfl rfl) rfl rfl ?_
  refine Lp (V_geq rfl rfl rfl) rfl rfl ?_
  refine Lp (V_move rfl rfl) rfl rfl ?_
  refine LsplitJ 7 (decide ((a1.size : Int) ≤ (a0.size : Int))) decide_eq_true_iff h (fun fr σ => ∃ (x17_2 : Bool), FrLe [(17, .bool x17_2)] fr ∧ j1_stringslite_HasPrefix B ro Q x17_2 σ) ?_ ?_ ?_
  · intro h e5 hk5
    refine Lypb (V_move rfl rfl) rfl rfl rfl rfl e5 ?_
    refine Lypb (V_move rfl rfl) rfl rfl rfl rfl e5 ?_
    refine Lypb (V_lenS rfl rfl Tryz.underlying9 rfl rfl) rfl rfl rfl rfl e5 ?_
    obtain ⟨hc, h⟩ := h
    refine Lypb (V_slS (lo := none) (hi := (some (a1.size : Int))) rfl Tryz.underlying9 rfl optI_none (optI_some rfl) hc) rfl rfl rfl rfl e5 ?_
    refine Lypb (V_move rfl rfl) rfl rfl rfl rfl e5 ?_
    refine Lypb (V_eqlS rfl rfl rfl) rfl rfl rfl rfl e5 ?_
    refine Lp (V_pickT rfl (evb e5) rfl) rfl rfl ?_
    exact hk5 _ _ ⟨_, (FrLe.cons rfl (FrLe.nil _)), h⟩
  · intro h e5 hk5
    refine Ln rfl rfl rfl rfl (.inl (by rw [e5]; rfl)) ?_
    refine Ln rfl rfl rfl rfl (.inl (by rw [e5]; rfl)) ?_
    refine Ln rfl rfl rfl rfl (.inl (by rw [e5]; rfl)) ?_
    refine Ln rfl rfl rfl rfl (.inl (by rw [e5]; rfl)) ?_
    refine Ln rfl rfl rfl rfl (.inl (by rw [e5]; rfl)) ?_
    refine Ln rfl rfl rfl rfl (.inl (by rw [e5]; rfl)) ?_
    refine Lp (V_pickF rfl (evb e5) rfl) rfl rfl ?_
    exact hk5 _ _ ⟨_, (FrLe.cons rfl (FrLe.nil _)), h⟩
  rintro fr σ ⟨x17_2, hl, h⟩
  unfold j1_stringslite_HasPrefix at h
  refine Lfr hl ?_
  refine Lp (V_asg rfl rfl) rfl rfl ?_
  refine Lnil ?_
  refine thenN ?_
  refine AW.ret ?_
  exact bR1 Tryz.results135 rfl ⟨_, rfl, h⟩

end Go.Proofs.YtfobjidchipdaaaGreatDoor.G

/- Functions as predicate transformers, and the proofs that the code does what they tell: printed by wip/tools/gen.py. -/
namespace Go.Proofs.YtfobjidchipdaaaGreatDoor.G
open Go Go.Proofs.YtfobjidchipdaaaGreatDoor.SL
set_option linter.unusedVariables false
set_option linter.unusedSimpArgs false

def f_ref01_Copy (B : World) (ro : AH) (a0 : Sl) (σ : AH) (Q : Sl → AH → Prop) : Prop :=
 nw ro σ (.cells #[Sl.v a0] 22) fun x4_1 σ =>
 c_ref01_Join B ro (⟨some ⟨x4_1, 0, none⟩, 1, 1⟩ : Sl) σ fun x5_2 σ =>
 Q x5_2 σ

set_option maxRecDepth 100000 in
set_option maxHeartbeats 4000000 in
theorem ref01_Copy_ok {B : World} {ro : AH} {a0 : Sl} {σ : AH} {Q : Sl → AH → Prop} (h : Sep ro σ → f_ref01_Copy B ro a0 σ Q) : c_ref01_Copy B ro a0 σ Q := by
  refine ACalls.of_sep fun hsep => ?_
  replace h := h hsep
  refine ACalls.of_body (args := [Sl.v a0]) Tryz.func12 rfl (by rw [Tryz.ntmps12]; simp) ?_
  rw [Tryz.ntmps12]
  unfold f_ref01_Copy at h
  refine AW.seq ?_
  refine AW.reg ?_
  refine Lp (V_asg rfl rfl) rfl rfl ?_
  refine Lnil ?_
  refine thenN ?_
  refine AW.seq ?_
  refine AW.reg ?_
  refine Lp (V_move rfl rfl) rfl rfl ?_
  refine Ls rfl rfl (X_new (A_bsl (vs := [(0, Sl.v a0)]) (cs := #[Sl.v a0]) rfl Tryz.underlying44 ty22 (by decide) rfl rfl) fun x4_1 g1 g2 => ?_)
  replace h := h x4_1 g1 g2
  refine Ls rfl rfl (X_call rfl Tryz.func48 rfl rfl rfl (ACalls.mono h ?_))
  rintro v σ ⟨x5_2, rfl, h⟩
  refine Lp (V_asg rfl rfl) rfl rfl ?_
  refine Lnil ?_
  refine thenN ?_
  refine AW.ret ?_
  exact bR1 Tryz.results12 rfl ⟨_, rfl, h⟩

def f_ref01_CopyInts (B : World) (ro : AH) (a0 : Sl) (σ : AH) (Q : Sl → AH → Prop) : Prop :=
 ((0 : Int) ≤ (a0.len : Int) ∧ (a0.len : Int) ≤ (a0.len : Int) ∧ ((a0.len : Int) : Int) ≤ 281474976710656 ∧ 8 * ((a0.len : Int) : Int) ≤ 281474976710656) ∧
 nw ro σ (.cells (zeros (.int .i64 0) (Int.toNat (a0.len : Int) * 1)) 3) fun x6_1 σ =>
 awp Tryz.prog ro (Builtin.copy_ #[23, 23] 3 #[Sl.v (⟨some ⟨x6_1, 0, none⟩, Int.toNat (a0.len : Int), Int.toNat (a0.len : Int)⟩ : Sl), Sl.v a0]) (fun v σ => ∃ (x9_2 : Int), v = .int .i64 x9_2 ∧
  Q (⟨some ⟨x6_1, 0, none⟩, Int.toNat (a0.len : Int), Int.toNat (a0.len : Int)⟩ : Sl) σ) σ

set_option maxRecDepth 100000 in
set_option maxHeartbeats 4000000 in
theorem ref01_CopyInts_ok {B : World} {ro : AH} {a0 : Sl} {σ : AH} {Q : Sl → AH → Prop} (h : Sep ro σ → f_ref01_CopyInts B ro a0 σ Q) : c_ref01_CopyInts B ro a0 σ Q := by
  refine ACalls.of_sep fun hsep => ?_
  replace h := h hsep
  refine ACalls.of_body (args := [Sl.v a0]) Tryz.func16 rfl (by rw [Tryz.ntmps16]; simp) ?_
  rw [Tryz.ntmps16]
  unfold f_ref01_CopyInts at h
  refine AW.seq ?_
  refine AW.reg ?_
  refine Lp (V_asg rfl rfl) rfl rfl ?_
  refine Lnil ?_
  refine thenN ?_
  refine AW.seq ?_
  refine AW.reg ?_
  refine Lp (V_move rfl rfl) rfl rfl ?_
  refine Lp (V_lenL rfl rfl Tryz.underlying23 rfl rfl) rfl rfl ?_
  obtain ⟨⟨h0, h1, h2, h3⟩, h⟩ := h
  refine Ls rfl rfl (X_new (A_mks rfl Tryz.underlying23 ty3 rfl rfl h0 h1 h2 h3) fun x6_1 g1 g2 => ?_)
  replace h := h x6_1 g1 g2
  refine Lp (V_asg rfl rfl) rfl rfl ?_
  refine Lnil ?_
  refine thenN ?_
  refine AW.seq ?_
  refine AW.reg ?_
  refine Lp (V_move rfl rfl) rfl rfl ?_
  refine Lp (V_move rfl rfl) rfl rfl ?_
  refine Ls rfl rfl (X_bi (s := Builtin.copy_ #[23, 23] 3 #[Sl.v (⟨some ⟨x6_1, 0, none⟩, Int.toNat (a0.len : Int), Int.toNat (a0.len : Int)⟩ : Sl), Sl.v a0]) rfl rfl (fun _ => rfl) (awp_mono _ h ?_))
  rintro v σ ⟨x9_2, rfl, h⟩
  refine Lnil ?_
  refine thenN ?_
  refine AW.seq ?_
  refine AW.reg ?_
  refine Lp (V_move rfl rfl) rfl rfl ?_
  refine Lp (V_asg rfl rfl) rfl rfl ?_
  refine Lnil ?_
  refine thenN ?_
  refine AW.ret ?_
  exact bR1 Tryz.results16 rfl ⟨_, rfl, h⟩

def f_ref01_Same (B : World) (ro : AH) (a0 : Sl) (a1 : Sl) (σ : AH) (Q : Bool → AH → Prop) : Prop :=
 awp Tryz.prog ro (convert 22 9 (Sl.v a0)) (fun v σ =>
  (∃ (x6_1 : ByteArray), v = .string x6_1 ∧
   awp Tryz.prog ro (convert 22 9 (Sl.v a1)) (fun v σ =>
    (∃ (x8_2 : ByteArray), v = .string x8_2 ∧
     Q (decide (x6_1 = x8_2)) σ)) σ)) σ

set_option maxRecDepth 100000 in
set_option maxHeartbeats 4000000 in
theorem ref01_Same_ok {B : World} {ro : AH} {a0 : Sl} {a1 : Sl} {σ : AH} {Q : Bool → AH → Prop} (h : Sep ro σ → f_ref01_Same B ro a0 a1 σ Q) : c_ref01_Same B ro a0 a1 σ Q := by
  refine ACalls.of_sep fun hsep => ?_
  replace h := h hsep
  refine ACalls.of_body (args := [Sl.v a0, Sl.v a1]) Tryz.func17 rfl (by rw [Tryz.ntmps17]; simp) ?_
  rw [Tryz.ntmps17]
  unfold f_ref01_Same at h
  refine AW.seq ?_
  refine AW.reg ?_
  refine Lp (V_asg rfl rfl) rfl rfl ?_
  refine Lnil ?_
  refine thenN ?_
  refine AW.seq ?_
  refine AW.reg ?_
  refine Lp (V_move rfl rfl) rfl rfl ?_
  refine Ls rfl rfl (X_cvt rfl rfl (awp_mono _ h ?_))
  rintro v σ ⟨x6_1, rfl, h⟩
  refine Lp (V_move rfl rfl) rfl rfl ?_
  refine Ls rfl rfl (X_cvt rfl rfl (awp_mono _ h ?_))
  rintro v σ ⟨x8_2, rfl, h⟩
  refine Lp (V_eqlS rfl rfl rfl) rfl rfl ?_
  refine Lp (V_asg rfl rfl) rfl rfl ?_
  refine Lnil ?_
  refine thenN ?_
  refine AW.ret ?_
  exact bR1 Tryz.results17 rfl ⟨_, rfl, h⟩

def j2_ref01_Join (B : World) (ro : AH) (Q : Sl → AH → Prop) (x3_3 : Sl) (σ : AH) : Prop :=
 Q x3_3 σ

def l4_ref01_Join (B : World) (ro : AH) (a0 : Sl) (Q : Sl → AH → Prop) : (Sl × Int) → AH → ((Sl × Int) → AH → Prop) → Prop := fun ⟨x3_5, x4_6⟩ σ Y4 =>
 if x4_6 < (a0.len : Int) then
  ∃ p15_7 : Addr, a0.a = some p15_7 ∧ (0 : Int) ≤ x4_6 ∧ x4_6 < (a0.len : Int) ∧
  ∃ (x16_8 : Sl), acell ro σ (p15_7.add (Int.toNat x4_6 * 1)) = some (Sl.v x16_8) ∧
  awp Tryz.prog ro (Builtin.append_ #[22, 22] 22 #[Sl.v x3_5, Sl.v x16_8]) (fun v σ => ∃ (x17_9 : Sl), v = Sl.v x17_9 ∧
   Y4 (x17_9, IntKind.i64.wrap (x4_6 + 1)) σ) σ
 else
 j2_ref01_Join B ro Q x3_5 σ

def f_ref01_Join (B : World) (ro : AH) (a0 : Sl) (σ : AH) (Q : Sl → AH → Prop) : Prop :=
 nw ro σ (.cells #[] 5) fun x5_1 σ =>
 lfpD (l4_ref01_Join B ro a0 Q ) ((⟨some ⟨x5_1, 0, none⟩, 0, 0⟩ : Sl), 0) σ

set_option maxRecDepth 100000 in
set_option maxHeartbeats 4000000 in
theorem ref01_Join_ok {B : World} {ro : AH} {a0 : Sl} {σ : AH} {Q : Sl → AH → Prop} (h : Sep ro σ → f_ref01_Join B ro a0 σ Q) : c_ref01_Join B ro a0 σ Q := by
  refine ACalls.of_sep fun hsep => ?_
  replace h := h hsep
  refine ACalls.of_body (args := [Sl.v a0]) Tryz.func48 rfl (by rw [Tryz.ntmps48]; simp) ?_
  rw [Tryz.ntmps48]
  unfold f_ref01_Join at h
  refine AW.seq ?_
  refine AW.reg ?_
  refine Lp (V_asg rfl rfl) rfl rfl ?_
  refine Lnil ?_
  refine thenN ?_
  refine AW.seq ?_
  refine AW.reg ?_
  refine Ls rfl rfl (X_new (A_bsl (vs := []) (cs := #[]) rfl Tryz.underlying22 ty5 (by decide) rfl rfl) fun x5_1 g1 g2 => ?_)
  replace h := h x5_1 g1 g2
  refine Lp (V_asg rfl rfl) rfl rfl ?_
  refine Lnil ?_
  refine thenN ?_
  refine AW.seqJ (fun fr σ => ∃ (x3_3 : Sl), FrLe [(3, Sl.v x3_3)] fr ∧ j2_ref01_Join B ro Q x3_3 σ) ?_ ?_
  · rintro fr σ ⟨x3_3, hl, h⟩
    refine AW.weaken ?_ hl (HLe.refl _)
    unfold j2_ref01_Join at h
    refine AW.seq ?_
    refine AW.reg ?_
    refine Lp (V_move rfl rfl) rfl rfl ?_
    refine Lp (V_asg rfl rfl) rfl rfl ?_
    refine Lnil ?_
    refine thenN ?_
    refine AW.ret ?_
    exact bR1 Tryz.results48 rfl ⟨_, rfl, h⟩
  refine AW.seq ?_
  refine AW.reg ?_
  refine Lp (V_asg rfl rfl) rfl rfl ?_
  refine Lnil ?_
  refine thenN ?_
  refine AW.block ?_
  refine ARound.loop (fr' := [(0, Sl.v a0), (3, Sl.v (⟨some ⟨x5_1, 0, none⟩, 0, 0⟩ : Sl)), (4, .int .i64 0)]) ?_ (FrLe.cons rfl (FrLe.cons rfl (FrLe.cons rfl (FrLe.nil _))))
  refine h (fun ⟨x3_5, x4_6⟩ σ => ARound _ _ _ _ _ _ [(0, Sl.v a0), (3, Sl.v x3_5), (4, .int .i64 x4_6)] σ) ?_
  rintro ⟨x3_5, x4_6⟩ σ Y4 hY4 h
  show AW _ _ _ _ _ _ _ _
  unfold l4_ref01_Join at h
  dsimp only at h
  refine AW.seq ?_
  refine AW.seq ?_
  refine AW.reg ?_
  refine Lp (V_move rfl rfl) rfl rfl ?_
  refine Lp (V_move rfl rfl) rfl rfl ?_
  refine Lp (V_lenL rfl rfl Tryz.underlying44 rfl rfl) rfl rfl ?_
  refine Lp (V_lss rfl rfl rfl) rfl rfl ?_
  refine Lnil ?_
  refine thenN ?_
  refine AW.iff rfl decide_eq_true_iff h (fun h => ?_) (fun h => ?_)
  rotate_left
  · refine AW.exit ?_
    refine thenE ?_
    refine thenE ?_
    refine blockE ?_
    refine thenN ?_
    exact ⟨_, (FrLe.cons rfl (FrLe.nil _)), h⟩
  refine AW.skip ?_
  refine thenN ?_
  refine AW.seq ?_
  refine AW.block ?_
  refine AW.reg ?_
  refine Lp (V_move rfl rfl) rfl rfl ?_
  refine Lp (V_move rfl rfl) rfl rfl ?_
  refine Lp (V_move rfl rfl) rfl rfl ?_
  obtain ⟨p15_7, ha, h0, h1, h⟩ := h
  refine Lp (V_ixA rfl Tryz.underlying44 ty22 (ixL rfl ha) rfl h0 h1) rfl rfl ?_
  obtain ⟨x16_8, hc, h⟩ := h
  refine Ls rfl rfl (X_ld rfl Tryz.underlying22 rfl rfl hc ?_)
  refine Ls rfl rfl (X_bi (s := Builtin.append_ #[22, 22] 22 #[Sl.v x3_5, Sl.v x16_8]) rfl rfl (fun _ => rfl) (awp_mono _ h ?_))
  rintro v σ ⟨x17_9, rfl, h⟩
  refine Lp (V_asg rfl rfl) rfl rfl ?_
  refine Lnil ?_
  refine blockN ?_
  refine thenN ?_
  refine AW.reg ?_
  refine Lp (V_move rfl rfl) rfl rfl ?_
  refine Lp (V_add rfl rfl rfl) rfl rfl ?_
  refine Lp (V_asg rfl rfl) rfl rfl ?_
  refine Lnil ?_
  refine thenN ?_
  refine ARound.head (fr' := [(0, Sl.v a0), (3, Sl.v x17_9), (4, .int .i64 (IntKind.i64.wrap (x4_6 + 1)))]) ?_ (FrLe.cons rfl (FrLe.cons rfl (FrLe.cons rfl (FrLe.nil _))))
  exact hY4 _ _ h

end Go.Proofs.YtfobjidchipdaaaGreatDoor.G

/- Small things that all texts of snapshots and logs use: bytes, strings, clones. -/
namespace Go.Proofs.YtfobjidchipdaaaGreatDoor.Pa
open Go Go.Proofs.YtfobjidchipdaaaGreatDoor.SL Go.Proofs.YtfobjidchipdaaaGreatDoor.G Go.RowKit
set_option linter.unusedSimpArgs false
set_option linter.unusedVariables false
variable {B : World} {ro σ σ' : AH} {tag tag' : Nat → Nat}
theorem inc (j : Nat) (h : j < 4611686018427387904) : IntKind.i64.wrap ((j : Int) + 1) = ((j + 1 : Nat) : Int) := by rw [SL.w64_eq (by omega) (by omega)]; rfl

/-- what the laws read of package variables -/
structure Glob (ro : AH) : Prop where
  tab : ∀ w : World, (∀ b o, ro b = some o → w.heap[b]? = some o) → Lib.TabIs Tryz.prog w "internal/strconv.uint64pow10" .u64 Lib.pow10Tab
theorem sees_ro {w : World} (h : Sees ro σ w) : ∀ b o, ro b = some o → w.heap[b]? = some o := fun b o hb => h b o (by unfold rd; rw [hb])
abbrev vS (l : Str) : Value := .string (S l)

theorem Row.sget {r : Nat} {e : TypeId} {s : Sl} {l : List Str} (h : Row tag σ r e s (l.map vS)) (hs : SL.Sep ro σ) {i : Nat} (hi : i < l.length) :
    ∃ p, s.a = some p ∧ s.len = l.length ∧ ∀ j (hj : j < l.length), acell ro σ (p.add (j * 1)) = some (vS l[j]) := by
  obtain ⟨p, hp, hg⟩ := h.ptr hs (by simp; omega)
  refine ⟨p, hp, by rw [h.len]; simp, fun j hj => hg j _ ?_⟩
  rw [List.getElem?_map, List.getElem?_eq_getElem hj]; rfl

end Go.Proofs.YtfobjidchipdaaaGreatDoor.Pa
namespace Go.Proofs.YtfobjidchipdaaaGreatDoor.Zt
open Go Go.Proofs.YtfobjidchipdaaaGreatDoor.SL Go.Proofs.YtfobjidchipdaaaGreatDoor.G Go.Proofs.YtfobjidchipdaaaGreatDoor.Pa
set_option linter.unusedSimpArgs false
set_option linter.unusedVariables false
variable {B : World} {ro σ σ' : AH} {tag tag' : Nat → Nat}
abbrev vI (x : Int) : Value := .int .i64 x
abbrev vU (c : UInt8) : Value := .int .u8 c.toNat
abbrev ptr (b : Nat) : Value := .pointer (some ⟨b, 0, none⟩)
theorem u9 : Tryz.prog.underlying 9 = some .string := by kernel_rfl
theorem u30 : Tryz.prog.underlying 22 = some (.slice 5) := by kernel_rfl
set_option maxRecDepth 100000 in
theorem clone_ok {s : Sl} {l : List Value} {Q : Sl → AH → Prop} (h : SL.Read ro σ s l) (hs : SL.Sep ro σ) (hl : l.length ≤ 140737488355328) (hv : ∀ v ∈ l, storable v = true) (hQ : ∀ s' tag' σ', (∀ R, Step R ro tag σ tag' σ') → Row tag' σ' 6 5 s' l → Q s' σ') : c_bytes_Clone B ro s σ Q := by
  refine bytes_Clone_ok fun _ => ?_
  unfold f_bytes_Clone
  by_cases h0 : s.a = none
  · rw [if_pos h0]
    rw [h.2.1 h0] at hQ
    exact hQ _ tag σ (fun _ => Step.refl hs) (Row.nil 6 5)
  · rw [if_neg h0]
    refine nw_cells (tag := tag) 6 hs fun b tag1 σ1 st1 r1 => ?_
    have h' : SL.Read ro σ1 s l := h.step (st1 [])
    refine awp_appendN r1 (st1 []).sep h' u30 ty5 rfl hv (by simp; omega) (by decide) fun s' tag2 σ2 st2 r2 => ?_
    exact ⟨s', rfl, hQ s' tag2 σ2 (fun R => (st1 R).trans (st2 R (.inl rfl))) r2⟩

theorem u5'' : Tryz.prog.underlying 5 = some (.int .u8) := by kernel_rfl
theorem forIn_bytes {P : Program} {f : Value → ByteArray → Sem (ForInStep ByteArray)} (hf : ∀ (c : UInt8) (r : ByteArray), f (vU c) r = Sem.pure (.yield (r.push c))) :
    ∀ (l : Str) (s : Str), (forIn (l.map vU) (S s) f : Sem ByteArray) = Sem.pure (S (s ++ l)) := by
  intro l
  induction l with
  | nil => intro s; simp; rfl
  | cons c l ih =>
    intro s
    simp only [List.map_cons, List.forIn_cons]
    rw [hf]
    show (match ForInStep.yield ((S s).push c) with | _ => _ : Sem ByteArray) = _
    have e : (S s).push c = S (s ++ [c]) := by unfold S; simp [ByteArray.push]
    show forIn (l.map vU) ((S s).push c) f = _
    rw [e, ih]
    simp
theorem awp_b2s {s : Sl} {l : Str} {K : Value → AH → Prop} (h : SL.Read ro σ s (l.map vU)) (hK : K (.string (S l)) σ) : awp Tryz.prog ro (convert 22 9 (Sl.v s)) K σ := by
  unfold convert
  simp only [bind_def]
  rw [awp_underlying u30, awp_underlying u9]
  simp only [Sl.v]
  rw [awp_underlying u5'']
  simp only
  unfold Conv.bytesToString
  cases hs : s.a with
  | none =>
    have : l = [] := by have := h.2.1 hs; simpa using this
    subst this
    exact hK
  | some p =>
    simp only
    rw [h.1]
    refine (awp_bind _ _).2 ?_
    refine awp_loadCells (l.map vU) 0 #[] (cellsAt_of 0 fun j v hj => by rw [Nat.zero_add]; exact h.2.2 p hs j v hj) ?_
    simp only [List.nil_append, List.forIn_toArray, Array.empty_append]
    refine (awp_bind _ _).2 ?_
    refine cast (congrArg (fun z => awp Tryz.prog ro z _ σ) (forIn_bytes (P := Tryz.prog) ?_ l [])).symm ?_
    · intro c r
      simp only [vU]
      show Sem.pure (ForInStep.yield (r.push (UInt8.ofNat (Int.toNat (c.toNat : Int))))) = _
      rw [Int.toNat_natCast]; simp
    · exact hK
set_option maxRecDepth 100000 in
theorem same_ok {a b : Sl} {x y : Str} {Q : Bool → AH → Prop} (ha : SL.Read ro σ a (x.map vU)) (hb : SL.Read ro σ b (y.map vU)) (hQ : Q (decide (x = y)) σ) : c_ref01_Same B ro a b σ Q := by
  refine ref01_Same_ok fun _ => ?_
  unfold f_ref01_Same
  refine awp_b2s ha ⟨S x, rfl, awp_b2s hb ⟨S y, rfl, ?_⟩⟩
  rw [show decide (S x = S y) = decide (x = y) from by simp only [S_inj]]
  exact hQ
end Go.Proofs.YtfobjidchipdaaaGreatDoor.Zt

/- Rows of the first form, with listed variables, in a world of its right shape; arguments opened: bytes, whole numbers. -/
namespace Go.Proofs.YtfobjidchipdaaaGreatDoor.Zt
open Go Go.Proofs.YtfobjidchipdaaaGreatDoor.SL Go.ChangeShapes Go.WideShapes Go.ChangeAt Go.RowKit
set_option linter.unusedVariables false
set_option linter.unusedSimpArgs false

theorem wrap {H : Type} {enc : TypeId × Value → H} {a : Assume} {C : Checked} {os : Os} {f : FuncId} {fn : Func} {s : ChangeSpec} {conds : List PathCond} {apart fresh handsOn again : Bool} {X : World → Array Value → Prop}
    (hX : ∀ (w w' : World) (args : Array Value), w.heap = w'.heap → X w args → X w' args)
    (own : ownKnob C.prog.godebug = none) (started : os.Started) (noInit : C.prog.inits.idxOf? f = none) (hfn : C.prog.funcs[f]? = some fn)
    (witness : ∃ (w : World) (tape : Tape) (i : Input), w.os = os ∧ (w.forCall tape i).Shaped C.prog ∧ i.vars = [] ∧ Input.okWide C.prog (w.forCall tape i) .any w.heap.size f i ∧
      ((s.pre enc C.prog fn conds apart (w.forCall tape i).memory i.args ∧ X (w.forCall tape i).memory i.args) ∧ sizedMet enc C.prog fn (OpenSpec.ofChange s) apart (w.forCall tape i).memory i.args) ∧ a.holds C.prog (lone (Frame.enter C.prog f i.args .normal) [] (w.forCall tape i)))
    (contract : ∀ (W : World) (base : Nat) (args : Array Value) (ds gs : List (DataW H)) (before : List MemPlace),
      (∀ (j : Nat) t v, fn.params[j]? = some t → args[j]? = some v → Value.okWide C.prog W .any base t v) →
      DataW.Whole enc C.prog fn.params.toList s.vars apart W args.toList ds gs before →
      conds.all (PathCond.test C.prog ⟨fn.params.toList, ds, s.plain.varTypes C.prog, gs⟩) = true →
      (DataW.weightsEach C.prog (fn.params.toList ++ s.plain.varTypes C.prog) (ds ++ gs)).all (· ≤ reachBytes) = true → X W args → W.ShapedOpen C.prog →
      a.holds C.prog (lone (Frame.enter C.prog f args .normal) [] W) →
      Calls C.prog f args W fun e W' => ∃ v, e = .returned v ∧ s.post enc C.prog fn apart fresh handsOn again W args v W') :
    ReturnsInHanded a C os f .any (fun w args => (s.pre enc C.prog fn conds apart w args ∧ X w args) ∧ sizedMet enc C.prog fn (OpenSpec.ofChange s) apart w args) (s.post enc C.prog fn apart fresh handsOn again) := by
  refine returnsInHanded_of_calls own started noInit witness ?_
  intro w tape i _ hsh _ hok hpre hholds
  obtain ⟨_, _, _, fn', hfn', _, _, _, _, hval⟩ := hok
  have e : fn' = fn := Option.some.inj (hfn'.symm.trans hfn)
  subst e
  obtain ⟨⟨⟨ds, gs, before, hw, hc⟩, hx⟩, hz⟩ := hpre
  have hw' := DataW.Whole.of_heap (w' := w.forCall tape i) (by rfl) hw
  refine (contract (w.forCall tape i) w.heap.size i.args ds gs before hval hw' hc (hz.weights hw) (hX _ _ _ (by rfl) hx) hsh hholds).mono fun e W' ⟨v, he, hp⟩ => ?_
  subst he
  exact ChangeSpec.post_blind hp

theorem var_sees {W w : World} (h : ∀ b o, all W b = some o → w.heap[b]? = some o) {n : String} {cs : Array Value} (hv : W.var? Tryz.prog n = some cs) : w.var? Tryz.prog n = some cs := by
  unfold World.var? at hv ⊢
  obtain ⟨g, hg, hx⟩ := Option.bind_eq_some_iff.1 hv
  rw [hg]
  show (match w.heap[g]? with | some (.cells cs _ _) => some cs | _ => none) = _
  cases hh : W.heap[g]? with
  | none => rw [hh] at hx; cases hx
  | some o => rw [h g o hh]; rw [hh] at hx; exact hx
theorem trod_lt' {H : Type} {enc : TypeId × Value → H} {W : World} {t : TypeId} {v : Value} {d : DataW H} {p : List MemPlace} (h : DataW.Trod enc Tryz.prog W 0 (fun _ => true) true t v d p) : ∀ x ∈ p, x.block < W.heap.size := by
  obtain ⟨m, hm⟩ := h; exact DataW.trod_lt m _ _ _ hm

abbrev LAID : List (String × DataW Unit) := Rows.snapKeepsRow.laid
theorem gPow : Tryz.prog.globalNamed "internal/strconv.uint64pow10" = some 4 := by kernel_rfl
theorem eTab : Tryz.prog.underlying 217 = some (.int .u64) := by kernel_rfl
theorem tPow : (Tryz.prog.globals[4]?).map (·.type) = some 245 := by kernel_rfl
set_option maxRecDepth 100000 in
theorem glob_of {W : World} (hL : laidMetH Tryz.prog LAID W) : Pa.Glob (all W) := by
  rw [MakeChecks.laidMetH_plain _ _ _ (by kernel_rfl)] at hL
  obtain ⟨ps, ⟨g0, t0, cs0, f0, p0, q0, hg0, ht0, hv0, hd0, ⟨g1, t1, cs1, f1, p1, q1, hg1, ht1, hv1, hd1, ⟨g2, t2, cs2, f2, p2, q2, hg2, ht2, hv2, hd2, _, _⟩, _⟩, _⟩, _, _⟩ := hL
  have htab : Lib.TabIs Tryz.prog W "internal/strconv.uint64pow10" .u64 Lib.pow10Tab := by
    obtain rfl := Option.some.inj (gPow.symm.trans hg2)
    obtain rfl := Option.some.inj (tPow.symm.trans ht2)
    unfold Lib.TabIs
    have hd2' : DataW.trod _ Tryz.prog W 0 _ false f2 245 cs2.toList = some (Lib.tabData .u64 Lib.pow10Tab, p2) := hd2
    rw [hv2, ← Lib.cells_of_tab Tryz.underlying245 eTab (by kernel_rfl) (by kernel_rfl) hd2']
  exact ⟨fun w hw => var_sees hw htab⟩
theorem own : ownKnob Tryz.prog.godebug = none := by kernel_rfl
theorem laidOut : laidOutB Tryz.prog = true := by kernel_rfl
theorem c5 : Tryz.prog.cellsOf 5 = 1 := by kernel_rfl
theorem c3 : Tryz.prog.cellsOf 3 = 1 := by kernel_rfl
theorem c22 : Tryz.prog.cellsOf 22 = 1 := by kernel_rfl
theorem c23 : Tryz.prog.cellsOf 23 = 1 := by kernel_rfl
theorem b5 : Tryz.prog.bytesOf 5 = 1 := by kernel_rfl
theorem b3 : Tryz.prog.bytesOf 3 = 8 := by kernel_rfl
theorem u5 : Tryz.prog.underlying 5 = some (.int .u8) := by kernel_rfl
theorem u3' : Tryz.prog.underlying 3 = some (.int .i64) := by kernel_rfl
theorem u4' : Tryz.prog.underlying 4 = some .bool := by kernel_rfl
theorem u23 : Tryz.prog.underlying 23 = some (.slice 3) := by kernel_rfl
/-- a slice of elements of one cell -/
theorem cells_of {α : Type} {W : World} {H : Type} {enc : TypeId × Value → H} {t e b : Nat} {f : α → Value} (z : α) (ht : Tryz.prog.underlying t = some (.slice e)) (he : Tryz.prog.cellsOf e = 1) (hb : Tryz.prog.bytesOf e = b) (hf : ∀ u, SL.Arg Tryz.prog W H enc e [u] → ∃ c, u = f c) {a : Option Addr} {len cap : Nat}
    (h : SL.Arg Tryz.prog W H enc t [.slice a len cap]) : ∃ d : List α, d.length * b ≤ 140737488351232 ∧ SL.Read (all W) (fun _ => none) ⟨a, len, cap⟩ (d.map f) ∧ len ≤ cap := by
  rcases h.slice ht with ⟨rfl, rfl, rfl⟩ | ⟨x, rfl, hl, hbb, hel⟩
  · exact ⟨[], by simp, ⟨rfl, fun _ => rfl, fun p h => by cases h⟩, Nat.le_refl _⟩
  · rw [he] at hel
    rw [hb] at hbb
    have key : ∀ j : Nat, ∃ c : α, j < len → W.cell? (x.add j) = some (f c) := fun j => by
      by_cases hj : j < len
      · obtain ⟨cs, h1, h2, h3⟩ := hel j hj
        match cs, h1 with
        | [u], _ =>
          obtain ⟨c, rfl⟩ := hf u h3
          have := h2 0 (by omega)
          rw [Nat.mul_one, add_zero] at this
          exact ⟨c, fun _ => this⟩
      · exact ⟨z, fun h => absurd h hj⟩
    obtain ⟨g, hg⟩ := Classical.axiomOfChoice key
    refine ⟨(List.range len).map g, ?_, ⟨by simp, (fun h => by cases h), fun p hp i v hv => ?_⟩, hl⟩
    · simp [reachBytes] at hbb ⊢
      exact Nat.le_trans (Nat.mul_le_mul_right b hl) hbb
    cases hp
    have hi : i < len := by
      rcases Nat.lt_or_ge i len with h | h
      · exact h
      · rw [List.getElem?_eq_none (by simpa using h)] at hv; cases hv
    rw [List.getElem?_map, List.getElem?_map, List.getElem?_range hi] at hv
    cases hv
    exact all_cell _ (hg i hi)
theorem ints_of {W : World} {H : Type} {enc : TypeId × Value → H} {a : Option Addr} {len cap : Nat} (h : SL.Arg Tryz.prog W H enc 23 [.slice a len cap]) : ∃ d : List Int, d.length ≤ 17592186043904 ∧ SL.Read (all W) (fun _ => none) ⟨a, len, cap⟩ (d.map vI) := by
  obtain ⟨d, h1, h2, _⟩ := cells_of (f := vI) 0 u23 c3 b3 (fun u hu => Arg.i64 u3' hu) h
  exact ⟨d, by omega, h2⟩
theorem sl_of {W : World} {H : Type} {enc : TypeId × Value → H} {t e : TypeId} {v : Value} (ht : Tryz.prog.underlying t = some (.slice e)) (h : SL.Arg Tryz.prog W H enc t [v]) : ∃ a len cap, v = .slice a len cap := by
  obtain ⟨fuel, d, ps, hf, _⟩ := h
  rcases Go.Deep.open_slice ht hf with ⟨e, _⟩ | ⟨x, l, c, _, _, _, _, e, _⟩
  · simp at e; exact ⟨_, _, _, e⟩
  · simp at e; exact ⟨_, _, _, e⟩
end Go.Proofs.YtfobjidchipdaaaGreatDoor.Zt

/- Steps that change blocks of several classes of roles. Generic over any program. -/
namespace Go.Proofs.YtfobjidchipdaaaGreatDoor.SL
open Go
set_option linter.unusedVariables false
variable {P : Program} {B : World} {ro σ σ' : AH} {tag tag' : Nat → Nat}
def StepS (C : List Nat) (ro : AH) (tag : Nat → Nat) (σ : AH) (tag' : Nat → Nat) (σ' : AH) : Prop := ∃ R : List Nat, (∀ x ∈ R, x % 64 ∈ C) ∧ Step R ro tag σ tag' σ'
theorem Step.s {C R : List Nat} (h : Step R ro tag σ tag' σ') (hR : ∀ x ∈ R, x % 64 ∈ C) : StepS C ro tag σ tag' σ' := ⟨R, hR, h⟩
theorem StepC.s {C : List Nat} {c : Nat} (h : StepC c ro tag σ tag' σ') (hc : c ∈ C) : StepS C ro tag σ tag' σ' := by
  obtain ⟨R, h1, h2⟩ := h
  exact ⟨R, fun x hx => by rw [h1 x hx]; exact hc, h2⟩
theorem StepS.sep {C : List Nat} (h : StepS C ro tag σ tag' σ') : Sep ro σ' := by obtain ⟨_, _, h⟩ := h; exact h.sep
theorem StepS.refl {C : List Nat} (h : Sep ro σ) : StepS C ro tag σ tag σ := ⟨[], by simp, Step.refl h⟩
theorem StepS.trans {C : List Nat} {tag'' : Nat → Nat} {σ'' : AH} (h : StepS C ro tag σ tag' σ') (k : StepS C ro tag' σ' tag'' σ'') : StepS C ro tag σ tag'' σ'' := by
  obtain ⟨R, h1, h2⟩ := h
  obtain ⟨R', k1, k2⟩ := k
  refine ⟨R ++ R', fun x hx => ?_, (h2.mono fun r hr => by simp [hr]).trans (k2.mono fun r hr => by simp [hr])⟩
  rcases List.mem_append.1 hx with h | h
  · exact h1 x h
  · exact k1 x h
theorem StepS.mono {C D : List Nat} (h : StepS C ro tag σ tag' σ') (hd : ∀ c ∈ C, c ∈ D) : StepS D ro tag σ tag' σ' := by
  obtain ⟨R, h1, h2⟩ := h
  exact ⟨R, fun x hx => hd _ (h1 x hx), h2⟩
theorem Row.keepS {C : List Nat} {r : Nat} {e : TypeId} {s : Sl} {l : List Value} (h : Row tag σ r e s l) (k : StepS C ro tag σ tag' σ') (hr : r % 64 ∉ C) : Row tag' σ' r e s l := by
  obtain ⟨R, h1, h2⟩ := k
  exact h.keep h2 fun m => hr (h1 _ m)
theorem StepS.back {C : List Nat} {b : Nat} {τ : AH} (h : StepS C (join ro (one σ b)) tag (del σ b) tag' τ) (hs : Sep ro σ) (hd : Disj (one σ b) τ) (hb : ∃ o, σ b = some o) : StepS C ro tag σ (setTag tag' b (tag b)) (join (one σ b) τ) := by
  obtain ⟨R, h1, h2⟩ := h
  exact ⟨R, h1, h2.back hs hd hb⟩
end Go.Proofs.YtfobjidchipdaaaGreatDoor.SL

/- All blocks of some roles are lent. Generic over any program. -/
namespace Go.Proofs.YtfobjidchipdaaaGreatDoor.SL
open Go
set_option linter.unusedVariables false
variable {P : Program} {B : World} {ro σ σ' : AH} {tag tag' : Nat → Nat}
def inR (tag : Nat → Nat) (L : List Nat) (σ : AH) : AH := fun c => if tag c ∈ L then σ c else none
def outR (tag : Nat → Nat) (L : List Nat) (σ : AH) : AH := fun c => if tag c ∈ L then none else σ c
def tagB (tag tag1 : Nat → Nat) (L : List Nat) (σ : AH) : Nat → Nat := fun c => if (inR tag L σ c).isSome then tag c else tag1 c
variable {L : List Nat}
theorem lent_roles (tag : Nat → Nat) (L : List Nat) {K : AH → AH → Prop} (h : K (inR tag L σ) (outR tag L σ)) : lent σ K := by
  refine ⟨_, _, fun c o hc => ?_, ?_, h⟩
  · unfold inR at hc; unfold outR
    split at hc
    · rename_i e; rw [if_pos e]
    · cases hc
  · funext c; unfold join inR outR
    by_cases e : tag c ∈ L
    · simp only [e, if_true]; cases σ c <;> rfl
    · simp [e]
theorem rd_lentR (b : Nat) (hs : Sep ro σ) : rd (join ro (inR tag L σ)) (outR tag L σ) b = rd ro σ b := by
  unfold rd join inR outR
  cases h : ro b with
  | some o => rfl
  | none =>
    simp only
    by_cases e : tag b ∈ L
    · simp only [e, if_true]; cases σ b <;> rfl
    · simp [e]
theorem Sep.lentR (hs : Sep ro σ) : Sep (join ro (inR tag L σ)) (outR tag L σ) := by
  intro c o hc
  unfold outR at hc
  split at hc
  · cases hc
  · rename_i e
    unfold join inR
    rw [hs c o hc]; simp [e]
theorem Row.outR {r : Nat} {e : TypeId} {s : Sl} {l : List Value} (h : Row tag σ r e s l) (hr : r ∉ L) : Row tag (SL.outR tag L σ) r e s l := by
  rcases h with h | ⟨c, cs, ha, ht, hs, hx⟩
  · exact .inl h
  · refine .inr ⟨c, cs, ha, ht, ?_, hx⟩
    unfold SL.outR; rw [if_neg (by rw [ht]; exact hr)]; exact hs
theorem MapIs.outR {r b : Nat} {m : KV} (h : MapIs tag σ r b m) (hr : r ∉ L) : MapIs tag (SL.outR tag L σ) r b m := by
  obtain ⟨es, clock, hb, x⟩ := h.obj
  exact ⟨h.tg, es, clock, by unfold SL.outR; rw [if_neg (by rw [h.tg]; exact hr)]; exact hb, x⟩
theorem acell_lentR {a : Addr} (hs : Sep ro σ) : acell (join ro (inR tag L σ)) (outR tag L σ) a = acell ro σ a := by
  unfold acell; rw [rd_lentR _ hs]
theorem Row.lendR {r : Nat} {e : TypeId} {s : Sl} {l : List Value} {p : Addr} {τ : AH} {i : Nat} {v : Value} (h : Row tag σ r e s l) (hs : Sep ro σ) (hr : r ∈ L) (hp : s.a = some p) (hv : l[i]? = some v) : acell (join ro (inR tag L σ)) τ (p.add i) = some v := by
  rcases h with ⟨e, _⟩ | ⟨c, cs, ha, ht, hb, hln, hc, hle, hg⟩
  · rw [e] at hp; cases hp
  · rw [ha] at hp; cases hp
    have hi : i < l.length := by
      rcases Nat.lt_or_ge i l.length with h | h
      · exact h
      · rw [List.getElem?_eq_none h] at hv; cases hv
    rw [add_add, Nat.zero_add]
    have : join ro (inR tag L σ) c = some (.cells cs e) := by unfold join inR; rw [hs c _ hb]; simp [ht, hr, hb]
    unfold acell rd
    simp only [this, cellOf]
    rw [← hv, ← hg i hi]; rfl
theorem Read.lentR {s : Sl} {l : List Value} (h : Read ro σ s l) (hs : Sep ro σ) : Read (join ro (inR tag L σ)) (SL.outR tag L σ) s l :=
  ⟨h.1, h.2.1, fun p hp i v hv => by rw [acell_lentR hs]; exact h.2.2 p hp i v hv⟩
theorem inR_some {c : Nat} {o : Obj} (h : inR tag L σ c = some o) : tag c ∈ L ∧ σ c = some o := by
  unfold inR at h
  split at h
  · exact ⟨by assumption, h⟩
  · cases h
theorem tagB_out {tag1 : Nat → Nat} {c : Nat} (h : inR tag L σ c = none) : tagB tag tag1 L σ c = tag1 c := by unfold tagB; rw [h]; rfl
theorem tagB_in {tag1 : Nat → Nat} {c : Nat} {o : Obj} (h : inR tag L σ c = some o) : tagB tag tag1 L σ c = tag c := by unfold tagB; rw [h]; rfl
theorem Row.backR {tag1 : Nat → Nat} {τ : AH} {r : Nat} {e : TypeId} {s : Sl} {l : List Value} (h : Row tag1 τ r e s l) (hd : Disj (inR tag L σ) τ) : Row (tagB tag tag1 L σ) (join (inR tag L σ) τ) r e s l := by
  rcases h with h | ⟨c, cs, ha, ht, hs, hx⟩
  · exact .inl h
  · have hn : inR tag L σ c = none := by
      cases e : inR tag L σ c with
      | none => rfl
      | some o => have := hd c o e; rw [hs] at this; cases this
    exact .inr ⟨c, cs, ha, by rw [tagB_out hn]; exact ht, by unfold join; rw [hn]; exact hs, hx⟩
theorem MapIs.backR {tag1 : Nat → Nat} {τ : AH} {r b : Nat} {m : KV} (h : MapIs tag1 τ r b m) (hd : Disj (inR tag L σ) τ) : MapIs (tagB tag tag1 L σ) (join (inR tag L σ) τ) r b m := by
  obtain ⟨es, clock, hb, x⟩ := h.obj
  have hn : inR tag L σ b = none := by
    cases e : inR tag L σ b with
    | none => rfl
    | some o => have := hd b o e; rw [hb] at this; cases this
  exact ⟨by rw [tagB_out hn]; exact h.tg, es, clock, by unfold join; rw [hn]; exact hb, x⟩
theorem Step.backR {tag1 : Nat → Nat} {R : List Nat} {τ : AH} (h : Step R (join ro (inR tag L σ)) tag (outR tag L σ) tag1 τ) (hs : Sep ro σ) (hd : Disj (inR tag L σ) τ) : Step R ro tag σ (tagB tag tag1 L σ) (join (inR tag L σ) τ) := by
  have split' : ∀ c o, σ c = some o → inR tag L σ c = some o ∨ (inR tag L σ c = none ∧ outR tag L σ c = some o) := fun c o hc => by
    unfold inR outR
    by_cases e : tag c ∈ L
    · left; rw [if_pos e]; exact hc
    · right; rw [if_neg e, if_neg e]; exact ⟨rfl, hc⟩
  refine ⟨fun c o hc hn => ?_, fun c o hc => ?_, fun c o hc => ?_⟩
  · rcases split' c o hc with h1 | ⟨h1, h2⟩
    · exact ⟨tagB_in h1, by unfold join; rw [h1]⟩
    · obtain ⟨t1, t2⟩ := h.keep c o h2 hn
      exact ⟨by rw [tagB_out h1]; exact t1, by unfold join; rw [h1]; exact t2⟩
  · rcases split' c o hc with h1 | ⟨h1, h2⟩
    · exact ⟨tagB_in h1, o, by unfold join; rw [h1]⟩
    · obtain ⟨t1, o', t2⟩ := h.old c o h2
      exact ⟨by rw [tagB_out h1]; exact t1, o', by unfold join; rw [h1]; exact t2⟩
  · rcases join_some hc with h1 | ⟨h1, h2⟩
    · exact hs c o (inR_some h1).2
    · exact (join_none (h.sep c o h2)).1
theorem StepS.backR {tag1 : Nat → Nat} {C : List Nat} {τ : AH} (h : StepS C (join ro (inR tag L σ)) tag (outR tag L σ) tag1 τ) (hs : Sep ro σ) (hd : Disj (inR tag L σ) τ) : StepS C ro tag σ (tagB tag tag1 L σ) (join (inR tag L σ) τ) := by
  obtain ⟨R, h1, h2⟩ := h
  exact ⟨R, h1, h2.backR hs hd⟩
end Go.Proofs.YtfobjidchipdaaaGreatDoor.SL

/- Rows in blocks that nobody changes, wherever they begin: read only, or owned. Generic over any program. -/
namespace Go.Proofs.YtfobjidchipdaaaGreatDoor.SL
open Go
set_option linter.unusedVariables false
variable {P : Program} {B : World} {ro σ σ' : AH} {tag tag' : Nat → Nat} {L : List Nat}
/-- the cells of a slice, in an object of one role -/
def Held (tag : Nat → Nat) (σ : AH) (q : Nat) (s : Sl) (l : List Value) : Prop :=
  s.len = l.length ∧ ((s.a = none ∧ l = []) ∨ ∃ p o, s.a = some p ∧ tag p.block = q ∧ σ p.block = some o ∧ ∀ i v, l[i]? = some v → cellOf (p.add i) (some o) = some v)
theorem Held.nil (q : Nat) : Held tag σ q ⟨none, 0, 0⟩ [] := ⟨rfl, .inl ⟨rfl, rfl⟩⟩
theorem add_block (p : Addr) (i : Nat) : (p.add i).block = p.block := by
  cases i with
  | zero => rfl
  | succ i => rfl
theorem Held.keep {R : List Nat} {q : Nat} {s : Sl} {l : List Value} (h : Held tag σ q s l) (k : Step R ro tag σ tag' σ') (hq : q ∉ R) : Held tag' σ' q s l := by
  obtain ⟨h1, h2 | ⟨p, o, h2, h3, h4, h5⟩⟩ := h
  · exact ⟨h1, .inl h2⟩
  · obtain ⟨e1, e2⟩ := k.keep _ _ h4 (by rw [h3]; exact hq)
    exact ⟨h1, .inr ⟨p, o, h2, e1.trans h3, e2, h5⟩⟩
theorem Held.keepS {C : List Nat} {q : Nat} {s : Sl} {l : List Value} (h : Held tag σ q s l) (k : StepS C ro tag σ tag' σ') (hq : q % 64 ∉ C) : Held tag' σ' q s l := by
  obtain ⟨R, h1, h2⟩ := k
  exact h.keep h2 fun m => hq (h1 _ m)
theorem Held.read {q : Nat} {s : Sl} {l : List Value} (h : Held tag σ q s l) (hs : Sep ro σ) : Read ro σ s l := by
  obtain ⟨h1, h2 | ⟨p, o, h2, h3, h4, h5⟩⟩ := h
  · exact ⟨h1, fun _ => h2.2, fun p hp => by rw [h2.1] at hp; cases hp⟩
  · refine ⟨h1, (fun e => by rw [h2] at e; cases e), fun p' hp' i v hv => ?_⟩
    rw [h2] at hp'; cases hp'
    unfold acell rd
    rw [add_block, hs _ _ h4, h4]
    exact h5 i v hv
theorem Row.held {r : Nat} {e : TypeId} {s : Sl} {l : List Value} (h : Row tag σ r e s l) : Held tag σ r s l := by
  rcases h with ⟨rfl, rfl⟩ | ⟨b, cs, ha, ht, hb, hln, hc, hle, hg⟩
  · exact Held.nil r
  · refine ⟨hln, .inr ⟨_, _, ha, ht, hb, fun i v hv => ?_⟩⟩
    have hi : i < l.length := by
      rcases Nat.lt_or_ge i l.length with h | h
      · exact h
      · rw [List.getElem?_eq_none h] at hv; cases hv
    rw [add_add, Nat.zero_add]
    simp only [cellOf]
    rw [← hv, ← hg i hi]; rfl
theorem Held.outR {q : Nat} {s : Sl} {l : List Value} (h : Held tag σ q s l) (hq : q ∉ L) : Held tag (SL.outR tag L σ) q s l := by
  obtain ⟨h1, h2 | ⟨p, o, h2, h3, h4, h5⟩⟩ := h
  · exact ⟨h1, .inl h2⟩
  · exact ⟨h1, .inr ⟨p, o, h2, h3, by unfold SL.outR; rw [if_neg (by rw [h3]; exact hq)]; exact h4, h5⟩⟩
theorem Held.backR {tag1 : Nat → Nat} {τ : AH} {q : Nat} {s : Sl} {l : List Value} (h : Held tag1 τ q s l) (hd : Disj (inR tag L σ) τ) : Held (tagB tag tag1 L σ) (join (inR tag L σ) τ) q s l := by
  obtain ⟨h1, h2 | ⟨p, o, h2, h3, h4, h5⟩⟩ := h
  · exact ⟨h1, .inl h2⟩
  · have hn : inR tag L σ p.block = none := by
      cases e : inR tag L σ p.block with
      | none => rfl
      | some o => have := hd _ o e; rw [h4] at this; cases this
    exact ⟨h1, .inr ⟨p, o, h2, by rw [tagB_out hn]; exact h3, by unfold join; rw [hn]; exact h4, h5⟩⟩
theorem Held.del {q b : Nat} {s : Sl} {l : List Value} (h : Held tag σ q s l) (hb : tag b ≠ q) : Held tag (SL.del σ b) q s l := by
  obtain ⟨h1, h2 | ⟨p, o, h2, h3, h4, h5⟩⟩ := h
  · exact ⟨h1, .inl h2⟩
  · exact ⟨h1, .inr ⟨p, o, h2, h3, by unfold SL.del; rw [if_neg (fun e => hb (by rw [← e]; exact h3))]; exact h4, h5⟩⟩
/-- data: among what is only read, or held in blocks of the role 6 -/
def Data (ro : AH) (tag : Nat → Nat) (σ : AH) (s : Sl) (l : List Value) : Prop := Read ro (fun _ => none) s l ∨ Held tag σ 6 s l
theorem Data.len {s : Sl} {l : List Value} (h : Data ro tag σ s l) : s.len = l.length := by
  rcases h with h | h
  · exact h.1
  · exact h.1
theorem Data.read {s : Sl} {l : List Value} (h : Data ro tag σ s l) (hs : Sep ro σ) : Read ro σ s l := by
  rcases h with h | h
  · exact h.keep
  · exact h.read hs
theorem Data.keep {R : List Nat} {s : Sl} {l : List Value} (h : Data ro tag σ s l) (k : Step R ro tag σ tag' σ') (h6 : 6 ∉ R) : Data ro tag' σ' s l := by
  rcases h with h | h
  · exact .inl h
  · exact .inr (h.keep k h6)
theorem Data.keepS {C : List Nat} {s : Sl} {l : List Value} (h : Data ro tag σ s l) (k : StepS C ro tag σ tag' σ') (h6 : 6 ∉ C) : Data ro tag' σ' s l := by
  rcases h with h | h
  · exact .inl h
  · exact .inr (h.keepS k h6)
theorem read_more {ψ : AH} {s : Sl} {l : List Value} (h : Read ro (fun _ => none) s l) : Read (join ro ψ) (fun _ => none) s l := by
  refine ⟨h.1, h.2.1, fun p hp i v hv => ?_⟩
  have := h.2.2 p hp i v hv
  unfold acell rd at this ⊢
  cases hr : ro (p.add i).block with
  | none => rw [hr] at this; simp [cellOf] at this
  | some o => rw [hr] at this; unfold join; rw [hr]; exact this
theorem Data.outR {s : Sl} {l : List Value} (h : Data ro tag σ s l) (h6 : 6 ∉ L) : Data (join ro (inR tag L σ)) tag (SL.outR tag L σ) s l := by
  rcases h with h | h
  · exact .inl (read_more h)
  · exact .inr (h.outR h6)
theorem Data.del {b : Nat} {s : Sl} {l : List Value} (h : Data ro tag σ s l) (hb : tag b ≠ 6) : Data (join ro (one σ b)) tag (SL.del σ b) s l := by
  rcases h with h | h
  · exact .inl (read_more h)
  · exact .inr (h.del hb)
end Go.Proofs.YtfobjidchipdaaaGreatDoor.SL

/- Texts to bytes; slices.ContainsFunc over bytes; strings.CutPrefix. -/
namespace Go.Proofs.YtfobjidchipdaaaGreatDoor.Zt
open Go Go.Proofs.YtfobjidchipdaaaGreatDoor.SL Go.Proofs.YtfobjidchipdaaaGreatDoor.G Go.Proofs.YtfobjidchipdaaaGreatDoor.Pa
set_option linter.unusedSimpArgs false
set_option linter.unusedVariables false
set_option maxRecDepth 100000
variable {B : World} {ro σ σ' : AH} {tag tag' : Nat → Nat}
theorem awp_s2b {l : Str} {K : Value → AH → Prop} (hs : SL.Sep ro σ) (hK : ∀ s tag' σ', (∀ R, Step R ro tag σ tag' σ') → Held tag' σ' 6 s (l.map vU) → K (Sl.v s) σ') : awp Tryz.prog ro (convert 9 22 (.string (S l))) K σ := by
  unfold convert
  simp only [bind_def]
  rw [awp_underlying u9, awp_underlying u30]
  simp only
  rw [awp_underlying u5'']
  simp only
  unfold Conv.stringToBytes
  simp only [bind_def]
  refine awp_choose rfl fun n => ?_
  have hsz : (S l).size = l.length := by rw [← L_len, L_S]
  have hcut : (S l).size ≤ (Question.appendCap (S l).size 0 5).cut n := by simp only [Question.cut]; omega
  generalize (Question.appendCap (S l).size 0 5).cut n = N at hcut
  show ∀ b, ro b = none → σ b = none → awp Tryz.prog ro (Sem.bind (markStringish ⟨b, 0, none⟩) fun _ => Sem.pure (Value.slice (some ⟨b, 0, none⟩) (S l).size N)) K (upd σ b _)
  intro b hro hb
  unfold markStringish
  show ∃ o, rd ro (upd σ b _) b = some o ∧ _
  refine ⟨_, by unfold rd; rw [hro]; exact upd_same _ _ _, ?_⟩
  show (1 : Nat) ≠ 0 ∧ ∃ o, upd σ b _ b = some o ∧ _
  refine ⟨by decide, _, upd_same _ _ _, ?_⟩
  rw [upd_upd]
  refine hK ⟨some ⟨b, 0, none⟩, (S l).size, N⟩ (setTag tag b 6) _ (fun _ => Step.fresh hs hro hb) ⟨by simp [hsz], .inr ⟨_, _, rfl, by simp [setTag], upd_same _ _ _, fun i v hv => ?_⟩⟩
  have hi : i < l.length := by
    rcases Nat.lt_or_ge i l.length with h | h
    · exact h
    · rw [List.getElem?_eq_none (by simpa using h)] at hv; cases hv
  rw [add_add, Nat.zero_add]
  rw [← hv]
  show (Array.map (fun b => Value.int IntKind.u8 (b.toNat : Int)) (S l).data ++ Array.replicate (N - (S l).size) (Value.int IntKind.u8 0))[i]? = _
  rw [Array.getElem?_append_left (by simp [S]; omega)]
  simp [S, vU]

theorem containsFunc_ok {s : Sl} {l : Str} {f : UInt8 → Bool} {fv : Value} {Q : Bool → AH → Prop} (h : SL.Read ro σ s (l.map vU)) (hl : l.length < 4611686018427387904)
    (hcall : ∀ c ∈ l, ∀ K : Value → AH → Prop, K (.bool (f c)) σ → callV Tryz.prog B ro fv [vU c] σ K) (hQ : Q (l.any f) σ) : c_slices_ContainsFunc_byte_byte B ro s fv σ Q := by
  refine slices_ContainsFunc_byte_byte_ok fun _ => ?_
  unfold f_slices_ContainsFunc_byte_byte
  refine slices_IndexFunc_byte_byte_ok fun _ => ?_
  unfold f_slices_IndexFunc_byte_byte
  have hln : s.len = l.length := by rw [h.1, List.length_map]
  suffices ∀ (m j : Nat), j + m = l.length → (l.take j).any f = false → lfpD (l2_slices_IndexFunc_byte_byte B ro s fv fun x σ => Q (decide (0 ≤ x)) σ) (j : Int) σ from this _ 0 (Nat.zero_add _) rfl
  intro m
  induction m with
  | zero =>
    intro j hj hn
    refine lfpD.intro ?_
    unfold l2_slices_IndexFunc_byte_byte
    rw [if_neg (by omega)]
    unfold j1_slices_IndexFunc_byte_byte
    rw [List.take_of_length_le (by omega)] at hn
    rw [hn] at hQ
    exact hQ
  | succ m ih =>
    intro j hj hn
    have hjl : j < l.length := by omega
    refine lfpD.intro ?_
    unfold l2_slices_IndexFunc_byte_byte
    rw [if_pos (by omega)]
    obtain ⟨p, hp⟩ : ∃ p, s.a = some p := by
      cases ha : s.a with
      | none => have := h.2.1 ha; simp at this; subst this; simp at hjl
      | some p => exact ⟨p, rfl⟩
    refine ⟨p, hp, by omega, by omega, (l[j].toNat : Int), ?_, ?_⟩
    · rw [Int.toNat_natCast, Nat.mul_one]
      refine h.2.2 p hp j _ ?_
      rw [List.getElem?_map, List.getElem?_eq_getElem hjl]; rfl
    · refine hcall _ (List.getElem_mem hjl) _ ⟨f l[j], rfl, ?_⟩
      by_cases c : f l[j] = true
      · rw [if_pos c]
        have : l.any f = true := List.any_eq_true.2 ⟨_, List.getElem_mem hjl, c⟩
        rw [this] at hQ
        show Q (decide ((0 : Int) ≤ (j : Int))) σ
        rw [show decide ((0 : Int) ≤ (j : Int)) = true by simp]
        exact hQ
      · rw [if_neg c, Pa.inc j (by omega)]
        refine ih (j + 1) (by omega) ?_
        rw [List.take_add_one, List.getElem?_eq_getElem hjl, List.any_append, hn]
        simpa using c

/-- strings.CutPrefix -/
def cutPre (a p : Str) : Str × Bool := if p.isPrefixOf a then (a.drop p.length, true) else (a, false)
theorem shasPrefix_ok {a p : ByteArray} {Q : Bool → AH → Prop} (hQ : Q ((L p).isPrefixOf (L a)) σ) : c_stringslite_HasPrefix B ro a p σ Q := by
  refine stringslite_HasPrefix_ok fun _ => ?_
  unfold f_stringslite_HasPrefix j1_stringslite_HasPrefix
  by_cases h : p.size ≤ a.size
  · rw [if_pos (by omega)]
    refine ⟨⟨⟨by omega, by omega⟩, trivial⟩, ?_⟩
    have e : decide (a.extract 0 (Int.toNat (p.size : Int)) = p) = (L p).isPrefixOf (L a) := by
      rw [Int.toNat_natCast, Bool.eq_iff_iff, decide_eq_true_iff, List.isPrefixOf_iff_prefix, List.prefix_iff_eq_take]
      constructor
      · intro h'; conv => lhs; rw [← h']
        rw [← S_L a, S_extract]; simp [L_len]
      · intro h'
        apply L_inj
        rw [← S_L a, S_extract]; simp only [L_S, List.drop_zero]
        rw [L_len] at h'; exact h'.symm
    rw [e]; exact hQ
  · rw [if_neg (by omega)]
    have e : (L p).isPrefixOf (L a) = false := by
      rw [Bool.eq_false_iff]
      intro h'
      have := (List.isPrefixOf_iff_prefix.1 h').length_le
      rw [L_len, L_len] at this; exact h this
    rw [e] at hQ; exact hQ
theorem cutPrefix_ok {a p : Str} {Q : ByteArray → Bool → AH → Prop} (hQ : Q (S (cutPre a p).1) (cutPre a p).2 σ) : c_strings_CutPrefix B ro (S a) (S p) σ Q := by
  refine strings_CutPrefix_ok fun _ => ?_
  unfold f_strings_CutPrefix
  refine stringslite_CutPrefix_ok fun _ => ?_
  unfold f_stringslite_CutPrefix
  refine shasPrefix_ok ?_
  rw [L_S, L_S]
  unfold cutPre at hQ
  by_cases c : p.isPrefixOf a = true
  · rw [if_neg (by simpa using c)]
    rw [if_pos c] at hQ
    have hl := (List.isPrefixOf_iff_prefix.1 c).length_le
    have hsz : ∀ x : Str, (S x).size = x.length := fun x => by rw [← L_len, L_S]
    refine ⟨⟨trivial, by omega, by simp only [cutHi, hsz]; omega⟩, ?_⟩
    rw [Int.toNat_natCast, S_extract, hsz, hsz, List.take_length]
    exact hQ
  · rw [if_pos (by simpa using c)]
    rw [if_neg c] at hQ
    exact hQ
end Go.Proofs.YtfobjidchipdaaaGreatDoor.Zt

/- The document's copies: bytes joined, copied; whole numbers copied. -/
namespace Go.Proofs.YtfobjidchipdaaaGreatDoor.SL
open Go
variable {ro σ σ' σ1 : AH} {tag tag' tag1 : Nat → Nat}
theorem fresh_step {x : Nat} (hx : x ≠ 0) (st : Step [x] ro (fun _ => 0) σ tag1 σ1) (tag : Nat → Nat) (y : Nat) :
    ∃ tag', (∀ R, Step R ro tag σ tag' σ1) ∧ ∀ e s l, Row tag1 σ1 x e s l → Row tag' σ1 y e s l := by
  refine ⟨fun c => if (σ c).isSome then tag c else y, fun R => ⟨fun b o hb _ => ⟨by simp [hb], ?_⟩, fun b o hb => ⟨by simp [hb], o, ?_⟩, st.sep⟩, fun e s l h => ?_⟩
  · exact (st.keep b o hb (by simp; omega)).2
  · exact (st.keep b o hb (by simp; omega)).2
  · rcases h with h | ⟨b, cs, ha, ht, hb, hx'⟩
    · exact .inl h
    · refine .inr ⟨b, cs, ha, ?_, hb, hx'⟩
      cases e : σ b with
      | none => simp [e]
      | some o =>
        have := (st.old b o e).1
        rw [ht] at this; exact absurd this hx
theorem Read.fresh {x : Nat} {s : Sl} {l : List Value} (hx : x ≠ 0) (h : Read ro σ s l) (st : Step [x] ro (fun _ => 0) σ tag1 σ1) : Read ro σ1 s l := by
  obtain ⟨tg, k, _⟩ := fresh_step hx st (fun _ => 0) 0
  exact h.step (k [])
end Go.Proofs.YtfobjidchipdaaaGreatDoor.SL
namespace Go.Proofs.YtfobjidchipdaaaGreatDoor.Zt
open Go Go.Proofs.YtfobjidchipdaaaGreatDoor.SL Go.Proofs.YtfobjidchipdaaaGreatDoor.G Go.Proofs.YtfobjidchipdaaaGreatDoor.Pa
set_option linter.unusedSimpArgs false
set_option linter.unusedVariables false
variable {B : World} {ro σ σ' σ1 : AH} {tag tag' tag1 : Nat → Nat}
set_option maxRecDepth 100000 in
theorem rjoinR_ok (y : Nat) {a0 : Sl} {ss : List Sl} {ls : List Str} {Q : Sl → AH → Prop} (h : SL.Read ro σ a0 (ss.map Sl.v)) (hl : ls.length = ss.length) (hd : ∀ (i : Nat) (s : Sl) (l : Str), ss[i]? = some s → ls[i]? = some l → SL.Read ro σ s (l.map vU)) (hn : ls.flatten.length ≤ 140737488355328) (hs1 : ss.length ≤ 1000)
    (hQ : ∀ s tag' σ', (∀ R, Step R ro tag σ tag' σ') → Row tag' σ' y 5 s (ls.flatten.map vU) → Q s σ') : c_ref01_Join B ro a0 σ Q := by
  refine ref01_Join_ok fun hs => ?_
  unfold f_ref01_Join
  refine nw_cells (tag := fun _ => 0) 1 hs fun b tag1 σ1 st1 r1 => ?_
  have ha : a0.len = ss.length := by rw [h.1, List.length_map]
  suffices ∀ (m j : Nat) (s : Sl) tag2 σ2, j + m = ss.length → Step [1] ro (fun _ => 0) σ tag2 σ2 → Row tag2 σ2 1 5 s ((ls.take j).flatten.map vU) → lfpD (l4_ref01_Join B ro a0 Q) (s, (j : Int)) σ2 from
    this _ 0 _ tag1 σ1 (Nat.zero_add _) (st1 _) r1
  intro m
  induction m with
  | zero =>
    intro j s tag2 σ2 hj st2 r2
    refine lfpD.intro ?_
    unfold l4_ref01_Join
    simp only
    rw [if_neg (by omega)]
    unfold j2_ref01_Join
    rw [List.take_of_length_le (by omega)] at r2
    obtain ⟨tg, k1, k2⟩ := fresh_step (by decide) st2 tag y
    exact hQ s tg σ2 k1 (k2 _ _ _ r2)
  | succ m ih =>
    intro j s tag2 σ2 hj st2 r2
    have hjs : j < ss.length := by omega
    have hjl : j < ls.length := by omega
    have h2 := h.fresh (by decide) st2
    have hd2 := (hd j _ _ (List.getElem?_eq_getElem hjs) (List.getElem?_eq_getElem hjl)).fresh (by decide) st2
    obtain ⟨p, hp⟩ : ∃ p, a0.a = some p := by
      cases e : a0.a with
      | none => have := h.2.1 e; simp at this; rw [this] at hjs; simp at hjs
      | some p => exact ⟨p, rfl⟩
    have hcell := h2.2.2 p hp j (Sl.v ss[j]) (by rw [List.getElem?_map, List.getElem?_eq_getElem hjs]; rfl)
    have etk : (ls.take (j + 1)).flatten = (ls.take j).flatten ++ ls[j] := by
      rw [List.take_add_one, List.getElem?_eq_getElem hjl, List.flatten_append]; simp
    have hlen : (ls.take (j + 1)).flatten.length ≤ ls.flatten.length := by
      conv => rhs; rw [← List.take_append_drop (j + 1) ls, List.flatten_append, List.length_append]
      omega
    rw [etk, List.length_append] at hlen
    refine lfpD.intro ?_
    unfold l4_ref01_Join
    simp only
    rw [if_pos (by omega)]
    refine ⟨p, hp, by omega, by omega, ss[j], by rw [Int.toNat_natCast, Nat.mul_one]; exact hcell, ?_⟩
    refine awp_appendN r2 st2.sep hd2 u30 ty5 rfl (by simp [storable]) (by rw [List.length_map, List.length_map]; omega) (by decide) fun s' tag3 σ3 st3 r3 => ?_
    refine ⟨s', rfl, ?_⟩
    rw [Pa.inc j (by omega)]
    refine ih (j + 1) s' tag3 σ3 (by omega) (st2.trans (st3 _ (.inr (by simp)))) ?_
    rw [etk, List.map_append]; exact r3
set_option maxRecDepth 100000 in
theorem copyInts_ok {a0 : Sl} {ws : List Int} {Q : Sl → AH → Prop} (q : Nat) (h : SL.Read ro (fun _ => none) a0 (ws.map vI)) (hl : ws.length ≤ 17592186044416)
    (hQ : ∀ b tag' σ', Step [q] ro tag σ tag' σ' → Row tag' σ' q 3 ⟨some ⟨b, 0, none⟩, ws.length, ws.length⟩ (ws.map vI) → Q ⟨some ⟨b, 0, none⟩, ws.length, ws.length⟩ σ') : c_ref01_CopyInts B ro a0 σ Q := by
  refine ref01_CopyInts_ok fun hs => ?_
  unfold f_ref01_CopyInts
  have hln : a0.len = ws.length := by rw [h.1, List.length_map]
  rw [hln]
  refine ⟨⟨by omega, by omega, by omega, by omega⟩, ?_⟩
  rw [Int.toNat_natCast]
  intro b hro hb
  have st1 : ∀ R, Step R ro tag σ (setTag tag b q) (upd σ b (.cells (zeros (.int .i64 0) (ws.length * 1)) 3)) := fun R => Step.fresh hs hro hb
  have r1 : Row (setTag tag b q) (upd σ b (.cells (zeros (.int .i64 0) (ws.length * 1)) 3)) q 3 ⟨some ⟨b, 0, none⟩, ws.length, ws.length⟩ (List.replicate ws.length (vI 0)) := by
    refine .inr ⟨b, _, rfl, by simp [setTag], upd_same _ _ _, by simp, by rw [zeros_size]; simp, Nat.le_refl _, fun i hi => ?_⟩
    simp at hi
    rw [zeros_get _ rfl _ _ (by omega), List.getElem?_replicate, if_pos hi]
  have := awp_copyTail (P := Tryz.prog) (ro := ro) (t := 23) (t2 := 23) (ty := 3) (m := 0) (l2 := ws.map vI) (Q := fun v σ => ∃ (x9_2 : Int), v = .int .i64 x9_2 ∧ Q ⟨some ⟨b, 0, none⟩, ws.length, ws.length⟩ σ) r1 (st1 []).sep (by kernel_rfl) ty3 (Read.src h.keep) (by simp) (by simp [storable]) (fun σ2 st2 r2 => ?_)
  · rw [cutA_zero] at this
    exact this
  · rw [List.take_zero, List.nil_append] at r2
    exact ⟨_, rfl, hQ b (setTag tag b q) σ2 ((st1 [q]).trans st2) r2⟩

theorem copyR_ok (y : Nat) {a0 : Sl} {d : Str} {Q : Sl → AH → Prop} (h : SL.Data ro tag σ a0 (d.map vU)) (hl : d.length ≤ 140737488355328) (hQ : ∀ s tag' σ', (∀ R, Step R ro tag σ tag' σ') → Row tag' σ' y 5 s (d.map vU) → Q s σ') : c_ref01_Copy B ro a0 σ Q := by
  refine ref01_Copy_ok fun hs => ?_
  unfold f_ref01_Copy
  refine nw_cells (tag := tag) 3 hs fun x tag1 σ1 st1 r1 => ?_
  refine rjoinR_ok y (tag := tag1) (ss := [a0]) (ls := [d]) (r1.read (st1 []).sep) rfl (fun i s l hs' hl' => ?_) (by simpa using hl) (by simp) fun s tag2 σ2 st2 r2 => ?_
  · cases i with
    | zero => cases hs'; cases hl'; exact (h.keep (st1 []) (by simp)).read (st1 []).sep
    | succ i => cases hs'
  · refine hQ s tag2 σ2 (fun R => (st1 R).trans (st2 R)) ?_
    simpa using r2
theorem copy_ok {a0 : Sl} {d : Str} {Q : Sl → AH → Prop} (h : SL.Data ro tag σ a0 (d.map vU)) (hl : d.length ≤ 140737488355328) (hQ : ∀ s tag' σ', (∀ R, Step R ro tag σ tag' σ') → Row tag' σ' 6 5 s (d.map vU) → Q s σ') : c_ref01_Copy B ro a0 σ Q := copyR_ok 6 h hl hQ
end Go.Proofs.YtfobjidchipdaaaGreatDoor.Zt

/- Numbers and bytes as the wire has them: what is written is read back, and what is read was written. -/
namespace Go.Proofs.YtfobjidchipdaaaGreatDoor.Wi
open Go Go.Proofs.YtfobjidchipdaaaGreatDoor.SL
set_option linter.unusedSimpArgs false
set_option linter.unusedVariables false

def vput (n : Nat) : Str := if n < 128 then [UInt8.ofNat n] else UInt8.ofNat (n % 128 + 128) :: vput (n / 128)
termination_by n
decreasing_by omega
def val : Str → Nat
  | [] => 0
  | c :: r => c.toNat % 128 + 128 * val r
/-- the place of the first small byte among the first ones -/
def scan : Nat → Str → Option Nat
  | 0, _ => none
  | _ + 1, [] => none
  | k + 1, c :: r => if c.toNat < 128 then some 0 else (scan k r).map (· + 1)
def num (l : Str) : Nat × Nat × Int :=
  match scan 9 l with
  | none => (0, 0, if l.length < 9 then 12 else 13)
  | some k => if (0 < k ∧ l[k]? = some 0) ∨ 4611686018427387904 ≤ val (l.take (k + 1)) then (0, 0, 13) else (val (l.take (k + 1)), k + 1, 0)

theorem u8_lt (c : UInt8) : c.toNat < 256 := c.toNat_lt
theorem u8_of (n : Nat) (h : n < 256) : (UInt8.ofNat n).toNat = n := by simp; omega
theorem u8_eq {c d : UInt8} (h : c.toNat = d.toNat) : c = d := UInt8.toNat_inj.1 h

theorem scan_some : ∀ (m : Nat) (l : Str) (k : Nat), scan m l = some k → k < m ∧ k < l.length ∧ (∀ i c, i < k → l[i]? = some c → 128 ≤ c.toNat) ∧ ∃ c, l[k]? = some c ∧ c.toNat < 128 := by
  intro m
  induction m with
  | zero => intro l k h; cases h
  | succ m ih =>
    intro l k h
    cases l with
    | nil => cases h
    | cons c r =>
      unfold scan at h
      split at h
      · rename_i hc
        cases h
        exact ⟨by omega, by simp, fun i c hi => by omega, c, rfl, hc⟩
      · rename_i hc
        obtain ⟨k', hk', rfl⟩ := Option.map_eq_some_iff.1 h
        obtain ⟨h1, h2, h3, h4⟩ := ih r k' hk'
        refine ⟨by omega, by simp; omega, fun i d hi hd => ?_, by simpa using h4⟩
        rcases i with _ | i
        · cases hd; omega
        · exact h3 i d (by omega) (by simpa using hd)
theorem scan_of : ∀ (m : Nat) (l : Str) (k : Nat) (d : UInt8), k < m → (∀ i c, i < k → l[i]? = some c → 128 ≤ c.toNat) → l[k]? = some d → d.toNat < 128 → scan m l = some k := by
  intro m
  induction m with
  | zero => intro l k d h; omega
  | succ m ih =>
    intro l k d hk hall hd hsm
    cases l with
    | nil => cases hd
    | cons c r =>
      unfold scan
      rcases k with _ | k
      · cases hd; rw [if_pos hsm]
      · rw [if_neg (by have := hall 0 c (by omega) rfl; omega), ih r k d (by omega) (fun i e hi he => hall (i + 1) e (by omega) (by simpa using he)) (by simpa using hd) hsm]; rfl
theorem scan_none_of : ∀ (m : Nat) (l : Str), (∀ i c, i < m → l[i]? = some c → 128 ≤ c.toNat) → scan m l = none := by
  intro m l h
  cases e : scan m l with
  | none => rfl
  | some k =>
    obtain ⟨h1, _, _, c, hc, h4⟩ := scan_some m l k e
    have := h k c h1 hc
    omega

theorem val_take : ∀ (l : Str) (k : Nat), val (l.take k) < 128 ^ k := by
  intro l
  induction l with
  | nil => intro k; simp [val]; exact Nat.pow_pos (by decide)
  | cons c r ih =>
    intro k
    cases k with
    | zero => simp [val]
    | succ k =>
      have := ih k
      simp only [List.take_succ_cons, val]
      have := Nat.mod_lt c.toNat (show 0 < 128 by decide)
      rw [Nat.pow_succ]
      omega
theorem val_snoc (l : Str) (c : UInt8) : val (l ++ [c]) = val l + 128 ^ l.length * (c.toNat % 128) := by
  induction l with
  | nil => simp [val]
  | cons d l ih => simp only [List.cons_append, val, ih, List.length_cons, Nat.pow_succ]; rw [Nat.mul_add, ← Nat.mul_assoc, Nat.mul_comm 128 (128 ^ l.length)]; omega

theorem vput_val : ∀ (m : Nat) (l : Str) (k : Nat), scan m l = some k → (k = 0 ∨ l[k]? ≠ some 0) → vput (val (l.take (k + 1))) = l.take (k + 1) ∧ (0 < k → 0 < val (l.take (k + 1))) := by
  intro m
  induction m with
  | zero => intro l k h; cases h
  | succ m ih =>
    intro l k h hz
    cases l with
    | nil => cases h
    | cons c r =>
      unfold scan at h
      split at h
      · rename_i hc
        cases h
        refine ⟨?_, fun h => by omega⟩
        simp only [List.take_succ_cons, List.take_zero, val, Nat.mul_zero, Nat.add_zero, Nat.mod_eq_of_lt hc]
        unfold vput
        rw [if_pos hc]
        simp
      · rename_i hc
        obtain ⟨k', hk', rfl⟩ := Option.map_eq_some_iff.1 h
        have hne : (k' = 0 ∨ r[k']? ≠ some 0) ∧ r[k']? ≠ some 0 := by
          rcases hz with h0 | h0
          · omega
          · have : r[k']? ≠ some 0 := by simpa using h0
            exact ⟨.inr this, this⟩
        obtain ⟨h1, h2⟩ := ih r k' hk' hne.1
        obtain ⟨_, h3, _, d, hd, hd'⟩ := scan_some m r k' hk'
        have hpos : 0 < val (r.take (k' + 1)) := by
          rcases Nat.eq_zero_or_pos k' with h0 | h0
          · subst h0
            cases r with
            | nil => cases hd
            | cons e r =>
              cases hd
              simp only [List.take_succ_cons, List.take_zero, val, Nat.mul_zero, Nat.add_zero, Nat.mod_eq_of_lt hd']
              rcases Nat.eq_zero_or_pos d.toNat with h5 | h5
              · exact absurd (by rw [show d = 0 from u8_eq h5]; rfl) hne.2
              · exact h5
          · exact h2 h0
        have hc256 := u8_lt c
        refine ⟨?_, fun _ => ?_⟩
        · simp only [List.take_succ_cons, val]
          unfold vput
          rw [if_neg (by omega), show (c.toNat % 128 + 128 * val (List.take (k' + 1) r)) / 128 = val (List.take (k' + 1) r) by omega, h1]
          congr 1
          refine u8_eq ?_
          rw [u8_of _ (by omega)]; omega
        · simp only [List.take_succ_cons, val]; omega

theorem vput_ne (n : Nat) : vput n ≠ [] := by unfold vput; split <;> simp
theorem vput_len : ∀ (m n : Nat), n < 128 ^ (m + 1) → 1 ≤ (vput n).length ∧ (vput n).length ≤ m + 1 := by
  intro m
  induction m with
  | zero => intro n h; unfold vput; rw [if_pos (by simpa using h)]; simp
  | succ m ih =>
    intro n h
    unfold vput
    split
    · simp
    · have := ih (n / 128) (by rw [Nat.pow_succ] at h; exact Nat.div_lt_of_lt_mul (by rw [Nat.mul_comm]; exact h))
      simp; omega
theorem scan_vput : ∀ (m n : Nat) (r : Str), n < 128 ^ (m + 1) → ∃ k, scan (m + 1) (vput n ++ r) = some k ∧ (vput n).length = k + 1 ∧ val (vput n) = n ∧ (0 < k → (vput n)[k]? ≠ some 0) ∧ (0 < n ∨ k = 0) := by
  intro m
  induction m with
  | zero =>
    intro n r h
    have h : n < 128 := by simpa using h
    unfold vput
    rw [if_pos h]
    refine ⟨0, ?_, rfl, ?_, fun h => by omega, .inr rfl⟩
    · unfold scan; rw [List.cons_append]; simp only; rw [u8_of _ (by omega), if_pos h]
    · simp only [val]; rw [u8_of _ (by omega)]; omega
  | succ m ih =>
    intro n r h
    by_cases hn : n < 128
    · unfold vput
      rw [if_pos hn]
      refine ⟨0, ?_, rfl, ?_, fun h => by omega, .inr rfl⟩
      · unfold scan; rw [List.cons_append]; simp only; rw [u8_of _ (by omega), if_pos hn]
      · simp only [val]; rw [u8_of _ (by omega)]; omega
    · obtain ⟨k, h1, h2, h3, h4, h5⟩ := ih (n / 128) r (by rw [Nat.pow_succ] at h; exact Nat.div_lt_of_lt_mul (by rw [Nat.mul_comm]; exact h))
      rw [vput, if_neg hn]
      refine ⟨k + 1, ?_, by simp [h2], ?_, fun _ => ?_, .inl (by omega)⟩
      · rw [List.cons_append]
        unfold scan
        rw [u8_of _ (by omega), if_neg (by omega), h1]; rfl
      · simp only [val]; rw [h3, u8_of _ (by omega)]; omega
      · rw [List.getElem?_cons_succ]
        rcases Nat.eq_zero_or_pos k with h0 | h0
        · subst h0
          have hlt : n / 128 < 128 ∨ ¬ n / 128 < 128 := by omega
          rcases hlt with hlt | hlt
          · rw [vput, if_pos hlt]
            simp only [List.getElem?_cons_zero]
            intro e
            have := congrArg UInt8.toNat (Option.some.inj e)
            rw [u8_of _ (by omega)] at this
            simp at this; omega
          · rw [vput, if_neg hlt] at h2
            have := List.length_pos_iff.2 (vput_ne (n / 128 / 128))
            rw [List.length_cons] at h2; omega
        · exact h4 h0
/-- what was written is read back -/
theorem num_put {n : Nat} (h : n < 4611686018427387904) (r : Str) : num (vput n ++ r) = (n, (vput n).length, 0) := by
  obtain ⟨k, h1, h2, h3, h4, _⟩ := scan_vput 8 n r (by omega)
  unfold num
  rw [h1]
  have e1 : (vput n ++ r).take (k + 1) = vput n := by rw [← h2]; simp
  have e2 : (vput n ++ r)[k]? = (vput n)[k]? := List.getElem?_append_left (by omega)
  simp only [e1, e2, h3]
  rw [if_neg, h2]
  rintro (⟨h5, h6⟩ | h5)
  · exact h4 h5 h6
  · omega
/-- what is read was written -/
theorem put_num {l : Str} {n e : Nat} (h : num l = (n, e, 0)) : n < 4611686018427387904 ∧ 0 < e ∧ e ≤ l.length ∧ l.take e = vput n := by
  unfold num at h
  cases hs : scan 9 l with
  | none =>
    rw [hs] at h
    simp only [Prod.mk.injEq] at h
    have := h.2.2
    split at this <;> omega
  | some k =>
    rw [hs] at h
    simp only at h
    split at h
    · simp at h
    · rename_i hb
      simp only [not_or] at hb
      simp only [Prod.mk.injEq] at h
      obtain ⟨rfl, rfl, _⟩ := h
      obtain ⟨_, h2, _, _⟩ := scan_some 9 l k hs
      refine ⟨by omega, by omega, by omega, ((vput_val 9 l k hs ?_).1).symm⟩
      rcases Nat.eq_zero_or_pos k with h0 | h0
      · exact .inl h0
      · exact .inr fun h => hb.1 ⟨h0, h⟩
theorem num_err {l : Str} (h : (num l).2.2 ≠ 0) : (num l).1 = 0 ∧ (num l).2.1 = 0 ∧ ((num l).2.2 = 12 ∨ (num l).2.2 = 13) := by
  unfold num at h ⊢
  cases hs : scan 9 l with
  | none => simp only; refine ⟨by simp, by simp, ?_⟩; split <;> simp
  | some k =>
    rw [hs] at h
    simp only at h ⊢
    split
    · simp
    · rename_i hb; rw [if_neg hb] at h; simp at h
theorem num_le (l : Str) : (num l).2.1 ≤ l.length ∧ (num l).1 < 4611686018427387904 := by
  by_cases h : (num l).2.2 = 0
  · obtain ⟨h1, _, h3, _⟩ := put_num (l := l) (n := (num l).1) (e := (num l).2.1) (by rw [← h])
    exact ⟨h3, h1⟩
  · obtain ⟨h1, h2, _⟩ := num_err h
    rw [h1, h2]; exact ⟨Nat.zero_le _, by decide⟩

/-- a number that the wire bears -/
def rightN (x : Int) : Bool := decide (0 ≤ x) && decide (x ≤ 4611686018427387903)
/-! ### a reader -/
structure Rd where
  rest : Str
  err : Int
def blob (d : Str) : Str := vput d.length ++ d
def rnum (r : Rd) : Nat × Rd := if r.err ≠ 0 then (0, r) else ((num r.rest).1, ⟨r.rest.drop (num r.rest).2.1, (num r.rest).2.2⟩)
def rblob (r : Rd) : Str × Rd :=
  if (rnum r).2.err ≠ 0 then ([], (rnum r).2)
  else if (rnum r).2.rest.length < (rnum r).1 then ([], ⟨r.rest, 12⟩)
  else ((rnum r).2.rest.take (rnum r).1, ⟨(rnum r).2.rest.drop (rnum r).1, 0⟩)
theorem rnum_put {n : Nat} (h : n < 4611686018427387904) (r : Str) : rnum ⟨vput n ++ r, 0⟩ = (n, ⟨r, 0⟩) := by
  unfold rnum
  simp only [ne_eq, not_true_eq_false, if_false, num_put h, List.drop_left]
theorem rblob_put {d : Str} (h : d.length < 4611686018427387904) (r : Str) : rblob ⟨blob d ++ r, 0⟩ = (d, ⟨r, 0⟩) := by
  unfold rblob blob
  rw [List.append_assoc, rnum_put h]
  simp
theorem rnum_bad {r : Rd} (h : r.err ≠ 0) : rnum r = (0, r) := by unfold rnum; rw [if_pos h]
end Go.Proofs.YtfobjidchipdaaaGreatDoor.Wi

/- Sums and frames of the wire, pure. -/
namespace Go.Proofs.YtfobjidchipdaaaGreatDoor.Wi
open Go Go.Proofs.YtfobjidchipdaaaGreatDoor.SL
set_option linter.unusedSimpArgs false
set_option linter.unusedVariables false
/-- one bit of the sum -/
def crcBit (s : Nat) : Nat := if s % 2 = 1 then (s / 2) ^^^ 3988292384 else s / 2
def crcByte (s : Nat) (c : UInt8) : Nat := crcBit (crcBit (crcBit (crcBit (crcBit (crcBit (crcBit (crcBit (s ^^^ c.toNat))))))))
def crcR (l : Str) : Nat := l.foldl crcByte 4294967295
def crc (l : Str) : Nat := 4294967295 - crcR l
theorem crcBit_lt {s : Nat} (h : s < 4294967296) : crcBit s < 4294967296 := by
  unfold crcBit
  split
  · exact Nat.xor_lt_two_pow (n := 32) (by omega) (by decide)
  · omega
theorem crcByte_lt {s : Nat} {c : UInt8} (h : s < 4294967296) : crcByte s c < 4294967296 := by
  unfold crcByte
  have h0 : s ^^^ c.toNat < 4294967296 := Nat.xor_lt_two_pow (n := 32) (by omega) (by have := u8_lt c; omega)
  exact crcBit_lt (crcBit_lt (crcBit_lt (crcBit_lt (crcBit_lt (crcBit_lt (crcBit_lt (crcBit_lt h0)))))))
theorem crcR_lt (l : Str) : crcR l < 4294967296 := by
  unfold crcR
  suffices ∀ s, s < 4294967296 → l.foldl crcByte s < 4294967296 from this _ (by decide)
  induction l with
  | nil => intro s h; exact h
  | cons c l ih => intro s h; exact ih _ (crcByte_lt h)
theorem crc_lt (l : Str) : crc l < 4294967296 := by unfold crc; omega

def four (n : Nat) : Str := [UInt8.ofNat (n % 256), UInt8.ofNat (n / 256 % 256), UInt8.ofNat (n / 65536 % 256), UInt8.ofNat (n / 16777216 % 256)]
def value : Str → Nat
  | a :: b :: c :: d :: _ => a.toNat + 256 * b.toNat + 65536 * c.toNat + 16777216 * d.toNat
  | _ => 0
theorem value_four {n : Nat} (h : n < 4294967296) (r : Str) : value (four n ++ r) = n := by
  unfold four value
  simp only [List.cons_append]
  rw [u8_of _ (by omega), u8_of _ (by omega), u8_of _ (by omega), u8_of _ (by omega)]
  omega
theorem four_len (n : Nat) : (four n).length = 4 := rfl
def frame (p : Str) : Str := four p.length ++ (four (crc (four p.length ++ p)) ++ p)
theorem frame_len (p : Str) : (frame p).length = 8 + p.length := by unfold frame; simp [four_len]; omega
/-- the payload of the frame at the beginning, the place behind it, the error -/
def unframe (l : Str) : Str × Nat × Int :=
  if l.length < 8 then ([], 0, 12)
  else if 65536 < value l then ([], 0, 14)
  else if l.length - 8 < value l then ([], 0, 12)
  else if crc (four (value l) ++ (l.drop 8).take (value l)) = value (l.drop 4) then ((l.drop 8).take (value l), 8 + value l, 0)
  else ([], 0, 15)
theorem unframe_frame {p : Str} (h : p.length ≤ 65536) (r : Str) : unframe (frame p ++ r) = (p, 8 + p.length, 0) := by
  have h1 : value (frame p ++ r) = p.length := by unfold frame; rw [List.append_assoc]; exact value_four (by omega) _
  have h2 : (frame p ++ r).drop 4 = four (crc (four p.length ++ p)) ++ (p ++ r) := by
    unfold frame
    rw [List.append_assoc, List.append_assoc, List.drop_left' (four_len _)]
  have h3 : (frame p ++ r).drop 8 = p ++ r := by
    rw [show (8 : Nat) = 4 + 4 from rfl, ← List.drop_drop, h2, List.drop_left' (four_len _)]
  have hl : (frame p ++ r).length = 8 + p.length + r.length := by rw [List.length_append, frame_len]
  unfold unframe
  rw [h1, h2, h3, hl, if_neg (by omega), if_neg (by omega), if_neg (by omega), value_four (crc_lt _), List.take_left, if_pos rfl]
end Go.Proofs.YtfobjidchipdaaaGreatDoor.Wi
