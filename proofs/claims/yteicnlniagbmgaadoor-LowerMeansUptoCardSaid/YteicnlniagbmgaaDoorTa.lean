/-
  The seat's functions are the digested ones. Conditions: none (definitions and lemmas).
-/
import Derived.Test.YteicnlniagbmgaaDoorHa
import Derived.Test.YteicnlniagbmgaaDoorAbName
import Derived.Test.YteicnlniagbmgaaDoorProg
import Derived.WalkKit
import Derived.LoopN
import Derived.Laws.Strings
import Derived.Laws.Strings2
import Derived.Laws.Entries
/-
  The seat's functions are the digested ones (printed by a program of mine). Conditions: none (lemmas).
-/
namespace Go.Proofs.YteicnlniagbmgaaDoor
open Go.Ab
def tabC : List (Nat × Nat) := [(3, 1), (4, 2), (5, 3), (6, 4), (7, 5), (8, 6), (9, 7), (10, 8), (11, 9), (12, 10), (13, 11), (14, 12), (15, 13), (16, 14), (17, 15), (18, 16), (19, 17), (20, 18), (21, 19), (22, 20), (23, 21), (24, 22), (25, 23), (26, 24), (27, 25), (28, 26), (29, 27), (30, 28), (31, 29), (32, 30), (33, 31), (34, 32), (35, 33), (36, 34), (37, 35), (38, 36), (39, 37), (40, 38), (41, 39), (42, 40), (43, 41), (44, 42), (45, 43), (46, 44), (47, 45), (48, 46), (49, 47), (50, 48), (51, 49), (52, 50), (53, 51), (54, 52), (55, 53), (56, 54), (57, 55), (58, 56), (59, 57), (60, 58), (61, 59), (62, 60), (63, 61), (64, 62), (65, 63), (66, 64), (67, 65), (68, 66), (69, 67), (70, 68), (71, 69), (72, 70), (73, 71), (74, 72), (75, 73), (76, 74), (77, 75), (78, 76), (79, 77), (81, 79), (82, 80), (83, 81), (84, 82), (85, 83), (86, 84), (87, 85), (88, 86), (89, 87), (90, 88), (91, 89), (92, 90), (93, 91), (94, 92), (95, 93), (96, 94), (97, 95), (98, 96), (99, 97), (100, 98), (101, 99), (102, 100), (103, 101), (104, 102), (105, 103), (106, 104), (107, 105), (108, 106), (109, 107), (110, 108), (111, 109), (80, 78)]
def cid (F : FuncId) : Option Nat := (tabC.find? fun p => p.1 == F).map (·.2)
def EntryOk (p : Nat × Nat) : Prop := ∀ fd, S0.prog p.2 = some fd → ∃ fn A, Tryd.prog.funcs[p.1]? = some fn ∧ digFun Tryd.prog cid A fn = some fd
theorem entry {F c : Nat} {fn : Func} {A : Ann} {fd : DFun} (hf : Tryd.prog.funcs[F]? = some fn) (hd : digFun Tryd.prog cid A fn = some fd) (hl : lookS tabS c = some fd) : EntryOk (F, c) := by
  intro fd' h
  have : some fd = some fd' := hl.symm.trans h
  simp only [Option.some.injEq] at this
  subst this
  exact ⟨fn, A, hf, hd⟩
theorem e1 : EntryOk (3, 1) := entry (A := Dig.an1) Tryd.func3 (by kernel_rfl) (fd := Dig.fd1) rfl
theorem e2 : EntryOk (4, 2) := entry (A := Dig.an2) Tryd.func4 (by kernel_rfl) (fd := Dig.fd2) rfl
theorem e3 : EntryOk (5, 3) := entry (A := Dig.an3) Tryd.func5 (by kernel_rfl) (fd := Dig.fd3) rfl
theorem e4 : EntryOk (6, 4) := entry (A := Dig.an4) Tryd.func6 (by kernel_rfl) (fd := Dig.fd4) rfl
theorem e5 : EntryOk (7, 5) := entry (A := Dig.an5) Tryd.func7 (by kernel_rfl) (fd := Dig.fd5) rfl
theorem e6 : EntryOk (8, 6) := entry (A := Dig.an6) Tryd.func8 (by kernel_rfl) (fd := Dig.fd6) rfl
theorem e7 : EntryOk (9, 7) := entry (A := Dig.an7) Tryd.func9 (by kernel_rfl) (fd := Dig.fd7) rfl
theorem e8 : EntryOk (10, 8) := entry (A := Dig.an8) Tryd.func10 (by kernel_rfl) (fd := Dig.fd8) rfl
theorem e9 : EntryOk (11, 9) := entry (A := Dig.an9) Tryd.func11 (by kernel_rfl) (fd := Dig.fd9) rfl
theorem e10 : EntryOk (12, 10) := entry (A := Dig.an10) Tryd.func12 (by kernel_rfl) (fd := Dig.fd10) rfl
theorem e11 : EntryOk (13, 11) := entry (A := Dig.an11) Tryd.func13 (by kernel_rfl) (fd := Dig.fd11) rfl
theorem e12 : EntryOk (14, 12) := entry (A := Dig.an12) Tryd.func14 (by kernel_rfl) (fd := Dig.fd12) rfl
theorem e13 : EntryOk (15, 13) := entry (A := Dig.an13) Tryd.func15 (by kernel_rfl) (fd := Dig.fd13) rfl
theorem e14 : EntryOk (16, 14) := entry (A := Dig.an14) Tryd.func16 (by kernel_rfl) (fd := Dig.fd14) rfl
theorem e15 : EntryOk (17, 15) := entry (A := Dig.an15) Tryd.func17 (by kernel_rfl) (fd := Dig.fd15) rfl
theorem e16 : EntryOk (18, 16) := entry (A := Dig.an16) Tryd.func18 (by kernel_rfl) (fd := Dig.fd16) rfl
theorem e17 : EntryOk (19, 17) := entry (A := Dig.an17) Tryd.func19 (by kernel_rfl) (fd := Dig.fd17) rfl
theorem e18 : EntryOk (20, 18) := entry (A := Dig.an18) Tryd.func20 (by kernel_rfl) (fd := Dig.fd18) rfl
theorem e19 : EntryOk (21, 19) := entry (A := Dig.an19) Tryd.func21 (by kernel_rfl) (fd := Dig.fd19) rfl
theorem e20 : EntryOk (22, 20) := entry (A := Dig.an20) Tryd.func22 (by kernel_rfl) (fd := Dig.fd20) rfl
theorem e21 : EntryOk (23, 21) := entry (A := Dig.an21) Tryd.func23 (by kernel_rfl) (fd := Dig.fd21) rfl
theorem e22 : EntryOk (24, 22) := entry (A := Dig.an22) Tryd.func24 (by kernel_rfl) (fd := Dig.fd22) rfl
theorem e23 : EntryOk (25, 23) := entry (A := Dig.an23) Tryd.func25 (by kernel_rfl) (fd := Dig.fd23) rfl
theorem e24 : EntryOk (26, 24) := entry (A := Dig.an24) Tryd.func26 (by kernel_rfl) (fd := Dig.fd24) rfl
theorem e25 : EntryOk (27, 25) := entry (A := Dig.an25) Tryd.func27 (by kernel_rfl) (fd := Dig.fd25) rfl
theorem e26 : EntryOk (28, 26) := entry (A := Dig.an26) Tryd.func28 (by kernel_rfl) (fd := Dig.fd26) rfl
theorem e27 : EntryOk (29, 27) := entry (A := Dig.an27) Tryd.func29 (by kernel_rfl) (fd := Dig.fd27) rfl
theorem e28 : EntryOk (30, 28) := entry (A := Dig.an28) Tryd.func30 (by kernel_rfl) (fd := Dig.fd28) rfl
theorem e29 : EntryOk (31, 29) := entry (A := Dig.an29) Tryd.func31 (by kernel_rfl) (fd := Dig.fd29) rfl
theorem e30 : EntryOk (32, 30) := entry (A := Dig.an30) Tryd.func32 (by kernel_rfl) (fd := Dig.fd30) rfl
theorem e31 : EntryOk (33, 31) := entry (A := Dig.an31) Tryd.func33 (by kernel_rfl) (fd := Dig.fd31) rfl
theorem e32 : EntryOk (34, 32) := entry (A := Dig.an32) Tryd.func34 (by kernel_rfl) (fd := Dig.fd32) rfl
theorem e33 : EntryOk (35, 33) := entry (A := Dig.an33) Tryd.func35 (by kernel_rfl) (fd := Dig.fd33) rfl
theorem e34 : EntryOk (36, 34) := entry (A := Dig.an34) Tryd.func36 (by kernel_rfl) (fd := Dig.fd34) rfl
theorem e35 : EntryOk (37, 35) := entry (A := Dig.an35) Tryd.func37 (by kernel_rfl) (fd := Dig.fd35) rfl
theorem e36 : EntryOk (38, 36) := entry (A := Dig.an36) Tryd.func38 (by kernel_rfl) (fd := Dig.fd36) rfl
theorem e37 : EntryOk (39, 37) := entry (A := Dig.an37) Tryd.func39 (by kernel_rfl) (fd := Dig.fd37) rfl
theorem e38 : EntryOk (40, 38) := entry (A := Dig.an38) Tryd.func40 (by kernel_rfl) (fd := Dig.fd38) rfl
theorem e39 : EntryOk (41, 39) := entry (A := Dig.an39) Tryd.func41 (by kernel_rfl) (fd := Dig.fd39) rfl
theorem e40 : EntryOk (42, 40) := entry (A := Dig.an40) Tryd.func42 (by kernel_rfl) (fd := Dig.fd40) rfl
theorem e41 : EntryOk (43, 41) := entry (A := Dig.an41) Tryd.func43 (by kernel_rfl) (fd := Dig.fd41) rfl
theorem e42 : EntryOk (44, 42) := entry (A := Dig.an42) Tryd.func44 (by kernel_rfl) (fd := Dig.fd42) rfl
theorem e43 : EntryOk (45, 43) := entry (A := Dig.an43) Tryd.func45 (by kernel_rfl) (fd := Dig.fd43) rfl
theorem e44 : EntryOk (46, 44) := entry (A := Dig.an44) Tryd.func46 (by kernel_rfl) (fd := Dig.fd44) rfl
theorem e45 : EntryOk (47, 45) := entry (A := Dig.an45) Tryd.func47 (by kernel_rfl) (fd := Dig.fd45) rfl
theorem e46 : EntryOk (48, 46) := entry (A := Dig.an46) Tryd.func48 (by kernel_rfl) (fd := Dig.fd46) rfl
theorem e47 : EntryOk (49, 47) := entry (A := Dig.an47) Tryd.func49 (by kernel_rfl) (fd := Dig.fd47) rfl
theorem e48 : EntryOk (50, 48) := entry (A := Dig.an48) Tryd.func50 (by kernel_rfl) (fd := Dig.fd48) rfl
theorem e49 : EntryOk (51, 49) := entry (A := Dig.an49) Tryd.func51 (by kernel_rfl) (fd := Dig.fd49) rfl
theorem e50 : EntryOk (52, 50) := entry (A := Dig.an50) Tryd.func52 (by kernel_rfl) (fd := Dig.fd50) rfl
theorem e51 : EntryOk (53, 51) := entry (A := Dig.an51) Tryd.func53 (by kernel_rfl) (fd := Dig.fd51) rfl
theorem e52 : EntryOk (54, 52) := entry (A := Dig.an52) Tryd.func54 (by kernel_rfl) (fd := Dig.fd52) rfl
theorem e53 : EntryOk (55, 53) := entry (A := Dig.an53) Tryd.func55 (by kernel_rfl) (fd := Dig.fd53) rfl
theorem e54 : EntryOk (56, 54) := entry (A := Dig.an54) Tryd.func56 (by kernel_rfl) (fd := Dig.fd54) rfl
theorem e55 : EntryOk (57, 55) := entry (A := Dig.an55) Tryd.func57 (by kernel_rfl) (fd := Dig.fd55) rfl
theorem e56 : EntryOk (58, 56) := entry (A := Dig.an56) Tryd.func58 (by kernel_rfl) (fd := Dig.fd56) rfl
theorem e57 : EntryOk (59, 57) := entry (A := Dig.an57) Tryd.func59 (by kernel_rfl) (fd := Dig.fd57) rfl
theorem e58 : EntryOk (60, 58) := entry (A := Dig.an58) Tryd.func60 (by kernel_rfl) (fd := Dig.fd58) rfl
theorem e59 : EntryOk (61, 59) := entry (A := Dig.an59) Tryd.func61 (by kernel_rfl) (fd := Dig.fd59) rfl
theorem e60 : EntryOk (62, 60) := entry (A := Dig.an60) Tryd.func62 (by kernel_rfl) (fd := Dig.fd60) rfl
theorem e61 : EntryOk (63, 61) := entry (A := Dig.an61) Tryd.func63 (by kernel_rfl) (fd := Dig.fd61) rfl
theorem e62 : EntryOk (64, 62) := entry (A := Dig.an62) Tryd.func64 (by kernel_rfl) (fd := Dig.fd62) rfl
theorem e63 : EntryOk (65, 63) := entry (A := Dig.an63) Tryd.func65 (by kernel_rfl) (fd := Dig.fd63) rfl
theorem e64 : EntryOk (66, 64) := entry (A := Dig.an64) Tryd.func66 (by kernel_rfl) (fd := Dig.fd64) rfl
theorem e65 : EntryOk (67, 65) := entry (A := Dig.an65) Tryd.func67 (by kernel_rfl) (fd := Dig.fd65) rfl
theorem e66 : EntryOk (68, 66) := entry (A := Dig.an66) Tryd.func68 (by kernel_rfl) (fd := Dig.fd66) rfl
theorem e67 : EntryOk (69, 67) := entry (A := Dig.an67) Tryd.func69 (by kernel_rfl) (fd := Dig.fd67) rfl
theorem e68 : EntryOk (70, 68) := entry (A := Dig.an68) Tryd.func70 (by kernel_rfl) (fd := Dig.fd68) rfl
theorem e69 : EntryOk (71, 69) := entry (A := Dig.an69) Tryd.func71 (by kernel_rfl) (fd := Dig.fd69) rfl
theorem e70 : EntryOk (72, 70) := entry (A := Dig.an70) Tryd.func72 (by kernel_rfl) (fd := Dig.fd70) rfl
theorem e71 : EntryOk (73, 71) := entry (A := Dig.an71) Tryd.func73 (by kernel_rfl) (fd := Dig.fd71) rfl
theorem e72 : EntryOk (74, 72) := entry (A := Dig.an72) Tryd.func74 (by kernel_rfl) (fd := Dig.fd72) rfl
theorem e73 : EntryOk (75, 73) := entry (A := Dig.an73) Tryd.func75 (by kernel_rfl) (fd := Dig.fd73) rfl
theorem e74 : EntryOk (76, 74) := entry (A := Dig.an74) Tryd.func76 (by kernel_rfl) (fd := Dig.fd74) rfl
theorem e75 : EntryOk (77, 75) := entry (A := Dig.an75) Tryd.func77 (by kernel_rfl) (fd := Dig.fd75) rfl
theorem e76 : EntryOk (78, 76) := entry (A := Dig.an76) Tryd.func78 (by kernel_rfl) (fd := Dig.fd76) rfl
theorem e77 : EntryOk (79, 77) := entry (A := Dig.an77) Tryd.func79 (by kernel_rfl) (fd := Dig.fd77) rfl
theorem e79 : EntryOk (81, 79) := entry (A := Dig.an79) Tryd.func81 (by kernel_rfl) (fd := Dig.fd79) rfl
theorem e80 : EntryOk (82, 80) := entry (A := Dig.an80) Tryd.func82 (by kernel_rfl) (fd := Dig.fd80) rfl
theorem e81 : EntryOk (83, 81) := entry (A := Dig.an81) Tryd.func83 (by kernel_rfl) (fd := Dig.fd81) rfl
theorem e82 : EntryOk (84, 82) := entry (A := Dig.an82) Tryd.func84 (by kernel_rfl) (fd := Dig.fd82) rfl
theorem e83 : EntryOk (85, 83) := entry (A := Dig.an83) Tryd.func85 (by kernel_rfl) (fd := Dig.fd83) rfl
theorem e84 : EntryOk (86, 84) := entry (A := Dig.an84) Tryd.func86 (by kernel_rfl) (fd := Dig.fd84) rfl
theorem e85 : EntryOk (87, 85) := entry (A := Dig.an85) Tryd.func87 (by kernel_rfl) (fd := Dig.fd85) rfl
theorem e86 : EntryOk (88, 86) := entry (A := Dig.an86) Tryd.func88 (by kernel_rfl) (fd := Dig.fd86) rfl
theorem e87 : EntryOk (89, 87) := entry (A := Dig.an87) Tryd.func89 (by kernel_rfl) (fd := Dig.fd87) rfl
theorem e88 : EntryOk (90, 88) := entry (A := Dig.an88) Tryd.func90 (by kernel_rfl) (fd := Dig.fd88) rfl
theorem e89 : EntryOk (91, 89) := entry (A := Dig.an89) Tryd.func91 (by kernel_rfl) (fd := Dig.fd89) rfl
theorem e90 : EntryOk (92, 90) := entry (A := Dig.an90) Tryd.func92 (by kernel_rfl) (fd := Dig.fd90) rfl
theorem e91 : EntryOk (93, 91) := entry (A := Dig.an91) Tryd.func93 (by kernel_rfl) (fd := Dig.fd91) rfl
theorem e92 : EntryOk (94, 92) := entry (A := Dig.an92) Tryd.func94 (by kernel_rfl) (fd := Dig.fd92) rfl
theorem e93 : EntryOk (95, 93) := entry (A := Dig.an93) Tryd.func95 (by kernel_rfl) (fd := Dig.fd93) rfl
theorem e94 : EntryOk (96, 94) := entry (A := Dig.an94) Tryd.func96 (by kernel_rfl) (fd := Dig.fd94) rfl
theorem e95 : EntryOk (97, 95) := entry (A := Dig.an95) Tryd.func97 (by kernel_rfl) (fd := Dig.fd95) rfl
theorem e96 : EntryOk (98, 96) := entry (A := Dig.an96) Tryd.func98 (by kernel_rfl) (fd := Dig.fd96) rfl
theorem e97 : EntryOk (99, 97) := entry (A := Dig.an97) Tryd.func99 (by kernel_rfl) (fd := Dig.fd97) rfl
theorem e98 : EntryOk (100, 98) := entry (A := Dig.an98) Tryd.func100 (by kernel_rfl) (fd := Dig.fd98) rfl
theorem e99 : EntryOk (101, 99) := entry (A := Dig.an99) Tryd.func101 (by kernel_rfl) (fd := Dig.fd99) rfl
theorem e100 : EntryOk (102, 100) := entry (A := Dig.an100) Tryd.func102 (by kernel_rfl) (fd := Dig.fd100) rfl
theorem e101 : EntryOk (103, 101) := entry (A := Dig.an101) Tryd.func103 (by kernel_rfl) (fd := Dig.fd101) rfl
theorem e102 : EntryOk (104, 102) := entry (A := Dig.an102) Tryd.func104 (by kernel_rfl) (fd := Dig.fd102) rfl
theorem e103 : EntryOk (105, 103) := entry (A := Dig.an103) Tryd.func105 (by kernel_rfl) (fd := Dig.fd103) rfl
theorem e104 : EntryOk (106, 104) := entry (A := Dig.an104) Tryd.func106 (by kernel_rfl) (fd := Dig.fd104) rfl
theorem e105 : EntryOk (107, 105) := entry (A := Dig.an105) Tryd.func107 (by kernel_rfl) (fd := Dig.fd105) rfl
theorem e106 : EntryOk (108, 106) := entry (A := Dig.an106) Tryd.func108 (by kernel_rfl) (fd := Dig.fd106) rfl
theorem e107 : EntryOk (109, 107) := entry (A := Dig.an107) Tryd.func109 (by kernel_rfl) (fd := Dig.fd107) rfl
theorem e108 : EntryOk (110, 108) := entry (A := Dig.an108) Tryd.func110 (by kernel_rfl) (fd := Dig.fd108) rfl
theorem e109 : EntryOk (111, 109) := entry (A := Dig.an109) Tryd.func111 (by kernel_rfl) (fd := Dig.fd109) rfl
set_option maxRecDepth 100000 in
theorem e78 : EntryOk (80, 78) := by
  intro fd h
  have : (Option.none : Option DFun) = some fd := (show lookS tabS 78 = Option.none from rfl).symm.trans h
  simp at this
set_option maxRecDepth 100000 in
theorem entries : ∀ p ∈ tabC, EntryOk p := by
  simp only [tabC, List.forall_mem_cons]
  exact ⟨e1, e2, e3, e4, e5, e6, e7, e8, e9, e10, e11, e12, e13, e14, e15, e16, e17, e18, e19, e20, e21, e22, e23, e24, e25, e26, e27, e28, e29, e30, e31, e32, e33, e34, e35, e36, e37, e38, e39, e40, e41, e42, e43, e44, e45, e46, e47, e48, e49, e50, e51, e52, e53, e54, e55, e56, e57, e58, e59, e60, e61, e62, e63, e64, e65, e66, e67, e68, e69, e70, e71, e72, e73, e74, e75, e76, e77, e79, e80, e81, e82, e83, e84, e85, e86, e87, e88, e89, e90, e91, e92, e93, e94, e95, e96, e97, e98, e99, e100, e101, e102, e103, e104, e105, e106, e107, e108, e109, e78, by simp⟩
theorem fns {F : FuncId} {f : Nat} {fd : DFun} (hF : cid F = some f) (hf : S0.prog f = some fd) : ∃ fn A, Tryd.prog.funcs[F]? = some fn ∧ digFun Tryd.prog cid A fn = some fd := by
  unfold cid at hF
  cases h : tabC.find? fun p => p.1 == F with
  | none => simp [h] at hF
  | some p =>
    simp only [h, Option.map_some, Option.some.injEq] at hF
    have h1 := List.mem_of_find?_eq_some h
    have h2 : p.1 = F := by have := List.find?_some h; simpa using this
    subst hF h2
    exact entries p h1 fd hf
end Go.Proofs.YteicnlniagbmgaaDoor

/-
  names.name: what it does, by a walk. Conditions: none (lemmas).
-/
namespace Go.Proofs.YteicnlniagbmgaaDoor
open Go.Ab

def nameSaid (es : Array MapEntry) (want : Int) (e : Ending) : Prop :=
  ∃ s : ByteArray, e = .returned (.string s) ∧ ((∃ x ∈ es.toList, x.key = .string s ∧ x.val = .int .u32 want) ∨ (s = ByteArray.empty ∧ ∀ x ∈ es.toList, x.val ≠ .int .u32 want))
def nameWorld (w : World) (w' : World) : Prop := ∃ (n : Nat) (o : Obj), w' = (w.drewN n).alloc o
set_option maxRecDepth 1000000 in
theorem name_walk (bm : Nat) (es : Array MapEntry) (clock : Nat) (want : Int) (w : World) (hb : w.heap[bm]? = some (.map es clock)) (hst1 : ∀ x ∈ es.toList, x.born < clock) (hst2 : (es.toList.map (·.born)).Nodup) (hk : ∀ x ∈ es.toList, ∃ s, x.key = .string s) (hv : ∀ x ∈ es.toList, ∃ v, x.val = .int .u32 v) :
    Calls Tryd.prog 80 #[.map (some bm), .int .u32 want] w fun e w' => nameSaid es want e ∧ nameWorld w w' := by
  have hrg := run_range_map (P := Tryd.prog) w 131 9 23 bm es clock Tryd.underlying131 hb
  go_enter Tryd.func80, Tryd.ntmps80
  go_wp2
  go_loopw [] (fun w' => ∃ (n : Nat) (seen : Array Nat), w' = (w.drewN n).alloc (.mapIter (some bm) clock seen clock) ∧ ∀ x ∈ es.toList, seen.contains x.born = true → x.val ≠ .int .u32 want) (fun w' => (leftOf es (w'.iterSeen w.heap.size)).size)
  case atStart => exact ⟨0, #[], rfl, fun x _ h => by simp at h⟩
  case round =>
    obtain ⟨n, seen, rfl, hno⟩ := hrel
    have hb1 : (w.drewN n).heap[bm]? = some (.map es clock) := hb
    have law := next_map (P := Tryd.prog) (w.drewN n) 0 bm clock clock seen es clock hb1 hst1 (Nat.le_refl _)
    rcases law with ⟨h0, hrun⟩ | ⟨e, he, w2, hw2, hrun⟩
    · have hnx : ∀ ty, (Instr.next (.pointer (some ⟨w.heap.size, 0, none⟩)) false ty).run Tryd.prog ((w.drewN n).alloc (.mapIter (some bm) clock seen clock)) = _ := fun _ => hrun
      go_wp2
      go_ret
      exact ⟨⟨_, rfl, .inr ⟨rfl, fun x hx => hno x hx (all_seen es seen h0 x hx)⟩⟩, n, _, rfl⟩
    · obtain ⟨m, rfl⟩ : ∃ m, w2 = w.drewN m := by
        rcases hw2 with rfl | rfl
        · exact ⟨n, rfl⟩
        · exact ⟨n + 1, rfl⟩
      clear hw2
      obtain ⟨v, hval⟩ := hv e (mem_left he).1
      obtain ⟨s, hkey⟩ := hk e (mem_left he).1
      rw [hval, hkey] at hrun
      have hnx : ∀ ty, (Instr.next (.pointer (some ⟨w.heap.size, 0, none⟩)) false ty).run Tryd.prog ((w.drewN n).alloc (.mapIter (some bm) clock seen clock)) = _ := fun _ => hrun
      have hen := run_entry_map (P := Tryd.prog) (w.drewN m) bm clock seen es clock e hb (mem_left he).1 hst2
      rw [hval, hkey] at hen
      have hsz : (w.drewN m).heap.size = w.heap.size := rfl
      rw [hsz] at hen
      clear hsz
      go_wp2
      · rename_i heq
        go_ret
        exact ⟨⟨s, rfl, .inl ⟨e, (mem_left he).1, hkey, by rw [hval, beq_iff_eq.1 heq]⟩⟩, m, _, rfl⟩
      · rename_i hne
        go_roundw
        case rel =>
          refine ⟨m, seen.push e.born, rfl, fun x hx hc => ?_⟩
          rw [contains_push] at hc
          rcases Bool.or_eq_true _ _ ▸ hc with h1 | h1
          · exact hno x hx h1
          · have : x = e := born_inj hst2 hx (mem_left he).1 (beq_iff_eq.1 h1)
            subst this
            rw [hval]
            intro hc; simp only [Value.int.injEq, true_and] at hc; simp [hc] at hne
        case measure =>
          have e1 : ∀ (k : Nat) (sn : Array Nat), ((w.drewN k).alloc (.mapIter (some bm) clock sn clock)).iterSeen w.heap.size = sn := fun k sn => World.iterSeen_alloc (w.drewN k) _ _ _ _
          rw [e1, e1]
          exact left_shrinks es seen e he
theorem key_str {cid : FuncId → Option Nat} {w : World} {M : MSet} {k : D} {v : Value} (h : RDc cid w M k v.cells.toList) (ha : k.isAgg = isAggV v) (hk : isStr k = true) : ∃ bs : ByteArray, v = .string bs ∧ k = .str bs.data.toList := by
  cases k <;> simp [isStr] at hk
  simp only [RDc] at h
  obtain ⟨bs, h1, h2⟩ := h
  refine ⟨bs, ?_, by rw [h2]⟩
  cases v <;> simp_all [isAggV, D.isAgg, Value.cells]
theorem val_u32 {cid : FuncId → Option Nat} {w : World} {M : MSet} {k : D} {v : Value} (h : RDc cid w M k v.cells.toList) (ha : k.isAgg = isAggV v) (hk : isU32 k = true) : v = .int .u32 (numD k) := by
  cases k <;> simp [isU32] at hk
  rename_i kd n
  cases kd <;> simp at hk
  simp only [RDc] at h
  cases v <;> simp_all [isAggV, D.isAgg, Value.cells, numD]
theorem name_rel {cid : FuncId → Option Nat} {w : World} {M : MSet} (n : Int) : ∀ (ks vs : List D) (es : List MapEntry), RDkeys cid w M ks es → RDvals cid w M vs es → ks.all isStr = true → vs.all isU32 = true → (vs.map numD).Nodup →
    (∀ x ∈ es, ∀ s, x.key = .string s → x.val = .int .u32 n → nameOf ks vs n = .str s.data.toList) ∧ ((∀ x ∈ es, x.val ≠ .int .u32 n) → nameOf ks vs n = .str []) ∧ (∀ x ∈ es, ∃ s, x.key = .string s) ∧ (∀ x ∈ es, ∃ m, x.val = .int .u32 m ∧ m ∈ vs.map numD)
  | [], vs, es, hk, hv, _, _, _ => by
    simp only [RDkeys] at hk; subst hk
    refine ⟨by simp, fun _ => ?_, by simp, by simp⟩
    cases vs <;> rfl
  | k :: ks, vs, es, hk, hv, hks, hvs, hnd => by
    simp only [RDkeys] at hk
    obtain ⟨e, r, rfl, h1, h2, h3⟩ := hk
    cases vs with
    | nil => simp [RDvals] at hv
    | cons v vs =>
      simp only [RDvals, List.cons.injEq] at hv
      obtain ⟨e', r', ⟨rfl, rfl⟩, g1, g2, g3⟩ := hv
      simp only [List.all_cons, Bool.and_eq_true] at hks hvs
      simp only [List.map_cons, List.nodup_cons] at hnd
      obtain ⟨bs, b1, b2⟩ := key_str h1 h2 hks.1
      have b3 := val_u32 g1 g2 hvs.1
      obtain ⟨i1, i2, i3, i4⟩ := name_rel n ks vs r h3 g3 hks.2 hvs.2 hnd.2
      refine ⟨?_, ?_, ?_, ?_⟩
      · intro x hx s hxk hxv
        simp only [List.mem_cons] at hx
        simp only [nameOf]
        rcases hx with rfl | hx
        · rw [b3] at hxv
          simp only [Value.int.injEq, true_and] at hxv
          rw [if_pos hxv, b2]
          rw [b1] at hxk; simp only [Value.string.injEq] at hxk; rw [hxk]
        · obtain ⟨m, hm1, hm2⟩ := i4 x hx
          rw [hxv] at hm1
          simp only [Value.int.injEq, true_and] at hm1
          rw [if_neg (by intro hc; rw [hc, hm1] at hnd; exact hnd.1 hm2)]
          exact i1 x hx s hxk hxv
      · intro hno
        simp only [nameOf]
        rw [if_neg (by intro hc; exact hno e (by simp) (by rw [b3, hc]))]
        exact i2 fun x hx => hno x (by simp [hx])
      · intro x hx
        simp only [List.mem_cons] at hx
        rcases hx with rfl | hx
        · exact ⟨bs, b1⟩
        · exact i3 x hx
      · intro x hx
        simp only [List.mem_cons] at hx
        rcases hx with rfl | hx
        · exact ⟨_, b3, by simp⟩
        · obtain ⟨m, hm1, hm2⟩ := i4 x hx
          exact ⟨m, hm1, by simp [hm2]⟩
theorem name_ok {ds : List D} {d : D} (hd : nameCall ds = some d) : FnOk Tryd.prog cid S0.glob 80 (ds.map AV.d) {} (.d d) {} := by
  intro g e a w ρ own vs hcid hG hs hra
  unfold nameCall at hd
  split at hd
  case h_2 => simp at hd
  rename_i ks xs n
  split at hd <;> simp only [Option.some.injEq, reduceCtorEq] at hd
  rename_i hc
  subst hd
  simp only [List.map_cons, List.map_nil, RAs] at hra
  obtain ⟨v1, r1, O1, O2, rfl, ⟨ha1, rfl⟩, ⟨v2, r2, O3, O4, rfl, ⟨ha2, rfl⟩, ⟨rfl, rfl⟩, hO⟩, hO2⟩ := hra
  have h1 : RV0 g.cid w (MOf g.M0 own) (.fmap ks xs) v1 := by simpa only [RV] using ha1
  have h2 : RV0 g.cid w (MOf g.M0 own) (.int .u32 n) v2 := by simpa only [RV] using ha2
  have h3 := (RV0_one h1 rfl).1
  have h4 := (RV0_one h2 rfl).1
  simp only [RDc, List.cons.injEq, and_true] at h3 h4
  obtain ⟨bm, es, clock, rfl, hb, _, hk, hv, hborn⟩ := h3
  subst h4
  obtain ⟨i1, i2, i3, i4⟩ := name_rel n ks xs es.toList hk hv hc.1 hc.2.1 hc.2.2.1
  have hst1 : ∀ x ∈ es.toList, x.born < clock := by
    intro x hx
    obtain ⟨j, hj⟩ := List.mem_iff_getElem?.1 hx
    have := hborn.2 j x (by simpa using hj)
    have hjl := (List.getElem?_eq_some_iff.1 hj).1
    rw [this, hborn.1]; simpa using hjl
  have hst2 : (es.toList.map (·.born)).Nodup := by
    have e1 : es.toList.map (·.born) = List.range es.size := by
      apply List.ext_getElem?
      intro i
      simp only [List.getElem?_map, List.getElem?_range']
      cases hi : es.toList[i]? with
      | none => rw [List.getElem?_eq_none (by have := List.getElem?_eq_none_iff.1 hi; simpa using this)]; rfl
      | some x =>
        have h1 := hborn.2 i x (by simpa using hi)
        have h2 := (List.getElem?_eq_some_iff.1 hi).1
        rw [List.getElem?_range (by simpa using h2)]; simp [h1]
    rw [e1]; exact List.nodup_range
  have walk := name_walk bm es clock n w hb hst1 hst2 i3 (fun x hx => (i4 x hx).imp fun _ h => h.1)
  refine ⟨⟨Tryd.f80, Tryd.func80, by kernel_rfl, by kernel_rfl⟩, walk.mono fun en w' hh => ?_⟩
  obtain ⟨⟨s, rfl, hs2⟩, m, o, rfl⟩ := hh
  have hname : nameOf ks xs n = .str s.data.toList := by
    rcases hs2 with ⟨x, hx, hxk, hxv⟩ | ⟨rfl, hno⟩
    · exact i1 x hx s hxk hxv
    · rw [i2 hno]; rfl
  have hu := hs.under (w' := (w.drewN m).alloc o) (by show w.heap.size ≤ (w.heap.push o).size; simp) (fun b hb => by show (w.heap.push o)[b]? = _; rw [Array.getElem?_push_lt hb, Array.getElem?_eq_getElem hb]) ⟨rfl, rfl, rfl⟩ (O := []) (by simp [blocks]) (by simp)
  refine ⟨ρ, own.upd .pend [], hu.1, ?_, fun _ _ _ h => h, hu.2⟩
  simp only [SlotR, RA, OwnF.upd_same, and_true]
  rw [hname]
  exact RV_mk (by simp only [RDc]; exact ⟨s, rfl, rfl⟩) rfl
theorem sysOk : SysOk Tryd.prog cid S0 where
  fn := fun hF hf => fns hF hf
  orc := by
    intro f ds d F ho hF
    have h78 : f = 78 := by
      by_cases h : f = 78
      · exact h
      · simp [S0, orcS, h] at ho
    subst h78
    have hF80 : F = 80 := by
      unfold cid at hF
      cases h : tabC.find? fun p => p.1 == F with
      | none => simp [h] at hF
      | some p =>
        simp only [h, Option.map_some, Option.some.injEq] at hF
        have h1 := List.mem_of_find?_eq_some h
        have h2 : p.1 = F := by have := List.find?_some h; simpa using this
        have key : ∀ p ∈ tabC, p.2 = 78 → p.1 = 80 := by decide
        rw [← h2]; exact key p h1 hF
    subst hF80
    intro g e a w ρ own vs
    exact name_ok ho
end Go.Proofs.YteicnlniagbmgaaDoor
